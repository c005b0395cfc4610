/- What is proved: Resolve and resolve tell what the prefix's space and the local part are, or which error; Close drops the innermost element. Conditions: those of the scope; names of less than 2^42 bytes. -/
import Derived.Test.YtdelafoijplleaaNsScope
set_option linter.unusedVariables false
namespace Go.Proofs.YtdelafoijplleaaN
open Go.RowKit Go.Shelf
def resolveS (L : List Binds) (q : ByteArray) (attr : Bool) : (ByteArray × ByteArray) × Int :=
  if (qnS q).2.2 = false then ((⟨#[]⟩, ⟨#[]⟩), 2)
  else if attr = true ∧ (qnS q).1 = ⟨#[]⟩ then ((⟨#[]⟩, (qnS q).2.1), 0)
  else if (spaceS L (qnS q).1).2 = false then ((⟨#[]⟩, ⟨#[]⟩), 4)
  else (((spaceS L (qnS q).1).1, (qnS q).2.1), 0)
def nameV (n : ByteArray × ByteArray) : Value := .agg #[.string n.1, .string n.2]
theorem new_cell (w : World) (cs : Array Value) (t : TypeId) (i : Nat) {v : Value} (h : cs[i]? = some v) : (w.alloc (.cells cs t)).cell? ⟨w.heap.size, i, none⟩ = some v := by
  unfold World.cell?
  rw [heap_alloc_new]
  exact h
theorem new_free (w : World) (cs : Array Value) (t : TypeId) (i : Nat) : (w.alloc (.cells cs t)).frozen? ⟨w.heap.size, i, none⟩ = false := by
  unfold World.frozen?
  rw [heap_alloc_new]
  simp
theorem cellB {n : Nat} {a b : World} (hb : Below n a b) {p : Addr} {v : Value} (h : a.cell? p = some v) (hp : p.block < n) : b.cell? p = some v := (hb.cell hp).trans h
theorem freeB {n : Nat} {a b : World} (hb : Below n a b) {p : Addr} (h : a.frozen? p = false) (hp : p.block < n) : b.frozen? p = false := (World.frozen?_of_block (hb.block _ hp)).trans h
theorem set2 (w : World) (b : Nat) (x y : Value) {u v : Value} (h0 : w.cell? ⟨b, 0, none⟩ = some u) (h1 : w.cell? ⟨b, 1, none⟩ = some v) :
    ((w.setCell ⟨b, 0, none⟩ x).setCell ⟨b, 1, none⟩ y).cell? ⟨b, 0, none⟩ = some x ∧ ((w.setCell ⟨b, 0, none⟩ x).setCell ⟨b, 1, none⟩ y).cell? ⟨b, 1, none⟩ = some y := by
  have e1 : (w.setCell ⟨b, 0, none⟩ x).cell? ⟨b, 1, none⟩ = some v := by rw [World.cell?_setCell_other]; exact h1; simp
  exact ⟨by rw [World.cell?_setCell_other]; exact cellSet w ⟨b, 0, none⟩ x h0; simp, cellSet _ ⟨b, 1, none⟩ y e1⟩
set_option maxRecDepth 100000 in
set_option maxHeartbeats 2000000 in
theorem resolve_c {w : World} {p : Nat} {sv : Value} {L : List Binds} (h : Sc w p sv L) (hL : L.length < 1099511627776) (q : ByteArray) (hq : q.size < 4398046511104) (attr : Bool) :
    Calls Try.prog 18 #[.pointer (some ⟨p, 0, none⟩), .string q, .bool attr] w fun e W' => e = .returned (.tuple #[nameV (resolveS L q attr).1, .int .i64 (resolveS L q attr).2]) ∧ Below w.heap.size w W' := by
  have hqn := fun w => qname_c q hq w
  unfold resolveS nameV
  generalize qnS q = r at *
  obtain ⟨pf, lc, ok⟩ := r
  simp only at hqn ⊢
  cases ok with
  | false =>
    rw [if_pos rfl]
    go_enter Try.func18, Try.ntmps18
    go_wp2_with (go_at_call 26; refine (hqn _).mono ?_; rintro e w1 ⟨rfl, hb1⟩; have hB1 := ((Below.refl w.heap.size w).alloc (Nat.le_refl _) _).trans (hb1.mono (by simp)); have c0 := cellB hb1 (new_cell w _ _ 0 rfl) (by simp); have c1 := cellB hb1 (new_cell w _ _ 1 rfl) (by simp); have f0 := freeB hb1 (new_free w _ _ 0) (by simp); have f1 := freeB hb1 (new_free w _ _ 1) (by simp))
    obtain ⟨d0, d1⟩ := set2 w1 w.heap.size (.string ⟨#[]⟩) (.string ⟨#[]⟩) c0 c1
    refine bodyPost_ret (v := .tuple #[.agg #[.string ⟨#[]⟩, .string ⟨#[]⟩], .int .i64 2]) (by simp [results, Try.f18, go_sem, d0, d1]) rfl ⟨rfl, ?_⟩
    exact (hB1.setCell (p := ⟨w.heap.size, 0, none⟩) (Nat.le_refl _) _).setCell (p := ⟨w.heap.size, 1, none⟩) (Nat.le_refl _) _
  | true =>
    rw [if_neg (by simp)]
    have hbool : pf.toList.isEmpty = decide (pf = ⟨#[]⟩) := isEmpty_eq pf
    by_cases hat : attr = true ∧ pf = ⟨#[]⟩
    · rw [if_pos hat]
      obtain ⟨rfl, rfl⟩ := hat
      clear hbool
      go_enter Try.func18, Try.ntmps18
      go_wp2_with (go_at_call 26; refine (hqn _).mono ?_; rintro e w1 ⟨rfl, hb1⟩; have hB1 := ((Below.refl w.heap.size w).alloc (Nat.le_refl _) _).trans (hb1.mono (by simp)); have c0 := cellB hb1 (new_cell w _ _ 0 rfl) (by simp); have c1 := cellB hb1 (new_cell w _ _ 1 rfl) (by simp); have f0 := freeB hb1 (new_free w _ _ 0) (by simp); have f1 := freeB hb1 (new_free w _ _ 1) (by simp))
      obtain ⟨d0, d1⟩ := set2 w1 w.heap.size (.string ⟨#[]⟩) (.string lc) c0 c1
      refine bodyPost_ret (v := .tuple #[.agg #[.string ⟨#[]⟩, .string lc], .int .i64 0]) (by simp [results, Try.f18, go_sem, d0, d1]) rfl ⟨rfl, ?_⟩
      exact (hB1.setCell (p := ⟨w.heap.size, 0, none⟩) (Nat.le_refl _) _).setCell (p := ⟨w.heap.size, 1, none⟩) (Nat.le_refl _) _
    · rw [if_neg hat]
      have hsp := fun (w' : World) (h' : Sc w' p sv L) => space_c h' hL pf
      generalize spaceS L pf = s at *
      obtain ⟨sp, is⟩ := s
      simp only at hsp ⊢
      have hcase : attr = false ∨ (attr = true ∧ pf.toList.isEmpty = false) := by
        cases attr with
        | false => exact .inl rfl
        | true => exact .inr ⟨rfl, by rw [hbool, decide_eq_false_iff_not]; exact fun e => hat ⟨rfl, e⟩⟩
      clear hbool hat
      rcases hcase with rfl | ⟨rfl, hne⟩ <;> cases is
      all_goals
        go_enter Try.func18, Try.ntmps18
        go_wp2_with (first | (go_at_call 26; refine (hqn _).mono ?_; rintro e w1 ⟨rfl, hb1⟩; have hB1 := ((Below.refl w.heap.size w).alloc (Nat.le_refl _) _).trans (hb1.mono (by simp)); have hS1 := (h.alloc _).below hb1) | (go_at_call 14; refine (hsp _ hS1).mono ?_; rintro e w2 ⟨rfl, hb2⟩; have hb3 := hb1.trans (hb2.mono hb1.size); have hB2 := hB1.trans (hb2.mono (Nat.le_trans (by simp) hb1.size)); have c0 := cellB hb3 (new_cell w _ _ 0 rfl) (by simp); have c1 := cellB hb3 (new_cell w _ _ 1 rfl) (by simp); have f0 := freeB hb3 (new_free w _ _ 0) (by simp); have f1 := freeB hb3 (new_free w _ _ 1) (by simp)))
      all_goals first
        | (obtain ⟨d0, d1⟩ := set2 w2 w.heap.size (.string ⟨#[]⟩) (.string ⟨#[]⟩) c0 c1
           refine bodyPost_ret (v := .tuple #[.agg #[.string ⟨#[]⟩, .string ⟨#[]⟩], .int .i64 4]) (by simp [results, Try.f18, go_sem, d0, d1]; done) rfl ⟨rfl, ?_⟩
           exact (hB2.setCell (p := ⟨w.heap.size, 0, none⟩) (Nat.le_refl _) _).setCell (p := ⟨w.heap.size, 1, none⟩) (Nat.le_refl _) _)
        | (obtain ⟨d0, d1⟩ := set2 w2 w.heap.size (.string sp) (.string lc) c0 c1
           refine bodyPost_ret (v := .tuple #[.agg #[.string sp, .string lc], .int .i64 0]) (by simp [results, Try.f18, go_sem, d0, d1]; done) rfl ⟨rfl, ?_⟩
           exact (hB2.setCell (p := ⟨w.heap.size, 0, none⟩) (Nat.le_refl _) _).setCell (p := ⟨w.heap.size, 1, none⟩) (Nat.le_refl _) _)
set_option maxRecDepth 100000 in
set_option maxHeartbeats 2000000 in
theorem Resolve_c {w : World} {p : Nat} {sv : Value} {L : List Binds} (h : Sc w p sv L) (hL : L.length < 1099511627776) (q : ByteArray) (hq : q.size < 4398046511104) :
    Calls Try.prog 9 #[.pointer (some ⟨p, 0, none⟩), .string q] w fun e W' => e = .returned (.tuple #[nameV (resolveS L q false).1, .int .i64 (resolveS L q false).2]) ∧ Below w.heap.size w W' := by
  have hr := fun (w' : World) (h' : Sc w' p sv L) => resolve_c h' hL q hq false
  generalize resolveS L q false = s at *
  obtain ⟨⟨sp, lc⟩, er⟩ := s
  unfold nameV at hr ⊢
  simp only at hr ⊢
  go_enter Try.func9, Try.ntmps9
  go_wp2_with (go_at_call 18; refine (hr _ (h.alloc _)).mono ?_; rintro e w1 ⟨rfl, hb1⟩; have hB1 := ((Below.refl w.heap.size w).alloc (Nat.le_refl _) _).trans (hb1.mono (by simp)); have c0 := cellB hb1 (new_cell w _ _ 0 rfl) (by simp); have c1 := cellB hb1 (new_cell w _ _ 1 rfl) (by simp); have f0 := freeB hb1 (new_free w _ _ 0) (by simp); have f1 := freeB hb1 (new_free w _ _ 1) (by simp))
  obtain ⟨d0, d1⟩ := set2 w1 w.heap.size (.string sp) (.string lc) c0 c1
  refine bodyPost_ret (v := .tuple #[.agg #[.string sp, .string lc], .int .i64 er]) (by simp [results, Try.f9, go_sem, d0, d1]) rfl ⟨rfl, ?_⟩
  exact (hB1.setCell (p := ⟨w.heap.size, 0, none⟩) (Nat.le_refl _) _).setCell (p := ⟨w.heap.size, 1, none⟩) (Nat.le_refl _) _
end Go.Proofs.YtdelafoijplleaaN
