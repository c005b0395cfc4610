/- What is proved: Open binds what an element's attributes bind, resolves its names, and keeps the scope as it was where there is a fault. Conditions: those of tag. -/
import Derived.Test.YtdelafoijplleaaNsTag
set_option linter.unusedVariables false
namespace Go.Proofs.YtdelafoijplleaaN
open Go.RowKit Go.Shelf Go.Proofs.YtdelafoijplleaaW.PrintWords
def openTo : List XA → Binds → Except Int Binds
  | [], m => .ok m
  | a :: t, m => if (bindsS a.1).2 = false then openTo t m
    else if wrongS a.1 (bindsS a.1).1 a.2.1 = true then .error a.2.2
    else if (sget m (bindsS a.1).1).isSome = true then openTo t m
    else openTo t (m ++ [((bindsS a.1).1, a.2.1)])
def openEnd (L : List Binds) (name : ByteArray) (at_ : Int) (xs : List XA) (r : Except Int Binds) : Except (Int × Int) ((ByteArray × ByteArray) × List NA) × List Binds := match r with
  | .error pl => (.error (pl, 2), L)
  | .ok m => match tagS (L ++ [m]) name at_ xs with
    | .error e => (.error e, L)
    | .ok r => (.ok r, L ++ [m])
def openS (L : List Binds) (name : ByteArray) (at_ : Int) (xs : List XA) := openEnd L name at_ xs (openTo xs [])
/-- What lies behind Open. -/
def OpenOut (w : World) (p : Nat) (sv : Value) (at_ : Int) (r : Except (Int × Int) ((ByteArray × ByteArray) × List NA) × List Binds) (e : Ending) (W : World) : Prop :=
  ∃ sv', Sc W p sv' r.2 ∧ Fr w W p sv ∧ (sv'.ownBlock = sv.ownBlock ∨ ∃ k, sv'.ownBlock = some k ∧ w.heap.size ≤ k) ∧ match r.1 with
  | .error (pl, er) => e = .returned (.tuple #[zeroTag, .int .i64 pl, .int .i64 er])
  | .ok (n, l) => ∃ sl, e = .returned (.tuple #[.agg #[.string n.1, .string n.2, sl, .int .i64 at_], .int .i64 0, .int .i64 0]) ∧ W.ownsRow w.heap.size 42 4 sl l.length (flatN l) ∧ ∀ k, sl.ownBlock = some k → sv'.ownBlock ≠ some k ∧ k ≠ p
theorem binds_size (s : ByteArray) : (bindsS s).1.size ≤ s.size := by
  unfold bindsS
  split
  · exact Nat.zero_le _
  · simp only [mkB_size]
    unfold Lib.trimPrefix
    split
    · rw [List.length_drop, data_length]; omega
    · rw [data_length]; exact Nat.le_refl _
theorem boxes0 {w wr : World} {kd at_ : Int} {name text : ByteArray} {av : Value} (hb : Below (w.heap.size + 2) (w2t w kd at_ name text av) wr) :
    wr.cell? ⟨w.heap.size, 0, none⟩ = some (.int .i64 kd) ∧ wr.cell? ⟨w.heap.size, 3, none⟩ = some (.string text) :=
  ⟨cellB hb (cellA (new_cell w _ _ 0 rfl) _) (by simp), cellB hb (cellA (new_cell w _ _ 3 rfl) _) (by simp)⟩
theorem w2t_below (w : World) (kd at_ : Int) (name text : ByteArray) (av : Value) : Below w.heap.size w (w2t w kd at_ name text av) := ((Below.refl _ w).alloc (Nat.le_refl _) _).alloc (by simp) _
theorem open_err {W : World} {b : Nat} {u0 u1 u2 u3 : Value} (r0 : W.cell? ⟨b, 0, none⟩ = some u0) (r1 : W.cell? ⟨b, 1, none⟩ = some u1) (r2 : W.cell? ⟨b, 2, none⟩ = some u2) (r3 : W.cell? ⟨b, 3, none⟩ = some u3) {T : Array Value} {pl er : Int}
    (h4 : T.getD 4 undef = .pointer (some ⟨b, 0, none⟩)) (h5 : T.getD 5 undef = .int .i64 pl) (h6 : T.getD 6 undef = .int .i64 er) {R : Ending → World → Prop}
    (hR : R (.returned (.tuple #[zeroTag, .int .i64 pl, .int .i64 er])) (w4s W b (.string ⟨#[]⟩) (.string ⟨#[]⟩) (.slice none 0 0) (.int .i64 0)).drew) :
    bodyPost Try.prog Try.f8 R .ret { tmps := T, defers := [] } (w4s W b (.string ⟨#[]⟩) (.string ⟨#[]⟩) (.slice none 0 0) (.int .i64 0)).drew := by
  obtain ⟨d0, d1, d2, d3⟩ := set4 W b (.string ⟨#[]⟩) (.string ⟨#[]⟩) (.slice none 0 0) (.int .i64 0) r0 r1 r2 r3
  refine bodyPost_ret (v := .tuple #[zeroTag, .int .i64 pl, .int .i64 er]) ?_ rfl hR
  generalize w4s W b (.string ⟨#[]⟩) (.string ⟨#[]⟩) (.slice none 0 0) (.int .i64 0) = W2 at *
  rw [Array.getD_eq_getD_getElem?] at h4 h5 h6
  simp [results, Try.f8, go_sem, h4, h5, h6, d0, d1, d2, d3, zeroTag]
theorem open_ret {W : World} {b : Nat} {u0 u1 u2 u3 x0 x1 x2 x3 : Value} (r0 : W.cell? ⟨b, 0, none⟩ = some u0) (r1 : W.cell? ⟨b, 1, none⟩ = some u1) (r2 : W.cell? ⟨b, 2, none⟩ = some u2) (r3 : W.cell? ⟨b, 3, none⟩ = some u3) {T : Array Value} {pl er : Int}
    (h4 : T.getD 4 undef = .pointer (some ⟨b, 0, none⟩)) (h5 : T.getD 5 undef = .int .i64 pl) (h6 : T.getD 6 undef = .int .i64 er) {R : Ending → World → Prop}
    (hR : R (.returned (.tuple #[.agg #[x0, x1, x2, x3], .int .i64 pl, .int .i64 er])) (w4s W b x0 x1 x2 x3)) :
    bodyPost Try.prog Try.f8 R .ret { tmps := T, defers := [] } (w4s W b x0 x1 x2 x3) := by
  obtain ⟨d0, d1, d2, d3⟩ := set4 W b x0 x1 x2 x3 r0 r1 r2 r3
  refine bodyPost_ret (v := .tuple #[.agg #[x0, x1, x2, x3], .int .i64 pl, .int .i64 er]) ?_ rfl hR
  generalize w4s W b x0 x1 x2 x3 = W2 at *
  rw [Array.getD_eq_getD_getElem?] at h4 h5 h6
  simp [results, Try.f8, go_sem, h4, h5, h6, d0, d1, d2, d3]
theorem infoM : (Try.prog.info? 61).map (fun i => (i.zero, i.size, i.bytes)) = some (some (.map none), 1, 8) := by kernel_rfl
theorem row_slice {w : World} {base n : Nat} {e : TypeId} {size : Nat} {v : Value} {xs : List Value} (h : w.ownsRow base e size v n xs) : ∃ a c, v = .slice a n c := by
  rcases h.2 with ⟨rfl, h0⟩ | ⟨g, cap, cur, rfl, _⟩
  · exact ⟨none, 0, by rw [h0]⟩
  · exact ⟨_, _, rfl⟩
theorem map_not_row {w : World} {b n : Nat} {m : Binds} {base : Nat} {e : TypeId} {size : Nat} {v : Value} {xs : List Value} (hM : SMap w b m) (h : w.ownsRow base e size v n xs) : v.ownBlock ≠ some b := by
  intro hv
  obtain ⟨es, clock, hb, _⟩ := hM.out
  rcases h.2 with ⟨rfl, _⟩ | ⟨g, cap, cur, rfl, _, hg, _⟩
  · simp [Value.ownBlock] at hv
  · simp [Value.ownBlock] at hv
    subst hv
    rw [hb] at hg
    cases hg
theorem Sc.pushed {wr w9 : World} {p : Nat} {sv : Value} {L : List Binds} (h : Sc wr p sv L) {b : Nat} {m : Binds} (hM : SMap wr b m) {els : List (Nat × Binds)} (h1 : wr.ownsRow 0 61 1 sv els.length (els.map fun e => Value.map (some e.1))) (h2 : els.map (·.2) = L) (h3 : ∀ e ∈ els, SMap wr e.1 e.2)
    (o : Obj) {v' : Value} (hown9 : w9.ownsRow 0 61 1 v' (els.length + 1) ((els.map fun e => Value.map (some e.1)) ++ [.map (some b)])) (hg9 : (wr.alloc o).grownBy w9 sv.ownBlock) (hloc : v'.ownBlock = sv.ownBlock ∨ v'.ownBlock = some (wr.alloc o).heap.size) :
    Sc (w9.setCell ⟨p, 0, none⟩ v') p v' (L ++ [m]) ∧ Fr wr (w9.setCell ⟨p, 0, none⟩ v') p sv ∧ (v'.ownBlock = sv.ownBlock ∨ ∃ k, v'.ownBlock = some k ∧ wr.heap.size ≤ k) := by
  have hp := h.lt
  have keep : ∀ k, k < wr.heap.size → sv.ownBlock ≠ some k → w9.heap[k]? = wr.heap[k]? := fun k hk hne => by
    rw [hg9.block k (by simp; omega) (fun e => hne e.symm), Below.heap_alloc _ _ _ hk]
  have hap : v'.ownBlock ≠ some p := by
    rcases hloc with e | e
    · rw [e]; exact h.apart
    · rw [e]; intro e2; simp at e2; omega
  have hmap : ∀ (c : Nat) (mm : Binds), SMap wr c mm → SMap (w9.setCell ⟨p, 0, none⟩ v') c mm := fun c mm hm => (hm.of_block (keep c hm.lt (map_not_row hm h1))).setCell _ _
  refine ⟨⟨cellSet _ _ _ ((World.cell?_of_block (keep p hp h.apart)).trans h.cell), ?_, ⟨els ++ [(b, m)], ?_, by rw [List.map_append, h2]; rfl, ?_⟩, hap⟩, ⟨hg9.os, hg9.tape, hg9.output, ?_, fun k hk hkp hne => ?_⟩, ?_⟩
  · rw [World.frozen?_setCell, World.frozen?_of_block (keep p hp h.apart)]
    exact h.frozen
  · have := ownsRow_of_blocks (w' := w9.setCell ⟨p, 0, none⟩ v') hown9 (fun j hj => Below.heap_setCell _ ⟨p, 0, none⟩ _ _ (fun e => hap (by rw [hj]; exact congrArg some e)))
    simpa using this
  · intro e he
    rcases List.mem_append.1 he with he | he
    · exact hmap _ _ (h3 e he)
    · simp at he
      subst he
      exact hmap _ _ hM
  · have := hg9.size
    simp [World.setCell] at this ⊢
    omega
  · rw [Below.heap_setCell _ ⟨p, 0, none⟩ _ _ hkp]
    exact keep k hk hne
  · rcases hloc with e | e
    · exact .inl e
    · exact .inr ⟨_, e, by simp⟩
theorem XAttrs.fr {w w' : World} {p : Nat} {sv av : Value} {xs : List XA} (h : XAttrs w av xs) (hF : Fr w w' p sv) (hav : xs ≠ [] → ∀ k, av.ownBlock = some k → sv.ownBlock ≠ some k ∧ k ≠ p) : XAttrs w' av xs := by
  obtain ⟨a, cap, rfl, h⟩ := h
  refine ⟨a, cap, rfl, fun i hi => ?_⟩
  obtain ⟨q, ha, c0, c1, c2⟩ := h i hi
  obtain ⟨d1, d2⟩ := hav (fun e => by subst e; exact absurd hi (Nat.not_lt_zero _)) q.block (by rw [ha]; rfl)
  have hl := lt_of_cell c0
  rw [add_block] at hl
  have hb := hF.block q.block hl d2 d1
  exact ⟨q, ha, (World.cell?_of_block (by rw [add_block]; exact hb)).trans c0, (World.cell?_of_block (by simp only [add_block]; exact hb)).trans c1, (World.cell?_of_block (by simp only [add_block]; exact hb)).trans c2⟩
theorem Sc.setOther {w : World} {q : Nat} {sv : Value} {L : List Binds} (h : Sc w q sv L) (b i : Nat) (x : Value) (hb : b ≠ q) (hs : sv.ownBlock ≠ some b) : Sc (w.setCell ⟨b, i, none⟩ x) q sv L := by
  obtain ⟨els, h1, h2, h3⟩ := h.rows
  exact ⟨cellS h.cell (fun e => hb e.symm), by rw [World.frozen?_setCell]; exact h.frozen, ⟨els, ownsRow_of_blocks h1 (fun j hj => Below.heap_setCell _ ⟨b, i, none⟩ _ _ (fun e => hs (by rw [hj]; exact congrArg some e))), h2, fun e he => (h3 e he).setCell _ _⟩, h.apart⟩
theorem Sc.set4 {w : World} {q : Nat} {sv : Value} {L : List Binds} (h : Sc w q sv L) (b : Nat) (x0 x1 x2 x3 : Value) (hb : b ≠ q) (hs : sv.ownBlock ≠ some b) : Sc (w4s w b x0 x1 x2 x3) q sv L :=
  (((h.setOther b 0 x0 hb hs).setOther b 1 x1 hb hs).setOther b 2 x2 hb hs).setOther b 3 x3 hb hs
theorem Fr.then {a b c : World} {p : Nat} {sv : Value} (h : Fr a b p sv) (hB : Below a.heap.size b c) : Fr a c p sv :=
  ⟨hB.os.trans h.os, hB.tape.trans h.tape, hB.output.trans h.output, Nat.le_trans h.size hB.size, fun k hk hp hs => (hB.block k hk).trans (h.block k hk hp hs)⟩
theorem Fr.ahead {a b c : World} {p : Nat} {sv : Value} (hB : Below a.heap.size a b) (h : Fr b c p sv) : Fr a c p sv :=
  ⟨h.os.trans hB.os, h.tape.trans hB.tape, h.output.trans hB.output, Nat.le_trans hB.size h.size, fun k hk hp hs => (h.block k (Nat.lt_of_lt_of_le hk hB.size) hp hs).trans (hB.block k hk)⟩
theorem tagTo_err {L : List Binds} : ∀ (xs : List XA) (acc : List NA) {pl er : Int}, tagTo L xs acc = .error (pl, er) → er ≠ 0
  | [], acc, pl, er, h => by simp [tagTo] at h
  | a :: t, acc, pl, er, h => by
    unfold tagTo at h
    split at h
    · exact tagTo_err t acc h
    · split at h
      · rename_i h2
        cases h
        exact h2
      · split at h
        · cases h
          decide
        · exact tagTo_err t _ h
theorem tagS_err {L : List Binds} {name : ByteArray} {at_ : Int} {xs : List XA} {pl er : Int} (h : tagS L name at_ xs = .error (pl, er)) : er ≠ 0 := by
  unfold tagS at h
  split at h
  · cases h
    decide
  · split at h
    · rename_i h2
      cases h
      exact h2
    · unfold tagEnd at h
      cases hr : tagTo L xs [] with
      | error e =>
        rw [hr] at h
        cases h
        exact tagTo_err xs [] hr
      | ok l =>
        rw [hr] at h
        cases h
set_option maxRecDepth 100000 in
set_option maxHeartbeats 8000000 in
theorem open_c0 {w : World} {p : Nat} {sv : Value} {L : List Binds} (h : Sc w p sv L) (hL : L.length + 1 < 1099511627776) (kd at_ : Int) (name text : ByteArray) (av : Value) (xs : List XA) (hn : name.size < 4398046511104) (hx : XAttrs w av xs) (hxl : xs.length < 1099511627776) (hxs : ∀ x ∈ xs, x.1.size < 4398046511104) (hav : xs ≠ [] → ∀ k, av.ownBlock = some k → sv.ownBlock ≠ some k ∧ k ≠ p) :
    Calls Try.prog 8 #[.pointer (some ⟨p, 0, none⟩), .agg #[.int .i64 kd, .int .i64 at_, .string name, .string text, av]] w fun e W' => OpenOut w p sv at_ (openS L name at_ xs) e W' := by
  have hx0 := hx
  have hxs0 := hxs
  obtain ⟨aa, acap, rfl, hxc⟩ := hx
  have hmm := @run_makeMap Try.prog
  have hW2 := w2t_below w kd at_ name text (.slice aa xs.length acap)
  obtain ⟨q0, q3⟩ := boxes0 ((Below.refl (w.heap.size + 2) (w2t w kd at_ name text (.slice aa xs.length acap))).alloc (by simp) (.map #[] 0))
  obtain ⟨q1, q2, q4, _⟩ := boxes ((Below.refl (w.heap.size + 2) (w2t w kd at_ name text (.slice aa xs.length acap))).alloc (by simp) (.map #[] 0))
  have hM0 := SMap_made (w2t w kd at_ name text (.slice aa xs.length acap))
  have hB0 : Below (w.heap.size + 2) (w2t w kd at_ name text (.slice aa xs.length acap)) ((w2t w kd at_ name text (.slice aa xs.length acap)).alloc (.map #[] 0)) := (Below.refl _ _).alloc (by simp) _
  have hs2 : (w2t w kd at_ name text (.slice aa xs.length acap)).heap.size = w.heap.size + 1 + 1 := by simp
  rw [hs2] at hM0
  unfold openS
  go_enter Try.func8, Try.ntmps8
  go_wp2
  generalize htt : openTo xs [] = res
  go_loopw [21] (fun i wr => ∃ (k : Nat) (m : Binds), k ≤ xs.length ∧ i = .int .i64 k ∧ openTo (xs.drop k) m = res ∧ Below (w.heap.size + 2) (w2t w kd at_ name text (.slice aa xs.length acap)) wr ∧ SMap wr (w.heap.size + 1 + 1) m)
    (fun i _ => xs.length - (intOf i).toNat)
  case atStart => exact ⟨0, [], Nat.zero_le _, rfl, htt, hB0, hM0⟩
  case round =>
    obtain ⟨k, m, hk, rfl, hto, hBr, hMr⟩ := hrel
    have hBw : Below w.heap.size w wr := hW2.trans (hBr.mono (by omega))
    have hlt2 := hMr.lt
    by_cases hlt : k < xs.length
    · obtain ⟨q, rfl, e0, e1, e2⟩ := hxc k hlt
      have hdrop : xs.drop k = xs[k] :: xs.drop (k + 1) := List.drop_eq_getElem_cons hlt
      have hnm := hxs xs[k] (List.getElem_mem hlt)
      have x0 := cellB hBw e0 (lt_of_cell e0)
      have x1 := cellB hBw e1 (lt_of_cell e1)
      have x2 := cellB hBw e2 (lt_of_cell e2)
      rw [hdrop] at hto
      clear e0 e1 e2 hdrop hxc hxs
      generalize xs[k] = xk at hto hnm x0 x1 x2
      obtain ⟨nm, vl, pl⟩ := xk
      simp only at hnm x0 x1 x2
      have hbn := fun (w' : World) => binds_c nm w'
      have hbs := binds_size nm
      unfold openTo at hto
      simp only at hto
      generalize bindsS nm = bv at hbn hto hbs
      obtain ⟨pf, is⟩ := bv
      simp only at hbn hto hbs
      have hz : ∀ W : World, (zeroValue 9).run Try.prog W = .ok (.string ⟨#[]⟩) W := fun W => by kernel_rfl
      have hnb : ¬ (w.heap.size + 1 = wr.heap.size) := by omega
      have hnb' : ¬ (wr.heap.size = w.heap.size + 1) := by omega
      cases is with
      | false =>
        rw [if_pos rfl] at hto
        go_wp2_with (go_at_call 15; refine (hbn _).mono ?_; rintro e w5 ⟨rfl, hb5⟩; have hB5 : Below (w.heap.size + 2) (w2t w kd at_ name text (.slice (some q) xs.length acap)) w5 := hBr.trans (((Below.refl (w.heap.size + 2) wr).alloc (by omega) (.cells #[.string nm, .string vl, .int .i64 pl] 27)).trans (hb5.mono (by simp; omega))); have hM5 : SMap w5 (w.heap.size + 1 + 1) m := (hMr.alloc _).of_block (hb5.block _ (by simp; omega)); have y0 : w5.cell? ⟨wr.heap.size, 0, none⟩ = some (.string nm) := cellB hb5 (new_cell wr #[.string nm, .string vl, .int .i64 pl] _ 0 rfl) (by simp); have y1 : w5.cell? ⟨wr.heap.size, 1, none⟩ = some (.string vl) := cellB hb5 (new_cell wr #[.string nm, .string vl, .int .i64 pl] _ 1 rfl) (by simp); have y2 : w5.cell? ⟨wr.heap.size, 2, none⟩ = some (.int .i64 pl) := cellB hb5 (new_cell wr #[.string nm, .string vl, .int .i64 pl] _ 2 rfl) (by simp))
        go_roundw
        case rel => exact ⟨k + 1, m, by omega, by simp, hto, hB5, hM5⟩
        case measure => simp [intOf]; omega
      | true =>
        rw [if_neg (by simp)] at hto
        have hwr := fun (w' : World) => wrong_c nm pf vl (by omega) w'
        cases hw : wrongS nm pf vl with
        | true =>
          rw [hw, if_pos rfl] at hto
          rw [hw] at hwr
          go_wp2_with (first | (go_at_call 15; refine (hbn _).mono ?_; rintro e w5 ⟨rfl, hb5⟩; have hB5 : Below (w.heap.size + 2) (w2t w kd at_ name text (.slice (some q) xs.length acap)) w5 := hBr.trans (((Below.refl (w.heap.size + 2) wr).alloc (by omega) (.cells #[.string nm, .string vl, .int .i64 pl] 27)).trans (hb5.mono (by simp; omega))); have hM5 : SMap w5 (w.heap.size + 1 + 1) m := (hMr.alloc _).of_block (hb5.block _ (by simp; omega)); have y0 : w5.cell? ⟨wr.heap.size, 0, none⟩ = some (.string nm) := cellB hb5 (new_cell wr #[.string nm, .string vl, .int .i64 pl] _ 0 rfl) (by simp); have y1 : w5.cell? ⟨wr.heap.size, 1, none⟩ = some (.string vl) := cellB hb5 (new_cell wr #[.string nm, .string vl, .int .i64 pl] _ 1 rfl) (by simp); have y2 : w5.cell? ⟨wr.heap.size, 2, none⟩ = some (.int .i64 pl) := cellB hb5 (new_cell wr #[.string nm, .string vl, .int .i64 pl] _ 2 rfl) (by simp)) | (go_at_call 16; refine (hwr _).mono ?_; rintro e w6 ⟨rfl, hb6⟩; have h56 := hb5.size; have hB6 := hB5.trans (hb6.mono (by simp at h56; omega)); have hM6 := hM5.of_block (hb6.block _ hM5.lt); have x1' := cellB hb6 y1 (lt_of_cell y1); have x2' := cellB hb6 y2 (lt_of_cell y2); obtain ⟨_, _, _, r0, r1, r2, r3, g0, g1, g2, g3⟩ := boxes hB6))
          go_region
          all_goals
            go_wp2
            refine open_err r0 r1 r2 r3 rfl rfl rfl ?_
            rw [show openTo xs [] = .error pl from htt.trans hto.symm]
            have hBB := (set4_below (hW2.trans (hB6.mono (by omega))) (w.heap.size + 1) (by omega) (.string ⟨#[]⟩) (.string ⟨#[]⟩) (.slice none 0 0) (.int .i64 0)).drew
            exact ⟨sv, h.below hBB, Fr.of_below hBB, .inl rfl, rfl⟩
        | false =>
          rw [hw, if_neg (by simp)] at hto
          rw [hw] at hwr
          cases hg : sget m pf with
          | some v =>
            rw [hg, if_pos (show (some v).isSome = true from rfl)] at hto
            go_wp2_with (first | (go_at_call 15; refine (hbn _).mono ?_; rintro e w5 ⟨rfl, hb5⟩; have hB5 : Below (w.heap.size + 2) (w2t w kd at_ name text (.slice (some q) xs.length acap)) w5 := hBr.trans (((Below.refl (w.heap.size + 2) wr).alloc (by omega) (.cells #[.string nm, .string vl, .int .i64 pl] 27)).trans (hb5.mono (by simp; omega))); have hM5 : SMap w5 (w.heap.size + 1 + 1) m := (hMr.alloc _).of_block (hb5.block _ (by simp; omega)); have y0 : w5.cell? ⟨wr.heap.size, 0, none⟩ = some (.string nm) := cellB hb5 (new_cell wr #[.string nm, .string vl, .int .i64 pl] _ 0 rfl) (by simp); have y1 : w5.cell? ⟨wr.heap.size, 1, none⟩ = some (.string vl) := cellB hb5 (new_cell wr #[.string nm, .string vl, .int .i64 pl] _ 1 rfl) (by simp); have y2 : w5.cell? ⟨wr.heap.size, 2, none⟩ = some (.int .i64 pl) := cellB hb5 (new_cell wr #[.string nm, .string vl, .int .i64 pl] _ 2 rfl) (by simp)) | (go_at_call 16; refine (hwr _).mono ?_; rintro e w6 ⟨rfl, hb6⟩; have h56 := hb5.size; have hB6 := hB5.trans (hb6.mono (by simp at h56; omega)); have hM6 := hM5.of_block (hb6.block _ hM5.lt); have x1' := cellB hb6 y1 (lt_of_cell y1); have x2' := cellB hb6 y2 (lt_of_cell y2); obtain ⟨_, _, _, r0, r1, r2, r3, g0, g1, g2, g3⟩ := boxes hB6) | (at_lookup; go_loud (refine wpList_lookup_smap_ok rfl _ _ 61 rfl 9 9 Try.underlying61 Try.underlying9 (hz w6) rfl hM6 pf rfl ?_; rw [hg])))
            exact ⟨⟨k + 1, m, by omega, by simp, hto, hB6, hM6⟩, by simp [intOf]; omega⟩
          | none =>
            rw [hg, if_neg (by simp)] at hto
            go_wp2_with (first | (go_at_call 15; refine (hbn _).mono ?_; rintro e w5 ⟨rfl, hb5⟩; have hB5 : Below (w.heap.size + 2) (w2t w kd at_ name text (.slice (some q) xs.length acap)) w5 := hBr.trans (((Below.refl (w.heap.size + 2) wr).alloc (by omega) (.cells #[.string nm, .string vl, .int .i64 pl] 27)).trans (hb5.mono (by simp; omega))); have hM5 : SMap w5 (w.heap.size + 1 + 1) m := (hMr.alloc _).of_block (hb5.block _ (by simp; omega)); have y0 : w5.cell? ⟨wr.heap.size, 0, none⟩ = some (.string nm) := cellB hb5 (new_cell wr #[.string nm, .string vl, .int .i64 pl] _ 0 rfl) (by simp); have y1 : w5.cell? ⟨wr.heap.size, 1, none⟩ = some (.string vl) := cellB hb5 (new_cell wr #[.string nm, .string vl, .int .i64 pl] _ 1 rfl) (by simp); have y2 : w5.cell? ⟨wr.heap.size, 2, none⟩ = some (.int .i64 pl) := cellB hb5 (new_cell wr #[.string nm, .string vl, .int .i64 pl] _ 2 rfl) (by simp)) | (go_at_call 16; refine (hwr _).mono ?_; rintro e w6 ⟨rfl, hb6⟩; have h56 := hb5.size; have hB6 := hB5.trans (hb6.mono (by simp at h56; omega)); have hM6 := hM5.of_block (hb6.block _ hM5.lt); have x1' := cellB hb6 y1 (lt_of_cell y1); have x2' := cellB hb6 y2 (lt_of_cell y2); obtain ⟨_, _, _, r0, r1, r2, r3, g0, g1, g2, g3⟩ := boxes hB6) | (at_lookup; go_loud (refine wpList_lookup_smap_ok rfl _ _ 61 rfl 9 9 Try.underlying61 Try.underlying9 (hz w6) rfl hM6 pf rfl ?_; rw [hg])) | (at_mapUpdate; go_loud (refine wpList_store_smap rfl _ _ _ 61 rfl 9 9 Try.underlying61 Try.underlying9 rfl hM6 pf vl rfl rfl hg ?_; intro w7 hM7 hg7; have hB7 := hB6.grown hg7 (by have := hM6.lt; omega) (fun j e => by cases e; omega))))
            exact ⟨⟨k + 1, _, by omega, by simp, hto, hB7, hM7⟩, by simp [intOf]; omega⟩
    · obtain rfl : k = xs.length := by omega
      obtain ⟨k1, k2, k4, r0, r1, r2, r3, g0, g1, g2, g3⟩ := boxes hBr
      obtain ⟨k0, k3⟩ := boxes0 hBr
      have hSr := h.below hBw
      have hcr := hSr.cell
      have hfr := hSr.frozen
      obtain ⟨els, e1, e2, e3⟩ := hSr.rows
      have hel : els.length = L.length := by rw [← e2, List.length_map]
      obtain ⟨i0, hi, hz0, hz1, hz2⟩ := info_parts infoM
      have hpl := h.lt
      obtain ⟨sa, scap, rfl⟩ := h.slice
      have hsv : ∀ j, (Value.slice sa L.length scap).ownBlock = some j → j < w.heap.size := fun j hj => by
        obtain ⟨els', e1', _⟩ := h.rows
        exact (e1'.lt j hj).2
      have hrs := hBr.size
      rw [hs2] at hrs
      have hXr : XAttrs wr (.slice aa xs.length acap) xs := hx0.below hBw
      rw [List.drop_length] at hto
      have htt' : openTo xs [] = .ok m := htt.trans hto.symm
      have hLe : els.length + 1 < 1099511627776 := by omega
      clear hel
      cases hts : tagS (L ++ [m]) name at_ xs with
      | error er0 =>
        obtain ⟨pl, er⟩ := er0
        have her := tagS_err hts
        have heb : (er == 0) = false := by rw [beq_eq_false_iff_ne]; exact her
        have hnb2 : (er != 0) = true := by rw [bne_iff_ne]; exact her
        go_wp2_with (first | (at_builtin; go_loud (refine wpList_append_own_at _ rfl _ _ 58 rfl 0 61 i0 (.map none) 1 8 Try.underlying58 hi hz0 hz1 hz2 rfl (by decide) _ _ _ rfl (ownsRow_of_blocks e1 (fun j hj => Below.heap_alloc _ _ _ (e1.lt j hj).2)) ⟨wr.heap.size, 0, none⟩ 1 1 [.map (some (w.heap.size + 1 + 1))] rfl rfl (cells_new wr [.map (some (w.heap.size + 1 + 1))] 61) (by simp [Value.oneCell']) (by unfold maxLen; omega) (by omega) (Nat.zero_le _) ?_; intro v9 w9 hown9 hg9 _ hloc9; obtain ⟨g9, cap9, rfl⟩ := row_some hown9; obtain ⟨hS10, hF10, hl10⟩ := hSr.pushed hMr e1 e2 e3 _ hown9 hg9 hloc9; have q2 : w9.cell? ⟨p, 0, none⟩ = some (.slice sa L.length scap) := (World.cell?_of_block (hg9.block p (by have := hSr.lt; simp; omega) (fun e => hSr.apart e.symm))).trans ((World.cell?_of_block (Below.heap_alloc _ _ _ hSr.lt)).trans hcr); have qf : w9.frozen? ⟨p, 0, none⟩ = false := (World.frozen?_of_block (hg9.block p (by have := hSr.lt; simp; omega) (fun e => hSr.apart e.symm))).trans ((World.frozen?_of_block (Below.heap_alloc _ _ _ hSr.lt)).trans hfr); have hFw := Fr.ahead hBw hF10; have hXw := hx0.fr hFw hav; have kk : ∀ i v, wr.cell? ⟨w.heap.size, i, none⟩ = some v → (w9.setCell ⟨p, 0, none⟩ (.slice (some ⟨g9, 0, none⟩) (els.length + 1) cap9)).cell? ⟨w.heap.size, i, none⟩ = some v := fun i v hv => (World.cell?_of_block (hF10.block w.heap.size (by omega) (by omega) (fun e => by have := hsv _ e; omega))).trans hv; have z0 := kk 0 _ k0; have z1 := kk 1 _ k1; have z2 := kk 2 _ k2; have z3 := kk 3 _ k3; have z4 := kk 4 _ k4; have htag := tag_c hS10 (by rw [List.length_append]; simpa using hL) kd at_ name text (.slice aa xs.length acap) xs hn hXw hxl hxs0; rw [hts] at htag; have yy : ∀ i v, wr.cell? ⟨w.heap.size + 1, i, none⟩ = some v → (w9.setCell ⟨p, 0, none⟩ (.slice (some ⟨g9, 0, none⟩) (els.length + 1) cap9)).cell? ⟨w.heap.size + 1, i, none⟩ = some v := fun i v hv => (World.cell?_of_block (hF10.block (w.heap.size + 1) (by omega) (by omega) (fun e => by have := hsv _ e; omega))).trans hv; have yf : ∀ i, wr.frozen? ⟨w.heap.size + 1, i, none⟩ = false → (w9.setCell ⟨p, 0, none⟩ (.slice (some ⟨g9, 0, none⟩) (els.length + 1) cap9)).frozen? ⟨w.heap.size + 1, i, none⟩ = false := fun i hv => (World.frozen?_of_block (hF10.block (w.heap.size + 1) (by omega) (by omega) (fun e => by have := hsv _ e; omega))).trans hv; have h10 := hF10.size)) | (go_at_call 17; refine htag.mono ?_; rintro e w11 ⟨ho, hb11⟩; unfold TagOut zeroTag at ho; simp only at ho; subst ho; have hS11 := (hS10.below hb11).alloc (.cells #[.string ⟨#[]⟩, .string ⟨#[]⟩, .slice none 0 0, .int .i64 0] 33)) | (go_at_call 13; go_loud (refine (close_some hS11 (by rw [List.length_append]; simpa using hL) (by simp)).mono ?_; rintro e w12 ⟨rfl, sv2, hS12, hsv2, hF12⟩; have hne1 : (Value.slice (some ⟨g9, 0, none⟩) (els.length + 1) cap9).ownBlock ≠ some (w.heap.size + 1) := (by rcases hl10 with e | ⟨j, e, hj⟩; (rw [e]; intro e2; have := hsv _ e2; omega); (rw [e]; intro e2; simp at e2; omega)); have hs11 := hb11.size; have bl : w12.heap[w.heap.size + 1]? = (w9.setCell ⟨p, 0, none⟩ (.slice (some ⟨g9, 0, none⟩) (els.length + 1) cap9)).heap[w.heap.size + 1]? := (hF12.block (w.heap.size + 1) (by simp; omega) (by omega) hne1).trans ((Below.heap_alloc _ _ _ (by omega)).trans (hb11.block _ (by omega))); have y0 := (World.cell?_of_block bl).trans (yy 0 _ r0); have y1 := (World.cell?_of_block bl).trans (yy 1 _ r1); have y2 := (World.cell?_of_block bl).trans (yy 2 _ r2); have y3 := (World.cell?_of_block bl).trans (yy 3 _ r3); have e0 := (World.frozen?_of_block bl).trans (yf 0 g0); have e1' := (World.frozen?_of_block bl).trans (yf 1 g1); have e2' := (World.frozen?_of_block bl).trans (yf 2 g2); have e3' := (World.frozen?_of_block bl).trans (yf 3 g3))))
        refine open_ret y0 y1 y2 y3 rfl rfl rfl ?_
        rw [htt']
        unfold openEnd
        simp only [hts]
        rw [List.dropLast_concat] at hS12
        have hs10 := hF10.size
        refine ⟨sv2, hS12.set4 _ _ _ _ _ (by omega) (by rw [hsv2]; exact hne1), ?_, ?_, rfl⟩
        · have hF2 : Fr w (w11.alloc (.cells #[.string ⟨#[]⟩, .string ⟨#[]⟩, .slice none 0 0, .int .i64 0] 33)) p (.slice sa L.length scap) := hFw.then ((hb11.mono (by omega)).trans ((Below.refl _ _).alloc (by omega) _))
          have hF3 : Fr w w12 p (.slice sa L.length scap) := ⟨hF12.os.trans hF2.os, hF12.tape.trans hF2.tape, hF12.output.trans hF2.output, Nat.le_trans hF2.size hF12.size, fun k hk hkp hne => (hF12.block k (Nat.lt_of_lt_of_le hk hF2.size) hkp (by
            rcases hl10 with e | ⟨j, e, hj⟩
            · rw [e]; exact hne
            · rw [e]; intro e2; simp at e2; omega)).trans (hF2.block k hk hkp hne)⟩
          exact hF3.then (set4_below (Below.refl _ _) _ (by omega) _ _ _ _)
        · rw [hsv2]
          rcases hl10 with e | ⟨j, e, hj⟩
          · exact .inl e
          · exact .inr ⟨j, e, by omega⟩
      | ok r0 =>
        obtain ⟨⟨n1, n2⟩, l⟩ := r0
        go_wp2_with (first | (at_builtin; go_loud (refine wpList_append_own_at _ rfl _ _ 58 rfl 0 61 i0 (.map none) 1 8 Try.underlying58 hi hz0 hz1 hz2 rfl (by decide) _ _ _ rfl (ownsRow_of_blocks e1 (fun j hj => Below.heap_alloc _ _ _ (e1.lt j hj).2)) ⟨wr.heap.size, 0, none⟩ 1 1 [.map (some (w.heap.size + 1 + 1))] rfl rfl (cells_new wr [.map (some (w.heap.size + 1 + 1))] 61) (by simp [Value.oneCell']) (by unfold maxLen; omega) (by omega) (Nat.zero_le _) ?_; intro v9 w9 hown9 hg9 _ hloc9; obtain ⟨g9, cap9, rfl⟩ := row_some hown9; obtain ⟨hS10, hF10, hl10⟩ := hSr.pushed hMr e1 e2 e3 _ hown9 hg9 hloc9; have q2 : w9.cell? ⟨p, 0, none⟩ = some (.slice sa L.length scap) := (World.cell?_of_block (hg9.block p (by have := hSr.lt; simp; omega) (fun e => hSr.apart e.symm))).trans ((World.cell?_of_block (Below.heap_alloc _ _ _ hSr.lt)).trans hcr); have qf : w9.frozen? ⟨p, 0, none⟩ = false := (World.frozen?_of_block (hg9.block p (by have := hSr.lt; simp; omega) (fun e => hSr.apart e.symm))).trans ((World.frozen?_of_block (Below.heap_alloc _ _ _ hSr.lt)).trans hfr); have hFw := Fr.ahead hBw hF10; have hXw := hx0.fr hFw hav; have kk : ∀ i v, wr.cell? ⟨w.heap.size, i, none⟩ = some v → (w9.setCell ⟨p, 0, none⟩ (.slice (some ⟨g9, 0, none⟩) (els.length + 1) cap9)).cell? ⟨w.heap.size, i, none⟩ = some v := fun i v hv => (World.cell?_of_block (hF10.block w.heap.size (by omega) (by omega) (fun e => by have := hsv _ e; omega))).trans hv; have z0 := kk 0 _ k0; have z1 := kk 1 _ k1; have z2 := kk 2 _ k2; have z3 := kk 3 _ k3; have z4 := kk 4 _ k4; have htag := tag_c hS10 (by rw [List.length_append]; simpa using hL) kd at_ name text (.slice aa xs.length acap) xs hn hXw hxl hxs0; rw [hts] at htag; have yy : ∀ i v, wr.cell? ⟨w.heap.size + 1, i, none⟩ = some v → (w9.setCell ⟨p, 0, none⟩ (.slice (some ⟨g9, 0, none⟩) (els.length + 1) cap9)).cell? ⟨w.heap.size + 1, i, none⟩ = some v := fun i v hv => (World.cell?_of_block (hF10.block (w.heap.size + 1) (by omega) (by omega) (fun e => by have := hsv _ e; omega))).trans hv; have yf : ∀ i, wr.frozen? ⟨w.heap.size + 1, i, none⟩ = false → (w9.setCell ⟨p, 0, none⟩ (.slice (some ⟨g9, 0, none⟩) (els.length + 1) cap9)).frozen? ⟨w.heap.size + 1, i, none⟩ = false := fun i hv => (World.frozen?_of_block (hF10.block (w.heap.size + 1) (by omega) (by omega) (fun e => by have := hsv _ e; omega))).trans hv; have h10 := hF10.size)) | (go_at_call 17; refine htag.mono ?_; rintro e w11 ⟨ho, hb11⟩; unfold TagOut at ho; simp only at ho; obtain ⟨sl, rfl, hsl⟩ := ho; obtain ⟨sla, slc, rfl⟩ := row_slice hsl; have y0 := cellA (cellB hb11 (yy 0 _ r0) (lt_of_cell (yy 0 _ r0))) (.cells #[.string n1, .string n2, .slice sla l.length slc, .int .i64 at_] 33); have y1 := cellA (cellB hb11 (yy 1 _ r1) (lt_of_cell (yy 1 _ r1))) (.cells #[.string n1, .string n2, .slice sla l.length slc, .int .i64 at_] 33); have y2 := cellA (cellB hb11 (yy 2 _ r2) (lt_of_cell (yy 2 _ r2))) (.cells #[.string n1, .string n2, .slice sla l.length slc, .int .i64 at_] 33); have y3 := cellA (cellB hb11 (yy 3 _ r3) (lt_of_cell (yy 3 _ r3))) (.cells #[.string n1, .string n2, .slice sla l.length slc, .int .i64 at_] 33); have e0 := freeB ((Below.refl _ _).alloc (Nat.le_refl _) (.cells #[.string n1, .string n2, .slice sla l.length slc, .int .i64 at_] 33)) (freeB hb11 (yf 0 g0) (lt_of_cell (yy 0 _ r0))) (Nat.lt_of_lt_of_le (lt_of_cell (yy 0 _ r0)) hb11.size); have e1' := freeB ((Below.refl _ _).alloc (Nat.le_refl _) (.cells #[.string n1, .string n2, .slice sla l.length slc, .int .i64 at_] 33)) (freeB hb11 (yf 1 g1) (lt_of_cell (yy 1 _ r1))) (Nat.lt_of_lt_of_le (lt_of_cell (yy 1 _ r1)) hb11.size); have e2' := freeB ((Below.refl _ _).alloc (Nat.le_refl _) (.cells #[.string n1, .string n2, .slice sla l.length slc, .int .i64 at_] 33)) (freeB hb11 (yf 2 g2) (lt_of_cell (yy 2 _ r2))) (Nat.lt_of_lt_of_le (lt_of_cell (yy 2 _ r2)) hb11.size); have e3' := freeB ((Below.refl _ _).alloc (Nat.le_refl _) (.cells #[.string n1, .string n2, .slice sla l.length slc, .int .i64 at_] 33)) (freeB hb11 (yf 3 g3) (lt_of_cell (yy 3 _ r3))) (Nat.lt_of_lt_of_le (lt_of_cell (yy 3 _ r3)) hb11.size)))
        have hs10 := hF10.size
        have hW : Below w.heap.size (w9.setCell ⟨p, 0, none⟩ (.slice (some ⟨g9, 0, none⟩) (els.length + 1) cap9)) (w11.alloc (.cells #[.string n1, .string n2, .slice sla l.length slc, .int .i64 at_] 33)) := (hb11.mono (by omega)).trans ((Below.refl _ _).alloc (by have := hb11.size; omega) _)
        have hne1 : (Value.slice (some ⟨g9, 0, none⟩) (els.length + 1) cap9).ownBlock ≠ some (w.heap.size + 1) := by
          rcases hl10 with e | ⟨j, e, hj⟩
          · rw [e]; intro e2; have := hsv _ e2; omega
          · rw [e]; intro e2; simp at e2; omega
        have hrow' := fun j hj => (hsl.lt j hj).1
        have hgl : g9 < (w9.setCell ⟨p, 0, none⟩ (.slice (some ⟨g9, 0, none⟩) (els.length + 1) cap9)).heap.size := by
          obtain ⟨els', f1, _⟩ := hS10.rows
          exact (f1.lt g9 rfl).2
        refine open_ret y0 y1 y2 y3 rfl rfl rfl ?_
        rw [htt']
        unfold openEnd
        simp only [hts]
        refine ⟨_, ((hS10.below hb11).alloc _).set4 _ _ _ _ _ (by omega) hne1, hFw.then (set4_below hW _ (by omega) _ _ _ _), ?_, _, rfl, ?_, ?_⟩
        · rcases hl10 with e | ⟨j, e, hj⟩
          · exact .inl e
          · exact .inr ⟨j, e, by omega⟩
        · refine ownsRow_of_blocks (own_weaken hsl (by omega)) (fun j hj => ?_)
          rw [set4_block _ _ _ _ _ _ _ (by have := hrow' j hj; omega), Below.heap_alloc _ _ _ (hsl.lt j hj).2]
        · intro j hj
          have := hrow' j hj
          refine ⟨?_, by omega⟩
          intro e2
          simp [Value.ownBlock] at e2
          omega
theorem open_c {w : World} {p : Nat} {sv : Value} {L : List Binds} (h : Sc w p sv L) (hL : L.length + 1 < 1099511627776) (kd at_ : Int) (name text : ByteArray) (av : Value) (xs : List XA) (hn : name.size < 4398046511104) (hx : XAttrs w av xs) (hxl : xs.length < 1099511627776) (hxs : ∀ x ∈ xs, x.1.size < 4398046511104) (hav : ∀ k, av.ownBlock = some k → sv.ownBlock ≠ some k ∧ k ≠ p) :
    Calls Try.prog 8 #[.pointer (some ⟨p, 0, none⟩), .agg #[.int .i64 kd, .int .i64 at_, .string name, .string text, av]] w fun e W' => OpenOut w p sv at_ (openS L name at_ xs) e W' :=
  open_c0 h hL kd at_ name text av xs hn hx hxl hxs (fun _ => hav)
end Go.Proofs.YtdelafoijplleaaN
