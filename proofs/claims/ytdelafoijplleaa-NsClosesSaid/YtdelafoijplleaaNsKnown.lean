/- What is proved: the laws' known() of names answers true. Conditions: none. -/
import Derived.Test.YtdelafoijplleaaNsOpen
set_option linter.unusedVariables false
namespace Go.Proofs.YtdelafoijplleaaN
open Go.RowKit Go.Shelf Go.Proofs.YtdelafoijplleaaW.PrintWords
/-- Attributes that a literal lays. -/
def flatX (xs : List XA) : List Value := xs.flatMap fun x => [.string x.1, .string x.2.1, .int .i64 x.2.2]
theorem flatX_get : ∀ (xs : List XA) (i : Nat) (h : i < xs.length), (flatX xs)[i * 3]? = some (.string xs[i].1) ∧ (flatX xs)[i * 3 + 1]? = some (.string xs[i].2.1) ∧ (flatX xs)[i * 3 + 2]? = some (.int .i64 xs[i].2.2)
  | x :: t, 0, _ => by simp [flatX]
  | x :: t, i + 1, h => by
    have := flatX_get t i (by simpa using h)
    have e : flatX (x :: t) = [.string x.1, .string x.2.1, .int .i64 x.2.2] ++ flatX t := by simp [flatX]
    rw [e]
    refine ⟨?_, ?_, ?_⟩
    · rw [show (i + 1) * 3 = 3 + i * 3 by omega, List.getElem?_append_right (by simp)]
      simpa using this.1
    · rw [show (i + 1) * 3 + 1 = 3 + (i * 3 + 1) by omega, List.getElem?_append_right (by simp)]
      simpa using this.2.1
    · rw [show (i + 1) * 3 + 2 = 3 + (i * 3 + 2) by omega, List.getElem?_append_right (by simp)]
      simpa using this.2.2
theorem XAttrs_new (w : World) (xs : List XA) (t : TypeId) (cap : Nat) : XAttrs (w.alloc (.cells (flatX xs).toArray t)) (.slice (some ⟨w.heap.size, 0, none⟩) xs.length cap) xs := by
  refine ⟨_, cap, rfl, fun i hi => ⟨_, rfl, ?_⟩⟩
  obtain ⟨a, b, c⟩ := flatX_get xs i hi
  simp only [plain_add, Nat.zero_add]
  exact ⟨new_cell w _ t _ (by simpa using a), new_cell w _ t _ (by simpa using b), new_cell w _ t _ (by simpa using c)⟩
def exB {ε α : Type} [DecidableEq α] (r : Except ε α) (a : α) : Bool := match r with
  | .ok b => decide (b = a)
  | .error _ => false
theorem ex_of {ε α : Type} [DecidableEq α] {r : Except ε α} {a : α} (h : exB r a = true) : r = .ok a := by
  cases r with
  | error e => cases h
  | ok b => rw [of_decide_eq_true h]
def kX : List XA := [(⟨#[120, 109, 108, 110, 115, 58, 112]⟩, ⟨#[117]⟩, 0), (⟨#[120, 109, 108, 110, 115]⟩, ⟨#[100]⟩, 0), (⟨#[120]⟩, ⟨#[49]⟩, 0)]
def kM : Binds := [(⟨#[112]⟩, ⟨#[117]⟩), (⟨#[]⟩, ⟨#[100]⟩)]
theorem k_to : openTo kX [] = .ok kM := ex_of (by decide +kernel)
theorem k_tag : tagS ([] ++ [kM]) ⟨#[112, 58, 97]⟩ 0 kX = .ok ((⟨#[117]⟩, ⟨#[97]⟩), [((⟨#[]⟩, ⟨#[120]⟩), ⟨#[49]⟩, 0)]) := ex_of (by decide +kernel)
theorem k_open : openS [] ⟨#[112, 58, 97]⟩ 0 kX = (.ok ((⟨#[117]⟩, ⟨#[97]⟩), [((⟨#[]⟩, ⟨#[120]⟩), ⟨#[49]⟩, 0)]), [kM]) := by
  unfold openS
  rw [k_to]
  unfold openEnd
  simp only [k_tag]
  rfl
theorem k_b : resolveS [kM] ⟨#[98]⟩ false = ((⟨#[100]⟩, ⟨#[98]⟩), 0) := by decide +kernel
theorem k_qb : resolveS [kM] ⟨#[113, 58, 98]⟩ false = ((⟨#[]⟩, ⟨#[]⟩), 4) := by decide +kernel
set_option maxRecDepth 100000 in
set_option maxHeartbeats 600000 in
theorem known_c (w : World) : Calls Try.prog 6 #[] w fun e W' => e = .returned (.bool true) ∧ Below w.heap.size w W' := by
  have hx := XAttrs_new (w.alloc (.cells #[.slice none 0 0] 60)) kX 27 3
  have hS0 := (Sc_new w 60).alloc (.cells (flatX kX).toArray 27)
  have ho := open_c hS0 (by simp) 1 0 ⟨#[112, 58, 97]⟩ ⟨#[]⟩ _ kX (by decide +kernel) hx (by decide +kernel) (by decide +kernel) (fun k hk => ⟨by simp [Value.ownBlock], by simp [Value.ownBlock] at hk; omega⟩)
  rw [k_open] at ho
  have hk : (flatX kX).toArray = #[.string ⟨#[120, 109, 108, 110, 115, 58, 112]⟩, .string ⟨#[117]⟩, .int .i64 0, .string ⟨#[120, 109, 108, 110, 115]⟩, .string ⟨#[100]⟩, .int .i64 0, .string ⟨#[120]⟩, .string ⟨#[49]⟩, .int .i64 0] := rfl
  have hk3 : kX.length = 3 := rfl
  rw [hk, hk3] at ho
  simp only [World.size_alloc] at ho
  clear hx hS0 hk hk3
  go_enter Try.func6, Try.ntmps6
  go_wp2_with (first | (go_at_call 7; refine (new_c _).mono ?_; rintro e w1 ⟨rfl, rfl⟩) | (go_at_call 8; refine ho.mono ?_; clear ho; rintro e w2 ⟨sv1, hS1, hF1, hl1, sl, rfl, hrow, hdis⟩; obtain ⟨g1, slc, rfl⟩ := row_some (n := 0) hrow; have hS1' : Sc w2 w.heap.size sv1 [kM] := hS1; have hS2 := hS1'.alloc (.cells #[.string ⟨#[117]⟩, .string ⟨#[97]⟩, .slice (some ⟨g1, 0, none⟩) (0 + 1) slc, .int .i64 0] 33); have hr1 := Resolve_c hS2 (by decide) ⟨#[98]⟩ (by decide +kernel); rw [k_b] at hr1; unfold nameV at hr1) | (have _t := hr1; go_at_call 9; refine hr1.mono ?_; clear hr1; rintro e w3 ⟨rfl, hb3⟩; have hS3 := (hS2.below hb3).alloc (.cells #[.string ⟨#[100]⟩, .string ⟨#[98]⟩] 30); have hr2 := Resolve_c hS3 (by decide) ⟨#[113, 58, 98]⟩ (by decide +kernel); rw [k_qb] at hr2; unfold nameV at hr2) | (have _t := hr2; go_at_call 9; refine hr2.mono ?_; clear hr2; rintro e w4 ⟨rfl, hb4⟩; have up : Below (w2.alloc (.cells #[.string ⟨#[117]⟩, .string ⟨#[97]⟩, .slice (some ⟨g1, 0, none⟩) (0 + 1) slc, .int .i64 0] 33)).heap.size (w2.alloc (.cells #[.string ⟨#[117]⟩, .string ⟨#[97]⟩, .slice (some ⟨g1, 0, none⟩) (0 + 1) slc, .int .i64 0] 33)) (w4.alloc (.cells #[.string ⟨#[]⟩, .string ⟨#[]⟩] 30)) := hb3.trans (((Below.refl _ _).alloc hb3.size (.cells #[.string ⟨#[100]⟩, .string ⟨#[98]⟩] 30)).trans ((hb4.mono (by have := hb3.size; simp at this ⊢; omega)).trans ((Below.refl _ _).alloc (by have := hb3.size; have := hb4.size; simp at *; omega) _))); have t0 := cellB up (new_cell w2 #[.string ⟨#[117]⟩, .string ⟨#[97]⟩, .slice (some ⟨g1, 0, none⟩) (0 + 1) slc, .int .i64 0] 33 0 rfl) (by simp); have t1 := cellB up (new_cell w2 #[.string ⟨#[117]⟩, .string ⟨#[97]⟩, .slice (some ⟨g1, 0, none⟩) (0 + 1) slc, .int .i64 0] 33 1 rfl) (by simp); have t2 := cellB up (new_cell w2 #[.string ⟨#[117]⟩, .string ⟨#[97]⟩, .slice (some ⟨g1, 0, none⟩) (0 + 1) slc, .int .i64 0] 33 2 rfl) (by simp); have d0 := cellA (cellB hb4 (new_cell w3 #[.string ⟨#[100]⟩, .string ⟨#[98]⟩] 30 0 rfl) (by simp)) (.cells #[.string ⟨#[]⟩, .string ⟨#[]⟩] 30); have hS5 := (hS3.below hb4).alloc (.cells #[.string ⟨#[]⟩, .string ⟨#[]⟩] 30); have hclose := close_some hS5 (by decide) (by simp); have up2 : Below w2.heap.size w2 (w4.alloc (.cells #[.string ⟨#[]⟩, .string ⟨#[]⟩] 30)) := ((Below.refl _ w2).alloc (Nat.le_refl _) _).trans (up.mono (by simp)); have ha := hrow.cells (g := g1) rfl 0 _ rfl; have hb := hrow.cells (g := g1) rfl 1 _ rfl; have q0 : (w4.alloc (.cells #[.string ⟨#[]⟩, .string ⟨#[]⟩] 30)).cell? ⟨g1, 0, none⟩ = some (.string ⟨#[]⟩) := cellB up2 ha (lt_of_cell ha); have q1 : (w4.alloc (.cells #[.string ⟨#[]⟩, .string ⟨#[]⟩] 30)).cell? ⟨g1, 1, none⟩ = some (.string ⟨#[120]⟩) := cellB up2 hb (lt_of_cell hb)) | (have _t := hclose; go_at_call 13; refine hclose.mono ?_; clear hclose; rintro e w6 ⟨rfl, sv6, hS6, _, hF6⟩; have hS6' : Sc w6 w.heap.size sv6 [] := hS6; have hcl2 := close_none hS6') | (have _t := hcl2; go_at_call 13; refine hcl2.mono ?_; clear hcl2; rintro e w7 ⟨rfl, rfl⟩))
  go_ret
  refine ⟨rfl, ?_⟩
  have hsv1 : ∀ k, sv1.ownBlock = some k → w.heap.size ≤ k := by
    intro k hk
    rcases hl1 with e | ⟨k', e, hk'⟩
    · rw [e] at hk
      simp [Value.ownBlock] at hk
    · rw [e] at hk
      cases hk
      simp at hk'
      omega
  have b2 : Below w.heap.size w w2 := hF1.below (Nat.le_refl _) (fun k hk => by simp [Value.ownBlock] at hk) (((Below.refl _ w).alloc (Nat.le_refl _) _).alloc (by simp) _) (by simp; omega)
  have b5 := b2.trans (up2.mono b2.size)
  exact hF6.below (Nat.le_refl _) hsv1 b5 b5.size
end Go.Proofs.YtdelafoijplleaaN
