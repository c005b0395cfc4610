/- What is proved: what many Opens leave in a scope, and its bounds. Conditions: acts that few() lets through. -/
import Derived.Test.YtdelafoijplleaaNsFew
set_option linter.unusedVariables false
namespace Go.Proofs.YtdelafoijplleaaN
open Go.RowKit Go.Shelf Go.Proofs.YtdelafoijplleaaW.PrintWords
def actsS : List Binds → List AC → List Binds
  | L, [] => L
  | L, a :: t => actsS (openS L a.name 0 a.attrs).2 t
theorem actsS_snoc : ∀ (l : List AC) (L : List Binds) (a : AC), actsS L (l ++ [a]) = (openS (actsS L l) a.name 0 a.attrs).2
  | [], L, a => rfl
  | b :: t, L, a => actsS_snoc t _ a
theorem openS_cases (L : List Binds) (n : ByteArray) (a : Int) (xs : List XA) : (openS L n a xs).2 = L ∨ ∃ m, openTo xs [] = .ok m ∧ (openS L n a xs).2 = L ++ [m] := by
  unfold openS
  cases h : openTo xs [] with
  | error e => exact .inl rfl
  | ok m =>
    unfold openEnd
    simp only
    cases tagS (L ++ [m]) n a xs with
    | error e => exact .inl rfl
    | ok r => exact .inr ⟨m, rfl, rfl⟩
theorem openTo_bd : ∀ (xs : List XA) (m0 m : Binds), openTo xs m0 = .ok m → m.length ≤ m0.length + xs.length ∧ ((∀ x ∈ xs, x.1.size ≤ 16384) → (∀ p ∈ m0, p.1.size ≤ 16384) → ∀ p ∈ m, p.1.size ≤ 16384)
  | [], m0, m, h => by
    cases h
    exact ⟨by simp, fun _ h => h⟩
  | x :: t, m0, m, h => by
    unfold openTo at h
    split at h
    · obtain ⟨h1, h2⟩ := openTo_bd t m0 m h
      exact ⟨by simp; omega, fun ha hb => h2 (fun y hy => ha y (List.mem_cons_of_mem _ hy)) hb⟩
    · split at h
      · cases h
      · split at h
        · obtain ⟨h1, h2⟩ := openTo_bd t m0 m h
          exact ⟨by simp; omega, fun ha hb => h2 (fun y hy => ha y (List.mem_cons_of_mem _ hy)) hb⟩
        · obtain ⟨h1, h2⟩ := openTo_bd t _ m h
          refine ⟨by simp at h1 ⊢; omega, fun ha hb => h2 (fun y hy => ha y (List.mem_cons_of_mem _ hy)) (fun p hp => ?_)⟩
          rcases List.mem_append.1 hp with hp | hp
          · exact hb p hp
          · simp at hp
            rw [hp]
            exact Nat.le_trans (binds_size x.1) (ha x (List.mem_cons_self ..))
structure Bd (L : List Binds) (k : Nat) : Prop where
  len : L.length ≤ k
  sum : sumL L ≤ k * 16384
  keys : ∀ m ∈ L, ∀ p ∈ m, p.1.size ≤ 16384
theorem Bd.nil : Bd [] 0 := ⟨Nat.le_refl _, Nat.zero_le _, fun m hm => by cases hm⟩
theorem Bd.open {L : List Binds} {k : Nat} (h : Bd L k) {a : AC} (hf : FineA a) : Bd (openS L a.name 0 a.attrs).2 (k + 1) := by
  rcases openS_cases L a.name 0 a.attrs with e | ⟨m, e1, e2⟩
  · rw [e]
    exact ⟨Nat.le_succ_of_le h.len, Nat.le_trans h.sum (Nat.mul_le_mul_right _ (Nat.le_succ k)), h.keys⟩
  · rw [e2]
    obtain ⟨h1, h2⟩ := openTo_bd _ _ _ e1
    refine ⟨by have := h.len; simp; omega, ?_, fun m' hm' => ?_⟩
    · rw [sumL_snoc]
      have := h.sum
      have := hf.2.1
      simp at h1
      omega
    · rcases List.mem_append.1 hm' with hm' | hm'
      · exact h.keys m' hm'
      · simp at hm'
        rw [hm']
        exact h2 hf.2.2 (fun p hp => by cases hp)
theorem Bd.acts : ∀ (l : List AC) {L : List Binds} {k : Nat}, Bd L k → (∀ a ∈ l, FineA a) → Bd (actsS L l) (k + l.length)
  | [], L, k, h, _ => h
  | a :: t, L, k, h, hf => by
    have h1 := Bd.acts t (h.open (hf a (List.mem_cons_self ..))) (fun b hb => hf b (List.mem_cons_of_mem _ hb))
    rw [List.length_cons, show k + (t.length + 1) = k + 1 + t.length by omega]
    exact h1
theorem Bd.small {L : List Binds} {k : Nat} (h : Bd L k) (hk : k ≤ 120) : Small L :=
  ⟨by have := h.sum; omega, fun m hm p hp => by have := h.keys m hm p hp; unfold maxLen; omega⟩
/-- What the acts bind lies behind what was bound. -/
theorem actsS_more : ∀ (l : List AC) (L : List Binds), ∃ M, actsS L l = L ++ M
  | [], L => ⟨[], by simp [actsS]⟩
  | a :: t, L => by
    obtain ⟨M, hM⟩ := actsS_more t (openS L a.name 0 a.attrs).2
    rcases openS_cases L a.name 0 a.attrs with e | ⟨m, _, e2⟩
    · refine ⟨M, ?_⟩
      unfold actsS
      rw [hM, e]
    · refine ⟨m :: M, ?_⟩
      unfold actsS
      rw [hM, e2]
      simp
end Go.Proofs.YtdelafoijplleaaN
