/- What is proved: Close drops the innermost open element, or tells that there is none. Conditions: those of the scope. -/
import Derived.Test.YtdelafoijplleaaNsResolve
set_option linter.unusedVariables false
namespace Go.Proofs.YtdelafoijplleaaN
open Go.RowKit Go.Shelf
/-- w' is w but for block p and, of what there was, the row of the slice sv. -/
structure Fr (w w' : World) (p : Nat) (sv : Value) : Prop where
  os : w'.os = w.os
  tape : w'.tape = w.tape
  output : w'.output = w.output
  size : w.heap.size ≤ w'.heap.size
  block : ∀ k, k < w.heap.size → k ≠ p → sv.ownBlock ≠ some k → w'.heap[k]? = w.heap[k]?
theorem Fr.of_below {w w' : World} {p : Nat} {sv : Value} (h : Below w.heap.size w w') : Fr w w' p sv := ⟨h.os, h.tape, h.output, h.size, fun k hk _ _ => h.block k hk⟩
theorem Fr.below {w0 w w' : World} {p B : Nat} {sv : Value} (h : Fr w w' p sv) (hp : B ≤ p) (hs : ∀ k, sv.ownBlock = some k → B ≤ k) (h0 : Below B w0 w) (hB : B ≤ w.heap.size) : Below B w0 w' :=
  h0.trans ⟨h.os, h.tape, h.output, h.size, fun k hk => h.block k (by omega) (by omega) (fun e => by have := hs k e; omega)⟩
set_option maxRecDepth 100000 in
set_option maxHeartbeats 1000000 in
theorem close_none {w : World} {p : Nat} {sv : Value} (h : Sc w p sv []) :
    Calls Try.prog 13 #[.pointer (some ⟨p, 0, none⟩)] w fun e W' => e = .returned (.bool false) ∧ W' = w := by
  obtain ⟨a, cap, rfl⟩ := h.slice
  have hc := h.cell
  simp only [List.length_nil] at hc
  go_enter Try.func13, Try.ntmps13
  go_wp2
  go_ret
  exact ⟨rfl, rfl⟩
theorem Sc.dropped {w : World} {p : Nat} {L : List Binds} {g cap : Nat} {n : Nat} (h : Sc w p (.slice (some ⟨g, 0, none⟩) (n + 1) cap) L) (hn : L.length = n + 1) : Sc (w.setCell ⟨p, 0, none⟩ (.slice (some ⟨g, 0, none⟩) n cap)) p (.slice (some ⟨g, 0, none⟩) n cap) L.dropLast := by
  have hgp : g ≠ p := fun e => h.apart (by simp [Value.ownBlock, e])
  obtain ⟨els, h1, h2, h3⟩ := h.rows
  have hl : els.length = n + 1 := by rw [← hn, ← h2, List.length_map]
  refine ⟨cellSet w ⟨p, 0, none⟩ _ h.cell, by rw [World.frozen?_setCell]; exact h.frozen, ⟨els.dropLast, ?_, by rw [← h2, List.map_dropLast], fun e he => (h3 e (List.dropLast_subset _ he)).setCell _ _⟩, h.apart⟩
  rcases h1.2 with ⟨e, _⟩ | ⟨g', cap', cur, e, hb, hg, r1, r2, r3, r4⟩
  · simp at e
  · simp only [Value.slice.injEq, Option.some.injEq, Addr.mk.injEq] at e
    obtain ⟨⟨rfl, _, _⟩, _, rfl⟩ := e
    rw [List.length_dropLast, hl, Nat.add_sub_cancel]
    refine ⟨by simp [hl], .inr ⟨g, cap, cur, rfl, Nat.zero_le _, ?_, by omega, r2, r3, ?_⟩⟩
    · rw [Below.heap_setCell w ⟨p, 0, none⟩ _ g hgp]
      exact hg
    · rw [Nat.mul_one] at r4 ⊢
      have hcl : cur.toList.length = cap := by rw [Array.length_toList]; omega
      rw [List.map_dropLast, ← r4, List.dropLast_eq_take, List.take_take, List.length_take, hcl]
      congr 1
      omega
set_option maxRecDepth 100000 in
set_option maxHeartbeats 1000000 in
theorem close_some {w : World} {p : Nat} {sv : Value} {L : List Binds} (h : Sc w p sv L) (hL : L.length < 1099511627776) (hne : L ≠ []) :
    Calls Try.prog 13 #[.pointer (some ⟨p, 0, none⟩)] w fun e W' => e = .returned (.bool true) ∧ ∃ sv', Sc W' p sv' L.dropLast ∧ sv'.ownBlock = sv.ownBlock ∧ Fr w W' p sv := by
  obtain ⟨n, hn⟩ : ∃ n, L.length = n + 1 := ⟨L.length - 1, by have := List.length_pos_iff.2 hne; omega⟩
  have hs : ∃ g cap, sv = .slice (some ⟨g, 0, none⟩) (n + 1) cap ∧ n + 1 ≤ cap ∧ cap ≤ maxLen := by
    obtain ⟨els, h1, h2, _⟩ := h.rows
    have hl : els.length = n + 1 := by rw [← hn, ← h2, List.length_map]
    rcases h1.2 with ⟨_, he⟩ | ⟨g, cap, cur, rfl, _, _, r1, r2, _⟩
    · omega
    · exact ⟨g, cap, by rw [hl], by omega, r2⟩
  obtain ⟨g, cap, rfl, hcap, hmax⟩ := hs
  have hd := h.dropped hn
  have hc := h.cell
  have hf := h.frozen
  have hmax' : (cap : Int) ≤ 9223372036854775807 := by unfold maxLen at hmax; omega
  have e1 : ((((n : Int) + 1) - 1).toNat) = n := by omega
  have e2 : ((n + 1 : Nat) : Int) = (n : Int) + 1 := by omega
  go_enter Try.func13, Try.ntmps13
  go_wp2
  go_ret
  exact ⟨rfl, _, hd, rfl, ⟨rfl, rfl, rfl, by simp [World.setCell], fun k _ hk _ => Below.heap_setCell w ⟨p, 0, none⟩ _ k hk⟩⟩
end Go.Proofs.YtdelafoijplleaaN
