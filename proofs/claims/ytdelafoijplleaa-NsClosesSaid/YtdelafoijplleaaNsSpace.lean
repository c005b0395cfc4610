/- What is proved: the space of a prefix in open elements is what the innermost of them that binds it says. Conditions: the scope's memory is whole. -/
import Derived.RangeFuncFrom
import Derived.RangeFuncWrites
import Derived.Test.YtdelafoijplleaaNsBack
namespace Go.Proofs.YtdelafoijplleaaN
open Go.RowKit Go.Shelf
attribute [local go_sem] Oper.semAt_some
set_option maxRecDepth 100000 in
set_option maxHeartbeats 1000000 in
theorem back1_nil_in {α : Type} (F : Fence) (n : Nat) (hf : F.fn 30) (hro : F.round = none) (l Bs : Nat) (J : List α → World → Prop) (W : World) (hBs : W.cell? ⟨Bs, 0, none⟩ = some (.slice none 0 0)) (h0 : J [] W) :
    CallsIn F n Try.prog 30 #[.func (.yield l) #[] #[], .pointer (some ⟨Bs, 0, none⟩)] W fun e W' => (∃ v, e = .returned v) ∧ J [] W' := by
  refine callsIn_of_wp Try.func30 rfl hf ?_ hro
  simp only [Try.ntmps30, List.size_toArray, List.length_cons, List.length_nil, Nat.reduceAdd, Nat.reduceSub, Array.replicate_succ, Array.replicate_zero, List.push_toArray, List.append_toArray, List.nil_append, List.cons_append]
  gi_wp2
  gi_loopw [3] (fun i wr => i = .int .i64 (-1) ∧ J [] wr) (fun _ _ => 0)
  case atStart => exact ⟨rfl, h0⟩
  case round =>
    obtain ⟨rfl, hJs⟩ := hrel
    gi_wp2
    go_end0
    exact ⟨⟨_, rfl⟩, hJs⟩
set_option maxHeartbeats 1000000 in
theorem back_in (F : Fence) (n : Nat) (hf : F.fn 22) (hro : F.round = none) (a : Option Addr) (len cap : Nat) (w : World) :
    CallsIn F n Try.prog 22 #[.slice a len cap] w fun e w' => e = .returned (.func (.func 30) #[] #[.pointer (some ⟨w.heap.size, 0, none⟩)]) ∧ w' = w.alloc (.cells #[.slice a len cap] 58) := by
  refine callsIn_of_wp Try.func22 rfl hf ?_ hro
  simp only [Try.ntmps22, List.size_toArray, List.length_cons, List.length_nil, Nat.reduceAdd, Nat.reduceSub, Array.replicate_succ, Array.replicate_zero, List.push_toArray, List.append_toArray, List.nil_append, List.cons_append]
  gi_wp2
  go_ret
  exact ⟨rfl, rfl⟩
/-- The slice value sv is a row of the maps bs, in a block below n₀; or it is nil and there are none. -/
def IsMaps (n₀ : Nat) (W : World) (sv : Value) (bs : List Nat) : Prop :=
  (sv = .slice none 0 0 ∧ bs = []) ∨ ∃ b off cap, sv = .slice (some ⟨b, off, none⟩) bs.length cap ∧ b < n₀ ∧ ∀ j (h : j < bs.length), W.cell? ⟨b, off + j, none⟩ = some (.map (some bs[j]))
theorem IsMaps.below {n₀ : Nat} {A B : World} (h : Below n₀ A B) {sv : Value} {bs : List Nat} : IsMaps n₀ A sv bs → IsMaps n₀ B sv bs
  | .inl e => .inl e
  | .inr ⟨b, off, cap, e, hb, hc⟩ => .inr ⟨b, off, cap, e, hb, fun j hj => (h.cell (p := ⟨b, off + j, none⟩) hb).trans (hc j hj)⟩
theorem IsMaps.mono {n₀ n₁ : Nat} (h : n₀ ≤ n₁) {W : World} {sv : Value} {bs : List Nat} : IsMaps n₀ W sv bs → IsMaps n₁ W sv bs
  | .inl e => .inl e
  | .inr ⟨b, off, cap, e, hb, hc⟩ => .inr ⟨b, off, cap, e, Nat.lt_of_lt_of_le hb h, hc⟩
/-- What Backward hands on: places and elements, from behind. -/
def backs {α : Type} (zs : List α) : List (Nat × α) := (zs.zipIdx.map fun p => (p.2, p.1)).reverse
theorem backs_length {α : Type} (zs : List α) : (backs zs).length = zs.length := by simp [backs]
theorem backs_get {α : Type} (zs : List α) (j : Nat) (h : j < zs.length) : (backs zs)[j]'(by rw [backs_length]; exact h) = (zs.length - 1 - j, zs[zs.length - 1 - j]'(by omega)) := by
  simp [backs, List.getElem_reverse, List.getElem_zipIdx]
theorem back_stops {α : Type} (bk : α → Nat) (F : Fence) (n : Nat) (hf : F.fn 30) (hro : F.round = none) (hn : 1 ≤ n) (Bs n₀ : Nat) (sv : Value) (zs : List α) (hreach : zs.length * 8 ≤ 140737488351232) (w : World) (hBs : Bs < n₀) (hn₀ : n₀ ≤ w.heap.size)
    (hc : w.cell? ⟨Bs, 0, none⟩ = some sv) (hI : IsMaps n₀ w sv (zs.map bk)) :
    SeqStopsK F n Try.prog 30 #[.pointer (some ⟨Bs, 0, none⟩)] (fun x : Nat × α => #[Value.int .i64 (x.1 : Int), Value.map (some (bk x.2))]) (Below n₀) (fun ys => ys = backs zs) (fun pre => ∃ k, k ≤ zs.length ∧ pre = (backs zs).take k) zs.length w := fun l J Jx W hW _ _ hY h0 => by
  have hc' := (hW.cell (p := ⟨Bs, 0, none⟩) (Nat.lt_of_lt_of_le hBs hn₀)).trans hc
  rcases hI.below (hW.mono hn₀) with ⟨rfl, he⟩ | ⟨b, off, cap, rfl, hb, hcs⟩
  · have hz : zs = [] := by simpa using he
    subst hz
    exact (back1_nil_in F n hf hro l Bs J W hc' h0).mono fun e W' ⟨he, hj⟩ => ⟨he, .inl ⟨_, rfl, hj⟩⟩
  · rw [List.length_map] at hc'
    have hl := backs_length zs
    refine (back1_in (fun x : Nat × α => (x.1 : Int)) (fun x => bk x.2) F n hf hro hn l Bs n₀ b off cap (backs zs) (by rw [hl]; exact hreach) hb hBs J Jx (by rw [hl]; exact hY) W (by rw [hl]; exact hc') (fun j h => ?_) (fun j h => ?_) h0).mono ?_
    · rw [hl] at h
      have := hcs (zs.length - 1 - j) (by rw [List.length_map]; omega)
      rw [List.getElem_map] at this
      rw [hl, backs_get zs j h]
      exact this
    · rw [hl] at h
      rw [hl, backs_get zs j h]
      show ((zs.length - 1 - j : Nat) : Int) = _
      omega
    · rintro e W' ⟨he, hj | ⟨pre, ⟨k, hk, rfl⟩, hj⟩⟩
      · exact ⟨he, .inl ⟨_, rfl, hj⟩⟩
      · exact ⟨he, .inr ⟨_, ⟨k, by omega, rfl⟩, hj⟩⟩
end Go.Proofs.YtdelafoijplleaaN
