/- What is proved: what Open, Space and Binds answer where the default space alone is bound again and again. Conditions: the spaces have at most two letters. -/
import Derived.Test.YtdelafoijplleaaNsBinds
import Derived.Test.YtdelafoijplleaaNsSame
set_option linter.unusedVariables false
namespace Go.Proofs.YtdelafoijplleaaN
open Go.RowKit Go.Maps Go.Shelf Go.Proofs.YtdelafoijplleaaW.PrintWords
/-- The space that a number stands for. -/
def spO (z : Int) : ByteArray := if 0 < z % 4 then ⟨#[117]⟩ ++ strOfNums [97 + z % 26] else ⟨#[]⟩
def inL (zs : List Int) : List Binds := zs.map fun z => [(⟨#[]⟩, spO z)]
theorem spO_size (z : Int) : (spO z).size ≤ 2 := by
  unfold spO
  split
  · rw [lt2_of]
    exact Nat.le_refl 2
  · exact Nat.zero_le _
set_option maxRecDepth 100000 in
theorem binds_own' : bindsS ⟨#[120, 109, 108, 110, 115]⟩ = (⟨#[]⟩, true) := by decide +kernel
set_option maxRecDepth 100000 in
theorem qn_a : qnS ⟨#[97]⟩ = (⟨#[]⟩, ⟨#[97]⟩, true) := by decide +kernel
set_option maxRecDepth 100000 in
theorem pre_a : Lib.hasPrefix (⟨#[97]⟩ : ByteArray).data.toList ownC = false := by decide +kernel
theorem wrong_own {sp : ByteArray} (h : sp.size ≤ 2) : wrongS ⟨#[120, 109, 108, 110, 115]⟩ ⟨#[]⟩ sp = false := by
  have hx : sp.data.toList ≠ xmlU := fun e => by
    have := congrArg List.length e
    rw [Array.length_toList] at this
    have h2 : sp.data.size ≤ 2 := h
    have h3 : xmlU.length = 36 := rfl
    omega
  have hn : sp.data.toList ≠ xmlnsU := fun e => by
    have := congrArg List.length e
    rw [Array.length_toList] at this
    have h2 : sp.data.size ≤ 2 := h
    have h3 : xmlnsU.length = 29 := rfl
    omega
  unfold wrongS
  rw [if_neg (fun hh => hh.1 rfl), if_neg, if_neg hn]
  · simp
  · rw [beq_eq_false_iff_ne.2 hx]
    decide
theorem inner_last (L : List Binds) (sp : ByteArray) : inner (L ++ [[(⟨#[]⟩, sp)]]) ⟨#[]⟩ = some sp := by
  unfold inner
  rw [List.reverse_append]
  simp [sget]
theorem space_last (L : List Binds) (sp : ByteArray) : spaceS (L ++ [[(⟨#[]⟩, sp)]]) ⟨#[]⟩ = (sp, true) := by
  unfold spaceS
  rw [if_neg (by decide), inner_last]
theorem open_inner (L : List Binds) {sp : ByteArray} (h : sp.size ≤ 2) : openS L ⟨#[97]⟩ 0 [(⟨#[120, 109, 108, 110, 115]⟩, sp, 0)] = (.ok ((sp, ⟨#[97]⟩), []), L ++ [[(⟨#[]⟩, sp)]]) := by
  have e1 : openTo [(⟨#[120, 109, 108, 110, 115]⟩, sp, 0)] [] = .ok [(⟨#[]⟩, sp)] := by
    simp [openTo, binds_own', wrong_own h, sget]
  have e2 : resolveS (L ++ [[(⟨#[]⟩, sp)]]) ⟨#[97]⟩ false = ((sp, ⟨#[97]⟩), 0) := by
    unfold resolveS
    rw [qn_a]
    simp [space_last]
  have e3 : tagS (L ++ [[(⟨#[]⟩, sp)]]) ⟨#[97]⟩ 0 [(⟨#[120, 109, 108, 110, 115]⟩, sp, 0)] = .ok ((sp, ⟨#[97]⟩), []) := by
    unfold tagS
    rw [pre_a, e2]
    simp [tagEnd, tagTo, binds_own']
  unfold openS openEnd
  rw [e1]
  simp only [e3]
theorem inL_snoc (zs : List Int) (z : Int) : inL (zs ++ [z]) = inL zs ++ [[(⟨#[]⟩, spO z)]] := by
  unfold inL
  rw [List.map_append]
  rfl
theorem inL_len (zs : List Int) : (inL zs).length = zs.length := List.length_map ..
theorem sumL_in : ∀ zs : List Int, sumL (inL zs) = zs.length
  | [] => rfl
  | a :: t => by
    have e : sumL (inL (a :: t)) = 1 + sumL (inL t) := rfl
    rw [e, sumL_in t, List.length_cons]
    omega
theorem small_inL (zs : List Int) (h : zs.length < 1099511627776) : Small (inL zs) := by
  constructor
  · rw [sumL_in]
    exact h
  · intro m hm p hp
    unfold inL at hm
    obtain ⟨z, _, rfl⟩ := List.mem_map.1 hm
    simp at hp
    rw [hp]
    exact Nat.zero_le _
theorem allD_in' : ∀ (n : Nat) (zs : List Int) (z : Int), zs.length = n → allD (inL (zs ++ [z])) = .map [(.string [], .lit (.string (spO z).data.toList))]
  | 0, zs, z, h => by
    rw [List.length_eq_zero_iff] at h
    rw [h]
    rfl
  | n + 1, zs, z, h => by
    rcases List.eq_nil_or_concat zs with rfl | ⟨ini, y, rfl⟩
    · cases h
    · rw [inL_snoc, allD_snoc, List.concat_eq_append, allD_in' n ini y (by simpa using h)]
      rfl
theorem allD_in (zs : List Int) (z : Int) : allD (inL (zs ++ [z])) = .map [(.string [], .lit (.string (spO z).data.toList))] := allD_in' _ zs z rfl
theorem bindsL_in (zs : List Int) (z : Int) : (bindsL (inL (zs ++ [z]))).length = if spO z = ⟨#[]⟩ then 0 else 1 := by
  have e : keptD (inL (zs ++ [z])) = if spO z = ⟨#[]⟩ then .map [] else .map [(.string [], .lit (.string (spO z).data.toList))] := by
    unfold keptD
    rw [allD_in]
    show DataW.map (List.filter keepE [_]) = _
    have hk := keep_of [] (spO z)
    by_cases h0 : spO z = ⟨#[]⟩
    · rw [if_pos h0, List.filter_cons_of_neg]
      · rfl
      · rw [hk, h0, ByteArray.toList_eq]; simp
    · rw [if_neg h0, List.filter_cons_of_pos]
      · rfl
      · rw [hk, ByteArray.toList_eq]
        have : (spO z).data.toList ≠ [] := fun e => h0 (by
          rw [ByteArray.ext_iff]
          apply Array.toList_inj.1
          rw [e])
        rw [List.isEmpty_eq_false_iff.2 this]
        rfl
  unfold bindsL
  rw [List.length_map, List.length_mergeSort, e]
  by_cases h0 : spO z = ⟨#[]⟩
  · rw [if_pos h0, if_pos h0]; rfl
  · rw [if_neg h0, if_neg h0]; rfl
theorem bindsL_nil : (bindsL []).length = 0 := by
  unfold bindsL
  rw [List.length_map, List.length_mergeSort]
  rfl
theorem inL_drop (zs : List Int) (z : Int) : (inL (zs ++ [z])).dropLast = inL zs := by
  rw [inL_snoc, List.dropLast_concat]
end Go.Proofs.YtdelafoijplleaaN
