/- What is proved: what Open and Resolve answer at the texts of NsSame. Conditions: the space is neither empty nor one of the two that may not be bound. -/
import Derived.Test.YtdelafoijplleaaNsLetters
namespace Go.Proofs.YtdelafoijplleaaN
open Go.RowKit Go.Proofs.YtdelafoijplleaaW.PrintWords
structure OkSp (sp : ByteArray) : Prop where
  x : sp.data.toList ≠ xmlU
  n : sp.data.toList ≠ xmlnsU
  e : sp.data.toList ≠ []
theorem wrong_sp {name pf sp : ByteArray} (h : OkSp sp) (hx : pf.data.toList ≠ xmlL) (hn : name.data.toList = ownB ∨ (ncB pf = true ∧ pf.data.toList ≠ ownB)) : wrongS name pf sp = false := by
  unfold wrongS
  rw [if_neg, if_neg, if_neg h.n, decide_eq_false h.e]
  · rfl
  · rw [beq_eq_false_iff_ne.2 hx, beq_eq_false_iff_ne.2 h.x]
    simp
  · rintro ⟨h1, h2⟩
    rcases hn with h3 | ⟨h3, h4⟩
    · exact h1 h3
    · rcases h2 with h2 | h2
      · rw [h3] at h2; cases h2
      · exact h4 h2
set_option maxRecDepth 100000
theorem ne_qp : ∀ i j : Fin 26, mkB (lt2 113 j) ≠ mkB (lt2 112 i) := by decide +kernel
theorem ne_0p : ∀ i : Fin 26, mkB [] ≠ mkB (lt2 112 i) := by decide +kernel
theorem ne_0q : ∀ i : Fin 26, mkB [] ≠ mkB (lt2 113 i) := by decide +kernel
theorem pf_p : ∀ i : Fin 26, (mkB (lt2 112 i)).data.toList ≠ xmlL ∧ (mkB (lt2 112 i)).data.toList ≠ ownB ∧ mkB (lt2 112 i) ≠ xmlB := by decide +kernel
theorem pf_q : ∀ i : Fin 26, (mkB (lt2 113 i)).data.toList ≠ xmlL ∧ (mkB (lt2 113 i)).data.toList ≠ ownB ∧ mkB (lt2 113 i) ≠ xmlB := by decide +kernel
theorem binds_own : bindsS (mkB ownB) = (mkB [], true) := by decide +kernel
theorem binds_x : (bindsS (mkB [120])).2 = false := by decide +kernel
def sX1 (i j : Fin 26) (sp : ByteArray) : List XA := [(mkB (ownC ++ lt2 112 i), sp, 0), (mkB (ownC ++ lt2 113 j), sp, 5), (mkB ownB, sp, 9), (mkB (lt2 112 i ++ [58, 120]), mkB [49], 11), (mkB [120], mkB [50], 12)]
def sM (i j : Fin 26) (sp : ByteArray) : Binds := [(mkB (lt2 112 i), sp), (mkB (lt2 113 j), sp), (mkB [], sp)]
theorem s_to1 (i j : Fin 26) {sp : ByteArray} (h : OkSp sp) : openTo (sX1 i j sp) [] = .ok (sM i j sp) := by
  have w1 := wrong_sp (name := mkB (ownC ++ lt2 112 i)) (pf := mkB (lt2 112 i)) h (pf_p i).1 (.inr ⟨nc_p i, (pf_p i).2.1⟩)
  have w2 := wrong_sp (name := mkB (ownC ++ lt2 113 j)) (pf := mkB (lt2 113 j)) h (pf_q j).1 (.inr ⟨nc_q j, (pf_q j).2.1⟩)
  have w3 := wrong_sp (name := mkB ownB) (pf := mkB []) h (by decide) (.inl rfl)
  have b1 := binds_p i
  have b2 := binds_q j
  have b3 := binds_own
  have b4 := binds_px i
  have b5 := binds_x
  have n1 := ne_qp i j
  have n2 := ne_0p i
  have n3 := ne_0q j
  unfold sX1 sM
  generalize mkB (ownC ++ lt2 112 i) = A at *
  generalize mkB (ownC ++ lt2 113 j) = B at *
  generalize mkB (lt2 112 i ++ [58, 120]) = C at *
  generalize mkB (lt2 112 i) = P at *
  generalize mkB (lt2 113 j) = Q at *
  generalize mkB ownB = O at *
  generalize mkB [] = Z at *
  generalize mkB [120] = X at *
  simp [openTo, b1, b2, b3, b4, b5, w1, w2, w3, sget, n1, n2, n3]
/-- The scope of NsSame, and with k elements more that bind nothing. -/
def sL (i j : Fin 26) (sp : ByteArray) (k : Nat) : List Binds := sM i j sp :: List.replicate k []
theorem inner_sL (i j : Fin 26) (sp x : ByteArray) (k : Nat) : inner (sL i j sp k) x = sget (sM i j sp) x := by
  unfold inner sL
  rw [List.reverse_cons, List.reverse_replicate, List.findSome?_append]
  have h : (List.replicate k ([] : Binds)).findSome? (sget · x) = none := by
    rw [List.findSome?_eq_none_iff]
    intro m hm
    rw [(List.mem_replicate.1 hm).2]
    rfl
  rw [h]
  cases hs : sget (sM i j sp) x <;> simp [hs]
theorem space_p (i j : Fin 26) (sp : ByteArray) (k : Nat) : spaceS (sL i j sp k) (mkB (lt2 112 i)) = (sp, true) := by
  unfold spaceS
  rw [if_neg (pf_p i).2.2, inner_sL]
  simp [sM, sget]
theorem space_q (i j : Fin 26) (sp : ByteArray) (k : Nat) : spaceS (sL i j sp k) (mkB (lt2 113 j)) = (sp, true) := by
  unfold spaceS
  rw [if_neg (pf_q j).2.2, inner_sL]
  simp [sM, sget, ne_qp i j]
theorem space_0 (i j : Fin 26) (sp : ByteArray) (k : Nat) : spaceS (sL i j sp k) (mkB []) = (sp, true) := by
  unfold spaceS
  rw [if_neg (by decide), inner_sL]
  simp [sM, sget, ne_0p i, ne_0q j]
theorem p_ne (i : Fin 26) : ¬ mkB (lt2 112 i) = (⟨#[]⟩ : ByteArray) := fun e => ne_0p i e.symm
theorem q_ne (i : Fin 26) : ¬ mkB (lt2 113 i) = (⟨#[]⟩ : ByteArray) := fun e => ne_0q i e.symm
theorem res_pl (i j c : Fin 26) (sp : ByteArray) (k : Nat) : resolveS (sL i j sp k) (mkB (lt2 112 i ++ 58 :: lt2 108 c)) false = ((sp, mkB (lt2 108 c)), 0) := by
  unfold resolveS
  rw [qn_pl i c]
  simp [space_p]
theorem res_ql (i j c : Fin 26) (sp : ByteArray) (k : Nat) : resolveS (sL i j sp k) (mkB (lt2 113 j ++ 58 :: lt2 108 c)) false = ((sp, mkB (lt2 108 c)), 0) := by
  unfold resolveS
  rw [qn_ql j c]
  simp [space_q]
theorem res_l (i j c : Fin 26) (sp : ByteArray) (k : Nat) : resolveS (sL i j sp k) (mkB (lt2 108 c)) false = ((sp, mkB (lt2 108 c)), 0) := by
  unfold resolveS
  rw [qn_l c]
  simp [space_0]
theorem res_px (i j : Fin 26) (sp : ByteArray) (k : Nat) : resolveS (sL i j sp k) (mkB (lt2 112 i ++ [58, 120])) true = ((sp, mkB [120]), 0) := by
  unfold resolveS
  rw [qn_px i]
  simp [space_p, p_ne i]
theorem res_qx (i j : Fin 26) (sp : ByteArray) (k : Nat) : resolveS (sL i j sp k) (mkB (lt2 113 j ++ [58, 120])) true = ((sp, mkB [120]), 0) := by
  unfold resolveS
  rw [qn_qx j]
  simp [space_q, q_ne j]
theorem qn_x : qnS (mkB [120]) = (⟨#[]⟩, mkB [120], true) := by decide +kernel
theorem res_x (L : List Binds) : resolveS L (mkB [120]) true = ((⟨#[]⟩, mkB [120]), 0) := by
  unfold resolveS
  rw [qn_x]
  simp
def sX3 (i j : Fin 26) : List XA := [(mkB (lt2 112 i ++ [58, 120]), mkB [49], 11), (mkB (lt2 113 j ++ [58, 120]), mkB [50], 12)]
theorem pre_pl' (i c : Fin 26) : Lib.hasPrefix (mkB (lt2 112 i ++ 58 :: lt2 108 c)).data.toList ownC = false := pre_pl i c
theorem pre_l' (c : Fin 26) : Lib.hasPrefix (mkB (lt2 108 c)).data.toList ownC = false := pre_l c
theorem s_tag1 (i j c : Fin 26) {sp : ByteArray} (h : OkSp sp) : tagS (sL i j sp 0) (mkB (lt2 112 i ++ 58 :: lt2 108 c)) 0 (sX1 i j sp) = .ok ((sp, mkB (lt2 108 c)), [((sp, mkB [120]), mkB [49], 11), ((⟨#[]⟩, mkB [120]), mkB [50], 12)]) := by
  have hne : ¬ sp = (⟨#[]⟩ : ByteArray) := fun e => h.e (by rw [e])
  unfold tagS
  rw [pre_pl', res_pl]
  have b1 : (bindsS (mkB (ownC ++ lt2 112 i))).2 = true := by rw [binds_p]
  have b2 : (bindsS (mkB (ownC ++ lt2 113 j))).2 = true := by rw [binds_q]
  have b3 : (bindsS (mkB ownB)).2 = true := by rw [binds_own]
  unfold sX1
  generalize mkB (ownC ++ lt2 112 i) = A at *
  generalize mkB (ownC ++ lt2 113 j) = B at *
  generalize mkB ownB = O at *
  simp [tagEnd, tagTo, b1, b2, b3, binds_px, binds_x, res_px, res_x, isHad, hne]
theorem s_tag2 (i j c : Fin 26) (sp : ByteArray) : tagS (sL i j sp 1) (mkB (lt2 108 c)) 0 [] = .ok ((sp, mkB (lt2 108 c)), []) := by
  unfold tagS
  rw [pre_l', res_l]
  simp [tagEnd, tagTo]
theorem s_tag3 (i j c : Fin 26) (sp : ByteArray) : tagS (sL i j sp 2) (mkB (lt2 108 c)) 0 (sX3 i j) = .error (12, 5) := by
  unfold tagS
  rw [pre_l', res_l]
  simp [tagEnd, sX3, tagTo, binds_px, binds_qx, res_px, res_qx, isHad]
theorem s_to3 (i j : Fin 26) : openTo (sX3 i j) [] = .ok [] := by simp [sX3, openTo, binds_px, binds_qx]
theorem s_open1 (i j c : Fin 26) {sp : ByteArray} (h : OkSp sp) : openS [] (mkB (lt2 112 i ++ 58 :: lt2 108 c)) 0 (sX1 i j sp) = (.ok ((sp, mkB (lt2 108 c)), [((sp, mkB [120]), mkB [49], 11), ((⟨#[]⟩, mkB [120]), mkB [50], 12)]), sL i j sp 0) := by
  unfold openS
  rw [s_to1 i j h]
  have e := s_tag1 i j c h
  unfold openEnd
  have e' : tagS ([] ++ [sM i j sp]) (mkB (lt2 112 i ++ 58 :: lt2 108 c)) 0 (sX1 i j sp) = _ := e
  simp only [e']
  rfl
theorem s_open2 (i j c : Fin 26) (sp : ByteArray) : openS (sL i j sp 0) (mkB (lt2 108 c)) 0 [] = (.ok ((sp, mkB (lt2 108 c)), []), sL i j sp 1) := by
  unfold openS
  have e' : tagS (sL i j sp 0 ++ [[]]) (mkB (lt2 108 c)) 0 [] = _ := s_tag2 i j c sp
  unfold openTo openEnd
  simp only [e']
  rfl
theorem s_open3 (i j c : Fin 26) (sp : ByteArray) : openS (sL i j sp 1) (mkB (lt2 108 c)) 0 (sX3 i j) = (.error (12, 5), sL i j sp 1) := by
  unfold openS
  rw [s_to3]
  have e' : tagS (sL i j sp 1 ++ [[]]) (mkB (lt2 108 c)) 0 (sX3 i j) = _ := s_tag3 i j c sp
  unfold openEnd
  simp only [e']
end Go.Proofs.YtdelafoijplleaaN
