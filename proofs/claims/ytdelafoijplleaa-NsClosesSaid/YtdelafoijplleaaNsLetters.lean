/- What is proved: what names of one or two small letters come apart into. Conditions: none. -/
import Derived.Test.YtdelafoijplleaaNsKnown
namespace Go.Proofs.YtdelafoijplleaaN
open Go.RowKit Go.Proofs.YtdelafoijplleaaW.PrintWords
set_option maxRecDepth 100000
def lt2 (c : UInt8) (i : Fin 26) : List UInt8 := [c, UInt8.ofNat (97 + i.val)]
theorem nc_p : ∀ i : Fin 26, ncB (mkB (lt2 112 i)) = true := by decide +kernel
theorem nc_q : ∀ i : Fin 26, ncB (mkB (lt2 113 i)) = true := by decide +kernel
theorem binds_p : ∀ i : Fin 26, bindsS (mkB (ownC ++ lt2 112 i)) = (mkB (lt2 112 i), true) := by decide +kernel
theorem binds_q : ∀ i : Fin 26, bindsS (mkB (ownC ++ lt2 113 i)) = (mkB (lt2 113 i), true) := by decide +kernel
theorem binds_px : ∀ i : Fin 26, (bindsS (mkB (lt2 112 i ++ [58, 120]))).2 = false := by decide +kernel
theorem binds_qx : ∀ i : Fin 26, (bindsS (mkB (lt2 113 i ++ [58, 120]))).2 = false := by decide +kernel
theorem qn_px : ∀ i : Fin 26, qnS (mkB (lt2 112 i ++ [58, 120])) = (mkB (lt2 112 i), mkB [120], true) := by decide +kernel
theorem qn_qx : ∀ i : Fin 26, qnS (mkB (lt2 113 i ++ [58, 120])) = (mkB (lt2 113 i), mkB [120], true) := by decide +kernel
theorem qn_l : ∀ i : Fin 26, qnS (mkB (lt2 108 i)) = (mkB [], mkB (lt2 108 i), true) := by decide +kernel
theorem qn_pl : ∀ i j : Fin 26, qnS (mkB (lt2 112 i ++ 58 :: lt2 108 j)) = (mkB (lt2 112 i), mkB (lt2 108 j), true) := by decide +kernel
theorem qn_ql : ∀ i j : Fin 26, qnS (mkB (lt2 113 i ++ 58 :: lt2 108 j)) = (mkB (lt2 113 i), mkB (lt2 108 j), true) := by decide +kernel
theorem pre_pl : ∀ i j : Fin 26, Lib.hasPrefix (lt2 112 i ++ 58 :: lt2 108 j) ownC = false := by decide +kernel
theorem pre_l : ∀ i : Fin 26, Lib.hasPrefix (lt2 108 i) ownC = false := by decide +kernel
end Go.Proofs.YtdelafoijplleaaN
