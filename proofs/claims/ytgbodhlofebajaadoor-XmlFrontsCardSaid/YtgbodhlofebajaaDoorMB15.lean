/- What is proved: what the claims of this seat share, part 15: a program of ours merged it out of our own texts, the print's words and the laid shelf. Conditions: those of each. -/
import Derived.Test.YtgbodhlofebajaaDoorMB14
import Derived.Lay
import Derived.Lib.LaidCase
import Derived.Lib.LaidTab
import Derived.Lib.LaidU8
import Derived.MakeChecks
import Derived.PinnedBridge
import Derived.Test.YtgbodhlofebajaaDoorRows
set_option linter.unusedVariables false
set_option linter.unusedSimpArgs false
section
set_option linter.unusedVariables false
namespace Go.Proofs.YtgbodhlofebajaaDoorX
open Go.RowKit Go.Shelf Go.Lib
set_option maxRecDepth 100000
def laidL : List (String × DataW Unit) := [("unicode/utf8.acceptRanges", YtgbodhlofebajaaDoor.Rows.laid_unicode_utf8_acceptRanges), ("unicode.asciiFold", YtgbodhlofebajaaDoor.Rows.laid_unicode_asciiFold), ("unicode.caseOrbit", YtgbodhlofebajaaDoor.Rows.laid_unicode_caseOrbit), ("unicode.CaseRanges", YtgbodhlofebajaaDoor.Rows.laid_unicode_CaseRanges), ("unicode/utf8.first", YtgbodhlofebajaaDoor.Rows.laid_unicode_utf8_first)]
theorem u8X : U8Extra Tryd.prog Tryd.lays260_ren where
  n3 := by kernel_rfl
  n4 := by kernel_rfl
  y3 := by kernel_rfl
  y4 := by kernel_rfl
  c5 := by kernel_rfl
  c119 := by kernel_rfl
  c138 := by kernel_rfl
theorem caseX : CaseExtra Tryd.prog Tryd.lays204_ren where
  n13 := by kernel_rfl
  y13 := by kernel_rfl
  c21 := by kernel_rfl
  c51 := by kernel_rfl
  c206 := by kernel_rfl
  c208 := by kernel_rfl
def foldTab : List Int := (List.range 128).map fun (c : Nat) => if c = 107 then 8490 else if c = 115 then 383 else if 65 ≤ c ∧ c ≤ 90 then ((c + 32 : Nat) : Int) else if 97 ≤ c ∧ c ≤ 122 then ((c - 32 : Nat) : Int) else (c : Int)
theorem accept_eq : (YtgbodhlofebajaaDoor.Rows.laid_unicode_utf8_acceptRanges : DataW Unit) = acceptData := by kernel_rfl
theorem fold_eq : (YtgbodhlofebajaaDoor.Rows.laid_unicode_asciiFold : DataW Unit) = tabData .u16 foldTab := by kernel_rfl
theorem fold_type : (Tryd.prog.globals[0]?).map (·.type) = some 115 := by kernel_rfl
theorem fold_cells : Tryd.prog.cellsOf 115 = 128 := by kernel_rfl
theorem fold_cell : Tryd.prog.cellsOf 114 = 1 := by kernel_rfl
theorem fold_name : Tryd.prog.globalNamed "unicode.asciiFold" = some 0 := by kernel_rfl
theorem lays274' : Lays.n274 Tryd.prog Tryd.lays204_ren := { Tryd.lays204 with }
theorem laid_plain : (laidL.all fun x => x.2.handleName?.isNone) = true := by kernel_rfl
theorem gl_of_laid {W : World} (h : laidMetH Tryd.prog laidL W) : Gl W := by
  rw [MakeChecks.laidMetH_plain _ _ _ laid_plain] at h
  have r1 := laidMet.reads h (n := "unicode/utf8.acceptRanges") (d := YtgbodhlofebajaaDoor.Rows.laid_unicode_utf8_acceptRanges) (by simp [laidL])
  have r2 := laidMet.reads h (n := "unicode.asciiFold") (d := YtgbodhlofebajaaDoor.Rows.laid_unicode_asciiFold) (by simp [laidL])
  have r4 := laidMet.reads h (n := "unicode.CaseRanges") (d := YtgbodhlofebajaaDoor.Rows.laid_unicode_CaseRanges) (by simp [laidL])
  have r5 := laidMet.reads h (n := "unicode/utf8.first") (d := YtgbodhlofebajaaDoor.Rows.laid_unicode_utf8_first) (by simp [laidL])
  rw [accept_eq] at r1
  rw [fold_eq] at r2
  rw [show (YtgbodhlofebajaaDoor.Rows.laid_unicode_CaseRanges : DataW Unit) = caseData from Pinned.caseRanges_eq] at r4
  rw [show (YtgbodhlofebajaaDoor.Rows.laid_unicode_utf8_first : DataW Unit) = firstData from Pinned.utf8First_eq] at r5
  refine ⟨caseVar_of_reads lays274' Tryd.underlying133 caseX r4, utf8Tabs_of_reads Tryd.lays260 u8X r5 r1, ?_⟩
  obtain ⟨g, t, cs, fuel, p, hg, hty, hvar, hd⟩ := r2
  obtain rfl := Option.some.inj (fold_name.symm.trans hg)
  obtain rfl := Option.some.inj (fold_type.symm.trans hty)
  have hcs := cells_of_tab Tryd.underlying115 Tryd.underlying114 fold_cell fold_cells hd
  have hat : ∀ c, W.cell? ⟨0, c, none⟩ = (foldTab.map fun z => Value.int .u16 z)[c]? := fun c => by
    rw [World.var?_cell hg hvar c, ← Array.getElem?_toList, hcs]
  intro x hx
  rw [hat]
  simp only [List.mem_cons, List.not_mem_nil, or_false] at hx
  rcases hx with rfl | rfl | rfl | rfl | rfl | rfl <;> rfl
theorem laid_met (os : Os) (args : Array Value) : laidMetH Tryd.prog laidL ((World.laidAll Tryd.prog os laidL).forCall (fun _ _ => 0) ⟨#[], args, []⟩).memory := by
  rw [MakeChecks.laidMetH_plain _ _ _ laid_plain]
  exact laidMet_laidAll _ (by kernel_rfl) (by kernel_rfl)
theorem laid_own : ownKnob Tryd.prog.godebug = none := by kernel_rfl
theorem envW_of_laid {W : World} (h : laidMetH Tryd.prog laidL W) : EnvW W := ⟨W, gl_of_laid h, Below.refl _ _⟩
end Go.Proofs.YtgbodhlofebajaaDoorX
end
