/-
  DERIVED. GIVEN WITH THE SEED: THE CARDS: each row of YtbaokjfhigjpdaaGreatDoorRows.lean that lists a variable, with what it lists TIED to the program's text (the seventh form; the later family's looks); each row that meets fmt, with fmt's text TOLD by the authors' own Lean function (tested against real Go, not proved from fmt's source: count such statements apart). THE CARD IS WHAT COUNTS. Prove the row's statement (the work); the ties are given (YtbaokjfhigjpdaaGreatDoorTie.lean); close each card by the builder's one call (the guide's Derived/Test/ToyasCard.lean, 'card_holds'). Laid BY PROGRAM, IN A SANDBOX (cutbox-door.mjs). By AI agents, Wed Nov 11 2026. No macro, syntax, notation, axiom, sorry.
-/
import Derived.Test.YtbaokjfhigjpdaaGreatDoorRows
import GoSem.ClaimSeven
namespace Go.Proofs.YtbaokjfhigjpdaaGreatDoor
namespace Rows

/-- THE TIED CARD OF 'rubriclaw4.TreeWalks'. -/
def treeWalksCard : Claim7 := { stood := { row := treeWalksRow, standIns := [], harness := (true, "ddaef59bb77a5aad8b1dcf39121458fed0c66466bbd8b25a811ca78a36263d5a"), looks := true }, kinds := [], alts := [], laidByText := true, laidKinds := [.data, .data, .data, .pinned, .pinned], laidTests := true, laidLooks := .later }
def TreeWalksCardSaid : Prop := Claim7.holds Tryz.pinned (.plain (OpenSpec.ofChange treeWalksSpec)) treeWalksCard

/-- THE TIED CARD OF 'rubriclaw22.PathUnions'. -/
def pathUnionsCard : Claim7 := { stood := { row := pathUnionsRow, standIns := [], harness := (true, "ddaef59bb77a5aad8b1dcf39121458fed0c66466bbd8b25a811ca78a36263d5a"), looks := true }, kinds := [], alts := [], laidByText := true, laidKinds := [.data, .data, .data, .pinned, .pinned], laidTests := true, laidLooks := .later }
def PathUnionsCardSaid : Prop := Claim7.holds Tryz.pinned (.plain (OpenSpec.ofChange pathUnionsSpec)) pathUnionsCard

/-- THE TIED CARD OF 'rubriclaw22.PathPlain'. -/
def pathPlainCard : Claim7 := { stood := { row := pathPlainRow, standIns := [], harness := (true, "ddaef59bb77a5aad8b1dcf39121458fed0c66466bbd8b25a811ca78a36263d5a"), looks := true }, kinds := [], alts := [], laidByText := true, laidKinds := [.data, .data, .data, .pinned, .pinned], laidTests := true, laidLooks := .later }
def PathPlainCardSaid : Prop := Claim7.holds Tryz.pinned (.plain (OpenSpec.ofChange pathPlainSpec)) pathPlainCard

/-- THE TIED CARD OF 'rubriclaw22.PathNames'. -/
def pathNamesCard : Claim7 := { stood := { row := pathNamesRow, standIns := [], harness := (true, "ddaef59bb77a5aad8b1dcf39121458fed0c66466bbd8b25a811ca78a36263d5a"), looks := true }, kinds := [], alts := [], laidByText := true, laidKinds := [.data, .data, .data, .pinned, .pinned], laidTests := true, laidLooks := .later }
def PathNamesCardSaid : Prop := Claim7.holds Tryz.pinned (.plain (OpenSpec.ofChange pathNamesSpec)) pathNamesCard

/-- THE SECOND FORM's CARD OF 'rubriclaw4.TreeWalks'. -/
def treeWalksUptoCard : Claim7 := { stood := { row := treeWalksUptoRow, standIns := [], harness := (true, "ddaef59bb77a5aad8b1dcf39121458fed0c66466bbd8b25a811ca78a36263d5a"), looks := true }, kinds := [], alts := [], laidByText := true, laidKinds := [.data, .data, .data, .pinned, .pinned], laidTests := true, laidLooks := .later }
def TreeWalksUptoCardSaid : Prop := Claim7.holds Tryz.pinned (.plain (OpenSpec.upto treeWalksSpec)) treeWalksUptoCard

/-- THE SECOND FORM's CARD OF 'rubriclaw22.PathUnions'. -/
def pathUnionsUptoCard : Claim7 := { stood := { row := pathUnionsUptoRow, standIns := [], harness := (true, "ddaef59bb77a5aad8b1dcf39121458fed0c66466bbd8b25a811ca78a36263d5a"), looks := true }, kinds := [], alts := [], laidByText := true, laidKinds := [.data, .data, .data, .pinned, .pinned], laidTests := true, laidLooks := .later }
def PathUnionsUptoCardSaid : Prop := Claim7.holds Tryz.pinned (.plain (OpenSpec.upto pathUnionsSpec)) pathUnionsUptoCard

/-- THE SECOND FORM's CARD OF 'rubriclaw22.PathPlain'. -/
def pathPlainUptoCard : Claim7 := { stood := { row := pathPlainUptoRow, standIns := [], harness := (true, "ddaef59bb77a5aad8b1dcf39121458fed0c66466bbd8b25a811ca78a36263d5a"), looks := true }, kinds := [], alts := [], laidByText := true, laidKinds := [.data, .data, .data, .pinned, .pinned], laidTests := true, laidLooks := .later }
def PathPlainUptoCardSaid : Prop := Claim7.holds Tryz.pinned (.plain (OpenSpec.upto pathPlainSpec)) pathPlainUptoCard

/-- THE SECOND FORM's CARD OF 'rubriclaw22.PathNames'. -/
def pathNamesUptoCard : Claim7 := { stood := { row := pathNamesUptoRow, standIns := [], harness := (true, "ddaef59bb77a5aad8b1dcf39121458fed0c66466bbd8b25a811ca78a36263d5a"), looks := true }, kinds := [], alts := [], laidByText := true, laidKinds := [.data, .data, .data, .pinned, .pinned], laidTests := true, laidLooks := .later }
def PathNamesUptoCardSaid : Prop := Claim7.holds Tryz.pinned (.plain (OpenSpec.upto pathNamesSpec)) pathNamesUptoCard
end Rows
end Go.Proofs.YtbaokjfhigjpdaaGreatDoor
