/-
  DERIVED. GIVEN WITH THE SEED: THE CARDS: each row of YtgbodhlofebajaaDoorRows.lean that lists a variable, with what it lists TIED to the program's text (the seventh form; the later family's looks); each row that meets fmt, with fmt's text TOLD by the authors' own Lean function (tested against real Go, not proved from fmt's source: count such statements apart). THE CARD IS WHAT COUNTS. Prove the row's statement (the work); the ties are given (YtgbodhlofebajaaDoorTie.lean); close each card by the builder's one call (the guide's Derived/Test/ToyasCard.lean, 'card_holds'). Laid BY PROGRAM, IN A SANDBOX (cutbox-door.mjs). By AI agents, Wed Nov 11 2026. No macro, syntax, notation, axiom, sorry.
-/
import Derived.Test.YtgbodhlofebajaaDoorRows
import GoSem.ClaimSeven
namespace Go.Proofs.YtgbodhlofebajaaDoor
namespace Rows

/-- THE TIED CARD OF 'rubriclaw2.XmlEscapes'. -/
def xmlEscapesCard : Claim7 := { stood := { row := xmlEscapesRow, standIns := [], harness := (true, "79e306913e9f3b659845dfd216bb9076b8c9aedc405a1e8255405ff31a5f2d9e"), looks := true }, kinds := [], alts := [], laidByText := true, laidKinds := [.data, .data, .data, .pinned, .pinned], laidTests := true, laidLooks := .later }
def XmlEscapesCardSaid : Prop := Claim7.holds Tryd.pinned (.plain (OpenSpec.ofChange xmlEscapesSpec)) xmlEscapesCard

/-- THE TIED CARD OF 'rubriclaw2.XmlNests'. -/
def xmlNestsCard : Claim7 := { stood := { row := xmlNestsRow, standIns := [], harness := (true, "79e306913e9f3b659845dfd216bb9076b8c9aedc405a1e8255405ff31a5f2d9e"), looks := true }, kinds := [], alts := [], laidByText := true, laidKinds := [.data, .data, .data, .pinned, .pinned], laidTests := true, laidLooks := .later }
def XmlNestsCardSaid : Prop := Claim7.holds Tryd.pinned (.plain (OpenSpec.ofChange xmlNestsSpec)) xmlNestsCard

/-- THE TIED CARD OF 'rubriclaw2.XmlFronts'. -/
def xmlFrontsCard : Claim7 := { stood := { row := xmlFrontsRow, standIns := [], harness := (true, "79e306913e9f3b659845dfd216bb9076b8c9aedc405a1e8255405ff31a5f2d9e"), looks := true }, kinds := [], alts := [], laidByText := true, laidKinds := [.data, .data, .data, .pinned, .pinned], laidTests := true, laidLooks := .later }
def XmlFrontsCardSaid : Prop := Claim7.holds Tryd.pinned (.plain (OpenSpec.ofChange xmlFrontsSpec)) xmlFrontsCard

/-- THE TIED CARD OF 'rubriclaw2.XmlLimits'. -/
def xmlLimitsCard : Claim7 := { stood := { row := xmlLimitsRow, standIns := [], harness := (true, "79e306913e9f3b659845dfd216bb9076b8c9aedc405a1e8255405ff31a5f2d9e"), looks := true }, kinds := [], alts := [], laidByText := true, laidKinds := [.data, .data, .data, .pinned, .pinned], laidTests := true, laidLooks := .later }
def XmlLimitsCardSaid : Prop := Claim7.holds Tryd.pinned (.plain (OpenSpec.ofChange xmlLimitsSpec)) xmlLimitsCard

/-- THE TIED CARD OF 'rubriclaw2.XmlDeep'. -/
def xmlDeepCard : Claim7 := { stood := { row := xmlDeepRow, standIns := [], harness := (true, "79e306913e9f3b659845dfd216bb9076b8c9aedc405a1e8255405ff31a5f2d9e"), looks := true }, kinds := [], alts := [], laidByText := true, laidKinds := [.data, .data, .data, .pinned, .pinned], laidTests := true, laidLooks := .later }
def XmlDeepCardSaid : Prop := Claim7.holds Tryd.pinned (.plain (OpenSpec.ofChange xmlDeepSpec)) xmlDeepCard

/-- THE TIED CARD OF 'rubriclaw2.XmlMismatch'. -/
def xmlMismatchCard : Claim7 := { stood := { row := xmlMismatchRow, standIns := [], harness := (true, "79e306913e9f3b659845dfd216bb9076b8c9aedc405a1e8255405ff31a5f2d9e"), looks := true }, kinds := [], alts := [], laidByText := true, laidKinds := [.data, .data, .data, .pinned, .pinned], laidTests := true, laidLooks := .later }
def XmlMismatchCardSaid : Prop := Claim7.holds Tryd.pinned (.plain (OpenSpec.ofChange xmlMismatchSpec)) xmlMismatchCard

/-- THE SECOND FORM's CARD OF 'rubriclaw2.XmlEscapes'. -/
def xmlEscapesUptoCard : Claim7 := { stood := { row := xmlEscapesUptoRow, standIns := [], harness := (true, "79e306913e9f3b659845dfd216bb9076b8c9aedc405a1e8255405ff31a5f2d9e"), looks := true }, kinds := [], alts := [], laidByText := true, laidKinds := [.data, .data, .data, .pinned, .pinned], laidTests := true, laidLooks := .later }
def XmlEscapesUptoCardSaid : Prop := Claim7.holds Tryd.pinned (.plain (OpenSpec.upto xmlEscapesSpec)) xmlEscapesUptoCard

/-- THE SECOND FORM's CARD OF 'rubriclaw2.XmlNests'. -/
def xmlNestsUptoCard : Claim7 := { stood := { row := xmlNestsUptoRow, standIns := [], harness := (true, "79e306913e9f3b659845dfd216bb9076b8c9aedc405a1e8255405ff31a5f2d9e"), looks := true }, kinds := [], alts := [], laidByText := true, laidKinds := [.data, .data, .data, .pinned, .pinned], laidTests := true, laidLooks := .later }
def XmlNestsUptoCardSaid : Prop := Claim7.holds Tryd.pinned (.plain (OpenSpec.upto xmlNestsSpec)) xmlNestsUptoCard

/-- THE SECOND FORM's CARD OF 'rubriclaw2.XmlFronts'. -/
def xmlFrontsUptoCard : Claim7 := { stood := { row := xmlFrontsUptoRow, standIns := [], harness := (true, "79e306913e9f3b659845dfd216bb9076b8c9aedc405a1e8255405ff31a5f2d9e"), looks := true }, kinds := [], alts := [], laidByText := true, laidKinds := [.data, .data, .data, .pinned, .pinned], laidTests := true, laidLooks := .later }
def XmlFrontsUptoCardSaid : Prop := Claim7.holds Tryd.pinned (.plain (OpenSpec.upto xmlFrontsSpec)) xmlFrontsUptoCard

/-- THE SECOND FORM's CARD OF 'rubriclaw2.XmlLimits'. -/
def xmlLimitsUptoCard : Claim7 := { stood := { row := xmlLimitsUptoRow, standIns := [], harness := (true, "79e306913e9f3b659845dfd216bb9076b8c9aedc405a1e8255405ff31a5f2d9e"), looks := true }, kinds := [], alts := [], laidByText := true, laidKinds := [.data, .data, .data, .pinned, .pinned], laidTests := true, laidLooks := .later }
def XmlLimitsUptoCardSaid : Prop := Claim7.holds Tryd.pinned (.plain (OpenSpec.upto xmlLimitsSpec)) xmlLimitsUptoCard

/-- THE SECOND FORM's CARD OF 'rubriclaw2.XmlDeep'. -/
def xmlDeepUptoCard : Claim7 := { stood := { row := xmlDeepUptoRow, standIns := [], harness := (true, "79e306913e9f3b659845dfd216bb9076b8c9aedc405a1e8255405ff31a5f2d9e"), looks := true }, kinds := [], alts := [], laidByText := true, laidKinds := [.data, .data, .data, .pinned, .pinned], laidTests := true, laidLooks := .later }
def XmlDeepUptoCardSaid : Prop := Claim7.holds Tryd.pinned (.plain (OpenSpec.upto xmlDeepSpec)) xmlDeepUptoCard

/-- THE SECOND FORM's CARD OF 'rubriclaw2.XmlMismatch'. -/
def xmlMismatchUptoCard : Claim7 := { stood := { row := xmlMismatchUptoRow, standIns := [], harness := (true, "79e306913e9f3b659845dfd216bb9076b8c9aedc405a1e8255405ff31a5f2d9e"), looks := true }, kinds := [], alts := [], laidByText := true, laidKinds := [.data, .data, .data, .pinned, .pinned], laidTests := true, laidLooks := .later }
def XmlMismatchUptoCardSaid : Prop := Claim7.holds Tryd.pinned (.plain (OpenSpec.upto xmlMismatchSpec)) xmlMismatchUptoCard
end Rows
end Go.Proofs.YtgbodhlofebajaaDoor
