/-
  No cell of these rows narrows 'for every input' (looked for: loops, veiled, ifaces, maps, wideKeys, modest, calm, conditions, laid).
  DERIVED. THE GIVEN ROWS OF THIS SEAT. 6 by the template 'for every input the law returns true; each argument reads behind the call as it read before'; 0 by the template 'total and deterministic' (their statements: YtjogllgkdnomiaaTotals.lean).
  GIVEN WITH THE SEED: the statements are not yours to turn. If you find one false, say at which input.
  Laid BY PROGRAM, IN A SANDBOX (cutbox-rows.mjs): the forced cells as the released guide's own fill.sh prints them over the translation 30eb9b2471e7ea90… (all of the seat's roots in one cut). By AI agents, Wed Nov 11 2026. No macro, syntax, notation, axiom, sorry.
-/
import Derived.Test.YtjogllgkdnomiaaChecked
import GoSem.Claim
import GoSem.ClaimJoined
import GoSem.ClaimMapViews
import Derived.JoinedTies
import Derived.KernelRfl
namespace Go.Proofs.Ytjogllgkdnomiaa
/- THE CELL 'sum', in the pinned program and in every row, IS THE sha256 OF THE DUMP (.gsa) THAT YtjogllgkdnomiaaProg.lean LOADS. Nothing in Lean hashes anything: it is a label: what it is worth is what the hold of that sum in a sandbox is worth. -/
noncomputable def Try.pinned : Pinned := { name := "ytjogllgkdnomiaa", sum := "30eb9b2471e7ea90b1e80ec41031837196b70da6564f2fbcc52d7268c57cdeee", checked := Try.checked }
namespace Rows
def none {H : Type} : Left H := { results := [], args := [] }

/-- 'rubriclaw1.CharBlanks': WHATEVER THE INPUT: true; the input reads as it did. -/
def charBlanksSpec : ChangeSpec := { name := "charBlanks", fn := fun _ => fun
  | [d] => { results := [.lit (.bool true)], args := [d] }
  | _ => none }
def charBlanksRow : OpenClaim := { program := "ytjogllgkdnomiaa", sum := "30eb9b2471e7ea90b1e80ec41031837196b70da6564f2fbcc52d7268c57cdeee", func := "rubric/rubriclaw1.CharBlanks", spec := "charBlanks", inPlace := ["internal/bytealg.IndexByteString", "internal/bytealg.IndexString", "internal/abi.NoEscape", "internal/bytealg.MakeNoZero"], unfollowed := true, recurses := true, named := ["internal/bytealg.MaxLen"], apart := false }
def CharBlanksSaid : Prop := charBlanksRow.holds Try.pinned (OpenSpec.ofChange charBlanksSpec)

/-- ITS FALSE NEIGHBOUR: 'it returns false'. Refute it at one input. -/
def charBlanksWrong : ChangeSpec := { name := "charBlanks", fn := fun _ => fun
  | [d] => { results := [.lit (.bool false)], args := [d] }
  | _ => none }
def CharBlanksWrongFalsely : Prop := charBlanksRow.holds Try.pinned (OpenSpec.ofChange charBlanksWrong)

/-- 'rubriclaw1.CharNames': WHATEVER THE INPUT: true; the input reads as it did. -/
def charNamesSpec : ChangeSpec := { name := "charNames", fn := fun _ => fun
  | [d1, d2] => { results := [.lit (.bool true)], args := [d1, d2] }
  | _ => none }
def charNamesRow : OpenClaim := { program := "ytjogllgkdnomiaa", sum := "30eb9b2471e7ea90b1e80ec41031837196b70da6564f2fbcc52d7268c57cdeee", func := "rubric/rubriclaw1.CharNames", spec := "charNames", inPlace := ["internal/bytealg.IndexByteString", "internal/bytealg.IndexString", "internal/abi.NoEscape", "internal/bytealg.MakeNoZero"], unfollowed := true, recurses := true, named := ["internal/bytealg.MaxLen"], apart := false }
def CharNamesSaid : Prop := charNamesRow.holds Try.pinned (OpenSpec.ofChange charNamesSpec)

/-- ITS FALSE NEIGHBOUR: 'it returns false'. Refute it at one input. -/
def charNamesWrong : ChangeSpec := { name := "charNames", fn := fun _ => fun
  | [d1, d2] => { results := [.lit (.bool false)], args := [d1, d2] }
  | _ => none }
def CharNamesWrongFalsely : Prop := charNamesRow.holds Try.pinned (OpenSpec.ofChange charNamesWrong)

/-- 'rubriclaw1.CharJoins': WHATEVER THE INPUT: true; the input reads as it did. -/
def charJoinsSpec : ChangeSpec := { name := "charJoins", fn := fun _ => fun
  | [d1, d2] => { results := [.lit (.bool true)], args := [d1, d2] }
  | _ => none }
def charJoinsRow : OpenClaim := { program := "ytjogllgkdnomiaa", sum := "30eb9b2471e7ea90b1e80ec41031837196b70da6564f2fbcc52d7268c57cdeee", func := "rubric/rubriclaw1.CharJoins", spec := "charJoins", inPlace := ["internal/bytealg.IndexByteString", "internal/bytealg.IndexString", "internal/abi.NoEscape", "internal/bytealg.MakeNoZero"], unfollowed := true, recurses := true, named := ["internal/bytealg.MaxLen"], apart := false }
def CharJoinsSaid : Prop := charJoinsRow.holds Try.pinned (OpenSpec.ofChange charJoinsSpec)

/-- ITS FALSE NEIGHBOUR: 'it returns false'. Refute it at one input. -/
def charJoinsWrong : ChangeSpec := { name := "charJoins", fn := fun _ => fun
  | [d1, d2] => { results := [.lit (.bool false)], args := [d1, d2] }
  | _ => none }
def CharJoinsWrongFalsely : Prop := charJoinsRow.holds Try.pinned (OpenSpec.ofChange charJoinsWrong)

/-- 'rubriclaw1.CharBytes': WHATEVER THE INPUT: true; the input reads as it did. -/
def charBytesSpec : ChangeSpec := { name := "charBytes", fn := fun _ => fun
  | [d] => { results := [.lit (.bool true)], args := [d] }
  | _ => none }
def charBytesRow : OpenClaim := { program := "ytjogllgkdnomiaa", sum := "30eb9b2471e7ea90b1e80ec41031837196b70da6564f2fbcc52d7268c57cdeee", func := "rubric/rubriclaw1.CharBytes", spec := "charBytes", inPlace := ["internal/bytealg.IndexByteString", "internal/bytealg.IndexString", "internal/abi.NoEscape", "internal/bytealg.MakeNoZero"], unfollowed := true, recurses := true, named := ["internal/bytealg.MaxLen"], apart := false }
def CharBytesSaid : Prop := charBytesRow.holds Try.pinned (OpenSpec.ofChange charBytesSpec)

/-- ITS FALSE NEIGHBOUR: 'it returns false'. Refute it at one input. -/
def charBytesWrong : ChangeSpec := { name := "charBytes", fn := fun _ => fun
  | [d] => { results := [.lit (.bool false)], args := [d] }
  | _ => none }
def CharBytesWrongFalsely : Prop := charBytesRow.holds Try.pinned (OpenSpec.ofChange charBytesWrong)

/-- 'rubriclaw1.CharLetters': WHATEVER THE INPUT: true; the input reads as it did. -/
def charLettersSpec : ChangeSpec := { name := "charLetters", fn := fun _ => fun
  | [d] => { results := [.lit (.bool true)], args := [d] }
  | _ => none }
def charLettersRow : OpenClaim := { program := "ytjogllgkdnomiaa", sum := "30eb9b2471e7ea90b1e80ec41031837196b70da6564f2fbcc52d7268c57cdeee", func := "rubric/rubriclaw1.CharLetters", spec := "charLetters", inPlace := ["internal/bytealg.IndexByteString", "internal/bytealg.IndexString", "internal/abi.NoEscape", "internal/bytealg.MakeNoZero"], unfollowed := true, recurses := true, named := ["internal/bytealg.MaxLen"], apart := false }
def CharLettersSaid : Prop := charLettersRow.holds Try.pinned (OpenSpec.ofChange charLettersSpec)

/-- ITS FALSE NEIGHBOUR: 'it returns false'. Refute it at one input. -/
def charLettersWrong : ChangeSpec := { name := "charLetters", fn := fun _ => fun
  | [d] => { results := [.lit (.bool false)], args := [d] }
  | _ => none }
def CharLettersWrongFalsely : Prop := charLettersRow.holds Try.pinned (OpenSpec.ofChange charLettersWrong)

/-- 'rubriclaw1.CharRows': WHATEVER THE INPUT: true; the input reads as it did. -/
def charRowsSpec : ChangeSpec := { name := "charRows", fn := fun _ => fun
  | [d] => { results := [.lit (.bool true)], args := [d] }
  | _ => none }
def charRowsRow : OpenClaim := { program := "ytjogllgkdnomiaa", sum := "30eb9b2471e7ea90b1e80ec41031837196b70da6564f2fbcc52d7268c57cdeee", func := "rubric/rubriclaw1.CharRows", spec := "charRows", inPlace := ["internal/bytealg.IndexByteString", "internal/bytealg.IndexString", "internal/abi.NoEscape", "internal/bytealg.MakeNoZero"], unfollowed := true, recurses := true, named := ["internal/bytealg.MaxLen"], apart := false }
def CharRowsSaid : Prop := charRowsRow.holds Try.pinned (OpenSpec.ofChange charRowsSpec)

/-- ITS FALSE NEIGHBOUR: 'it returns false'. Refute it at one input. -/
def charRowsWrong : ChangeSpec := { name := "charRows", fn := fun _ => fun
  | [d] => { results := [.lit (.bool false)], args := [d] }
  | _ => none }
def CharRowsWrongFalsely : Prop := charRowsRow.holds Try.pinned (OpenSpec.ofChange charRowsWrong)

/- THE SECOND FORM. 'bulk': how many values and letters a reading holds, each counted each time it is reached (what is shared counts as often as it is met; a slice's spare places count too). A statement '..UptoSaid' is the law's where the arguments, and the package variables that the reading takes, are together of bulk at most 1048576: NARROWER than '..Said'. Prove '..Said' where nothing that the law and all that it calls make is longer than what came in: it says more and counts as full. Else prove '..UptoSaid'. A law counts once. -/
mutual
def uptoBulk {H : Type} : DataW H → Nat
  | .lit (.string bytes) => bytes.length + 1
  | .lit _ => 1
  | .nil => 1
  | .ptr d => uptoBulk d + 1
  | .slice elems spare => uptoBulkAll elems + uptoBulkAll spare + 1
  | .agg parts => uptoBulkAll parts + 1
  | .iface _ d => uptoBulk d + 1
  | .map entries => uptoBulkEntries entries + 1
  | .held _ => 1
def uptoBulkAll {H : Type} : List (DataW H) → Nat
  | [] => 0
  | d :: r => uptoBulk d + uptoBulkAll r
def uptoBulkEntries {H : Type} : List (Lit × DataW H) → Nat
  | [] => 0
  | x :: r => uptoBulkEntry x + uptoBulkEntries r
def uptoBulkEntry {H : Type} : Lit × DataW H → Nat
  | (.string bytes, d) => bytes.length + uptoBulk d + 1
  | (_, d) => uptoBulk d + 1
 end
def uptoSmall : (H : Type) → List (DataW H) → Bool := fun _ ds => decide (uptoBulkAll ds ≤ 1048576)
def OpenSpec.upto (s : _root_.Go.ChangeSpec) : _root_.Go.OpenSpec := { _root_.Go.OpenSpec.ofChange s with cond := some uptoSmall }

/-- 'rubriclaw1.CharBlanks', WHERE WHAT IT READS IS OF BULK AT MOST 1048576: true; the input reads as it did. -/
def charBlanksUptoRow : OpenClaim := { program := "ytjogllgkdnomiaa", sum := "30eb9b2471e7ea90b1e80ec41031837196b70da6564f2fbcc52d7268c57cdeee", func := "rubric/rubriclaw1.CharBlanks", spec := "charBlanks", inPlace := ["internal/bytealg.IndexByteString", "internal/bytealg.IndexString", "internal/abi.NoEscape", "internal/bytealg.MakeNoZero"], unfollowed := true, recurses := true, named := ["internal/bytealg.MaxLen"], apart := false, narrowed := true }
def CharBlanksUptoSaid : Prop := charBlanksUptoRow.holds Try.pinned (OpenSpec.upto charBlanksSpec)

/-- 'rubriclaw1.CharNames', WHERE WHAT IT READS IS OF BULK AT MOST 1048576: true; the input reads as it did. -/
def charNamesUptoRow : OpenClaim := { program := "ytjogllgkdnomiaa", sum := "30eb9b2471e7ea90b1e80ec41031837196b70da6564f2fbcc52d7268c57cdeee", func := "rubric/rubriclaw1.CharNames", spec := "charNames", inPlace := ["internal/bytealg.IndexByteString", "internal/bytealg.IndexString", "internal/abi.NoEscape", "internal/bytealg.MakeNoZero"], unfollowed := true, recurses := true, named := ["internal/bytealg.MaxLen"], apart := false, narrowed := true }
def CharNamesUptoSaid : Prop := charNamesUptoRow.holds Try.pinned (OpenSpec.upto charNamesSpec)

/-- 'rubriclaw1.CharJoins', WHERE WHAT IT READS IS OF BULK AT MOST 1048576: true; the input reads as it did. -/
def charJoinsUptoRow : OpenClaim := { program := "ytjogllgkdnomiaa", sum := "30eb9b2471e7ea90b1e80ec41031837196b70da6564f2fbcc52d7268c57cdeee", func := "rubric/rubriclaw1.CharJoins", spec := "charJoins", inPlace := ["internal/bytealg.IndexByteString", "internal/bytealg.IndexString", "internal/abi.NoEscape", "internal/bytealg.MakeNoZero"], unfollowed := true, recurses := true, named := ["internal/bytealg.MaxLen"], apart := false, narrowed := true }
def CharJoinsUptoSaid : Prop := charJoinsUptoRow.holds Try.pinned (OpenSpec.upto charJoinsSpec)

/-- 'rubriclaw1.CharBytes', WHERE WHAT IT READS IS OF BULK AT MOST 1048576: true; the input reads as it did. -/
def charBytesUptoRow : OpenClaim := { program := "ytjogllgkdnomiaa", sum := "30eb9b2471e7ea90b1e80ec41031837196b70da6564f2fbcc52d7268c57cdeee", func := "rubric/rubriclaw1.CharBytes", spec := "charBytes", inPlace := ["internal/bytealg.IndexByteString", "internal/bytealg.IndexString", "internal/abi.NoEscape", "internal/bytealg.MakeNoZero"], unfollowed := true, recurses := true, named := ["internal/bytealg.MaxLen"], apart := false, narrowed := true }
def CharBytesUptoSaid : Prop := charBytesUptoRow.holds Try.pinned (OpenSpec.upto charBytesSpec)

/-- 'rubriclaw1.CharLetters', WHERE WHAT IT READS IS OF BULK AT MOST 1048576: true; the input reads as it did. -/
def charLettersUptoRow : OpenClaim := { program := "ytjogllgkdnomiaa", sum := "30eb9b2471e7ea90b1e80ec41031837196b70da6564f2fbcc52d7268c57cdeee", func := "rubric/rubriclaw1.CharLetters", spec := "charLetters", inPlace := ["internal/bytealg.IndexByteString", "internal/bytealg.IndexString", "internal/abi.NoEscape", "internal/bytealg.MakeNoZero"], unfollowed := true, recurses := true, named := ["internal/bytealg.MaxLen"], apart := false, narrowed := true }
def CharLettersUptoSaid : Prop := charLettersUptoRow.holds Try.pinned (OpenSpec.upto charLettersSpec)

/-- 'rubriclaw1.CharRows', WHERE WHAT IT READS IS OF BULK AT MOST 1048576: true; the input reads as it did. -/
def charRowsUptoRow : OpenClaim := { program := "ytjogllgkdnomiaa", sum := "30eb9b2471e7ea90b1e80ec41031837196b70da6564f2fbcc52d7268c57cdeee", func := "rubric/rubriclaw1.CharRows", spec := "charRows", inPlace := ["internal/bytealg.IndexByteString", "internal/bytealg.IndexString", "internal/abi.NoEscape", "internal/bytealg.MakeNoZero"], unfollowed := true, recurses := true, named := ["internal/bytealg.MaxLen"], apart := false, narrowed := true }
def CharRowsUptoSaid : Prop := charRowsUptoRow.holds Try.pinned (OpenSpec.upto charRowsSpec)

end Rows
end Go.Proofs.Ytjogllgkdnomiaa
