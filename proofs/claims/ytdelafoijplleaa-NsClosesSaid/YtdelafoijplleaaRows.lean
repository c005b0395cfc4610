/-
  No cell of these rows narrows 'for every input' (looked for: loops, veiled, ifaces, maps, wideKeys, modest, calm, conditions, laid).
  DERIVED. THE GIVEN ROWS OF THIS SEAT. 3 by the template 'for every input the law returns true; each argument reads behind the call as it read before'; 0 by the template 'total and deterministic' (their statements: YtdelafoijplleaaTotals.lean).
  GIVEN WITH THE SEED: the statements are not yours to turn. If you find one false, say at which input.
  Laid BY PROGRAM, IN A SANDBOX (cutbox-rows.mjs): the forced cells as the released guide's own fill.sh prints them over the translation ec895ad1b25d12a5… (all of the seat's roots in one cut). By AI agents, Wed Nov 11 2026. No macro, syntax, notation, axiom, sorry.
-/
import Derived.Test.YtdelafoijplleaaChecked
import GoSem.Claim
import GoSem.ClaimJoined
import GoSem.ClaimMapViews
import Derived.JoinedTies
import Derived.KernelRfl
namespace Go.Proofs.Ytdelafoijplleaa
/- THE CELL 'sum', in the pinned program and in every row, IS THE sha256 OF THE DUMP (.gsa) THAT YtdelafoijplleaaProg.lean LOADS. Nothing in Lean hashes anything: it is a label: what it is worth is what the hold of that sum in a sandbox is worth. -/
noncomputable def Try.pinned : Pinned := { name := "ytdelafoijplleaa", sum := "ec895ad1b25d12a53f4365cb25dd8a6cfbe8c1639361121d760a90998e815d4f", checked := Try.checked }
namespace Rows
def none {H : Type} : Left H := { results := [], args := [] }

/-- 'rubriclaw3.NsSame': WHATEVER THE INPUT: true; the input reads as it did. -/
def nsSameSpec : ChangeSpec := { name := "nsSame", fn := fun _ => fun
  | [d1, d2, d3, d4] => { results := [.lit (.bool true)], args := [d1, d2, d3, d4] }
  | _ => none }
def nsSameRow : OpenClaim := { program := "ytdelafoijplleaa", sum := "ec895ad1b25d12a53f4365cb25dd8a6cfbe8c1639361121d760a90998e815d4f", func := "rubric/rubriclaw3.NsSame", spec := "nsSame", inPlace := ["internal/bytealg.IndexByteString", "internal/bytealg.IndexString"], unfollowed := true, recurses := true, named := ["internal/bytealg.MaxLen"], plainKeys := false, apart := false }
def NsSameSaid : Prop := nsSameRow.holds Try.pinned (OpenSpec.ofChange nsSameSpec)

/-- ITS FALSE NEIGHBOUR: 'it returns false'. Refute it at one input. -/
def nsSameWrong : ChangeSpec := { name := "nsSame", fn := fun _ => fun
  | [d1, d2, d3, d4] => { results := [.lit (.bool false)], args := [d1, d2, d3, d4] }
  | _ => none }
def NsSameWrongFalsely : Prop := nsSameRow.holds Try.pinned (OpenSpec.ofChange nsSameWrong)

/-- 'rubriclaw3.NsCloses': WHATEVER THE INPUT: true; the input reads as it did. -/
def nsClosesSpec : ChangeSpec := { name := "nsCloses", fn := fun _ => fun
  | [d1, d2, d3] => { results := [.lit (.bool true)], args := [d1, d2, d3] }
  | _ => none }
def nsClosesRow : OpenClaim := { program := "ytdelafoijplleaa", sum := "ec895ad1b25d12a53f4365cb25dd8a6cfbe8c1639361121d760a90998e815d4f", func := "rubric/rubriclaw3.NsCloses", spec := "nsCloses", inPlace := ["internal/bytealg.IndexByteString", "internal/bytealg.IndexString"], unfollowed := true, recurses := true, named := ["internal/bytealg.MaxLen"], plainKeys := false, apart := false }
def NsClosesSaid : Prop := nsClosesRow.holds Try.pinned (OpenSpec.ofChange nsClosesSpec)

/-- ITS FALSE NEIGHBOUR: 'it returns false'. Refute it at one input. -/
def nsClosesWrong : ChangeSpec := { name := "nsCloses", fn := fun _ => fun
  | [d1, d2, d3] => { results := [.lit (.bool false)], args := [d1, d2, d3] }
  | _ => none }
def NsClosesWrongFalsely : Prop := nsClosesRow.holds Try.pinned (OpenSpec.ofChange nsClosesWrong)

/-- 'rubriclaw3.NsInner': WHATEVER THE INPUT: true; the input reads as it did. -/
def nsInnerSpec : ChangeSpec := { name := "nsInner", fn := fun _ => fun
  | [d] => { results := [.lit (.bool true)], args := [d] }
  | _ => none }
def nsInnerRow : OpenClaim := { program := "ytdelafoijplleaa", sum := "ec895ad1b25d12a53f4365cb25dd8a6cfbe8c1639361121d760a90998e815d4f", func := "rubric/rubriclaw3.NsInner", spec := "nsInner", inPlace := ["internal/bytealg.IndexByteString", "internal/bytealg.IndexString"], unfollowed := true, recurses := true, named := ["internal/bytealg.MaxLen"], plainKeys := false, apart := false }
def NsInnerSaid : Prop := nsInnerRow.holds Try.pinned (OpenSpec.ofChange nsInnerSpec)

/-- ITS FALSE NEIGHBOUR: 'it returns false'. Refute it at one input. -/
def nsInnerWrong : ChangeSpec := { name := "nsInner", fn := fun _ => fun
  | [d] => { results := [.lit (.bool false)], args := [d] }
  | _ => none }
def NsInnerWrongFalsely : Prop := nsInnerRow.holds Try.pinned (OpenSpec.ofChange nsInnerWrong)

/- THE SECOND FORM. 'bulk': how many values and letters a reading holds, each counted each time it is reached (what is shared counts as often as it is met; a slice's spare places count too). A statement '..UptoSaid' is the law's where the arguments, and the package variables that the reading takes, are together of bulk at most 1048576: NARROWER than '..Said'. Prove '..Said' where nothing that the law and all that it calls make is longer than what came in: it says more and counts as full. Else prove '..UptoSaid'. A law counts once. -/
mutual
def uptoBulk {H : Type} : DataW H → Nat
  | .lit (.string bytes) => bytes.length + 1
  | .lit _ => 1
  | .nil => 1
  | .ptr d => uptoBulk d + 1
  | .slice elems spare => uptoBulkAll elems + uptoBulkAll spare + 1
  | .agg parts => uptoBulkAll parts + 1
  | .iface _ d => uptoBulk d + 1
  | .map entries => uptoBulkEntries entries + 1
  | .held _ => 1
def uptoBulkAll {H : Type} : List (DataW H) → Nat
  | [] => 0
  | d :: r => uptoBulk d + uptoBulkAll r
def uptoBulkEntries {H : Type} : List (Lit × DataW H) → Nat
  | [] => 0
  | x :: r => uptoBulkEntry x + uptoBulkEntries r
def uptoBulkEntry {H : Type} : Lit × DataW H → Nat
  | (.string bytes, d) => bytes.length + uptoBulk d + 1
  | (_, d) => uptoBulk d + 1
 end
def uptoSmall : (H : Type) → List (DataW H) → Bool := fun _ ds => decide (uptoBulkAll ds ≤ 1048576)
def OpenSpec.upto (s : _root_.Go.ChangeSpec) : _root_.Go.OpenSpec := { _root_.Go.OpenSpec.ofChange s with cond := some uptoSmall }

/-- 'rubriclaw3.NsSame', WHERE WHAT IT READS IS OF BULK AT MOST 1048576: true; the input reads as it did. -/
def nsSameUptoRow : OpenClaim := { program := "ytdelafoijplleaa", sum := "ec895ad1b25d12a53f4365cb25dd8a6cfbe8c1639361121d760a90998e815d4f", func := "rubric/rubriclaw3.NsSame", spec := "nsSame", inPlace := ["internal/bytealg.IndexByteString", "internal/bytealg.IndexString"], unfollowed := true, recurses := true, named := ["internal/bytealg.MaxLen"], plainKeys := false, apart := false, narrowed := true }
def NsSameUptoSaid : Prop := nsSameUptoRow.holds Try.pinned (OpenSpec.upto nsSameSpec)

/-- 'rubriclaw3.NsCloses', WHERE WHAT IT READS IS OF BULK AT MOST 1048576: true; the input reads as it did. -/
def nsClosesUptoRow : OpenClaim := { program := "ytdelafoijplleaa", sum := "ec895ad1b25d12a53f4365cb25dd8a6cfbe8c1639361121d760a90998e815d4f", func := "rubric/rubriclaw3.NsCloses", spec := "nsCloses", inPlace := ["internal/bytealg.IndexByteString", "internal/bytealg.IndexString"], unfollowed := true, recurses := true, named := ["internal/bytealg.MaxLen"], plainKeys := false, apart := false, narrowed := true }
def NsClosesUptoSaid : Prop := nsClosesUptoRow.holds Try.pinned (OpenSpec.upto nsClosesSpec)

/-- 'rubriclaw3.NsInner', WHERE WHAT IT READS IS OF BULK AT MOST 1048576: true; the input reads as it did. -/
def nsInnerUptoRow : OpenClaim := { program := "ytdelafoijplleaa", sum := "ec895ad1b25d12a53f4365cb25dd8a6cfbe8c1639361121d760a90998e815d4f", func := "rubric/rubriclaw3.NsInner", spec := "nsInner", inPlace := ["internal/bytealg.IndexByteString", "internal/bytealg.IndexString"], unfollowed := true, recurses := true, named := ["internal/bytealg.MaxLen"], plainKeys := false, apart := false, narrowed := true }
def NsInnerUptoSaid : Prop := nsInnerUptoRow.holds Try.pinned (OpenSpec.upto nsInnerSpec)

end Rows
end Go.Proofs.Ytdelafoijplleaa
