-- Written by a turned copy of the print (wip/print/mkprint.py): contracts proved by hand are joined in. Lean checks it.
import Derived.Test.YtdelafoijplleaaProg
import Derived.Test.YtdelafoijplleaaShelf
import Derived.Lib.SlBytesConst
import Derived.StillTailTactics
import Derived.Below
import Derived.Deep.Draws
import Derived.Deep.AppendLies
import Derived.Maps.AppendAt
import Derived.OwnWalk
import Derived.Laws.BytesArg
import Derived.Laws.MakeOwn
import Derived.Laws.OwnMore
import Derived.Deep.OwnRows
import Derived.Tactics
import Derived.Lib.ConvBytes
import Derived.Laws.Slices
import Derived.WalkKit
import Derived.KernelRfl
import Derived.RowKit3
import Derived.Deep.LoopGhost
import Derived.Deep.QuietTactic
import Derived.BigQuiet
import Derived.WideLaws
import Derived.Deep.DeepCutAuto
import Derived.Deep.CutBlock
import Derived.Deep.RegionHeld3
import Derived.Laws.Rows
import Derived.Lib.AppendStr
import Derived.ArgAppend
import Derived.Laws.IdiomCopy
import Derived.OrdersHeld
import Derived.Laws.BitsLemmas
import Derived.RowKit
import Derived.Test.YtdelafoijplleaaWWords
import Derived.Test.YtdelafoijplleaaWLast
import Derived.Test.YtdelafoijplleaaWTab
import Derived.Test.YtdelafoijplleaaWFour
import Derived.Test.YtdelafoijplleaaWQPut
import Derived.Test.YtdelafoijplleaaWApart
import Derived.Test.YtdelafoijplleaaWArr
import Derived.Test.YtdelafoijplleaaWZeros
import Derived.Test.YtdelafoijplleaaWFoot
import Derived.Test.YtdelafoijplleaaWKept
import Derived.Test.YtdelafoijplleaaWShare
import Derived.Test.YtdelafoijplleaaWN
import Derived.Test.YtdelafoijplleaaWFootNe
import Derived.Test.YtdelafoijplleaaWAt
import Derived.Test.YtdelafoijplleaaWEqStruct
import Derived.Test.YtdelafoijplleaaWRepsOne
import Derived.Test.YtdelafoijplleaaWInv
import Derived.Test.YtdelafoijplleaaWInvWords
import Derived.Test.YtdelafoijplleaaWGuard
import Derived.Test.YtdelafoijplleaaWNEv
import Derived.Test.YtdelafoijplleaaWMore
namespace Go.Proofs.Ytdelafoijplleaa.PNsBase
open Go.RowKit Go.Proofs.YtdelafoijplleaaW.PrintWords Go.Proofs.YtdelafoijplleaaW.PrintLast Go.Proofs.YtdelafoijplleaaW.PrintMore
attribute [local go_sem] max2_int min2_int max_two min_two max_three min_three max_four min_four   -- for this text's walks alone
set_option linter.unusedVariables false
set_option linter.unusedSimpArgs false



def errW : Option Int → Value
  | none => .nilIface
  | some c => .iface 0 (.int .i64 c)
theorem errW_none : errW none = .nilIface := rfl
theorem errW_some (c : Int) : errW (some c) = .iface 0 (.int .i64 c) := rfl


def conv_lit.f (xs : List Int) : Option (List Int) := if xs.length ≤ 9223372036854775807 then some xs else none
theorem conv_lit.gate {P : Program} {ops : Array Oper} {rest : List Oper} {o : Oper} {a : Act} {Q : Exit → Act → World → Prop} {W : World} {N : Tmp} (_ho : o.dst = some N) (h : wpList P ops Q (o :: rest) a W) : wpList P ops Q (o :: rest) a W := h
theorem conv_lit.step {P : Program} {ops : Array Oper} {rest : List Oper} {o1 o2 : Oper} {a : Act} {Q : Exit → Act → World → Prop} {W : World} (t e : TypeId) (ht : P.underlying t = some (.slice e)) (he : P.underlying e = some (.int .u8)) (d1 : Tmp) (N : Option Tmp) (hd1 : o1.dst = some d1) (hg1 : o1.guard = none) (hN : o2.dst = N) (hg2 : o2.guard = none)
    (ho2 : o2.op = .convert t t (.tmp d1)) (xs r : List Int) (hr : conv_lit.f xs = some r) (heval : ∀ v, (a.put (some d1) v).eval (.tmp d1) = v)
    (hrun : (execOp a.eval o1).run P W = .ok (.value (.slice (some ⟨W.heap.size, 0, none⟩) xs.length xs.length)) (W.alloc (.cells (nums .u8 xs).toArray e)))
    (h : ∀ (en : Ending) (w' : World), (∃ v0_ : Value, en = .returned v0_ ∧ Kd.V (Kd.int .u8) e w' W.heap.size (fun k_ => W.heap.size ≤ k_) v0_ r ∧ Below W.heap.size W w') → ∃ v, en = .returned v ∧ wpList P ops Q rest ((a.put (some d1) v).put N v) w') :
    wpList P ops Q (o1 :: o2 :: rest) a W := by
  unfold conv_lit.f at hr
  split at hr
  · rename_i hsz
    obtain rfl := Option.some.inj hr
    refine wpList_plain hg1 fun K hK => ?_
    unfold Oper.wp
    rw [hrun]
    refine hK _ _ ?_
    rw [hd1]
    refine wpList_plain hg2 fun K hK => ?_
    have hc := Lib.run_convert_bytes_const (P := P) W t e (nums .u8 xs).toArray xs.length xs.length ht he
    have hrun2 : (execOp (a.put (some d1) (.slice (some ⟨W.heap.size, 0, none⟩) xs.length xs.length)).eval o2).run P (W.alloc (.cells (nums .u8 xs).toArray e)) = .ok (.value (.slice (some ⟨W.heap.size, 0, none⟩) xs.length xs.length)) (W.alloc (.cells (nums .u8 xs).toArray e ((nums .u8 xs).toArray.size, (nums .u8 xs).toArray.size + 1))) := by
      unfold execOp
      simp [ho2, heval, hc]
    unfold Oper.wp
    rw [hrun2]
    subst hN
    obtain ⟨v, hv, hk⟩ := h (.returned (.slice (some ⟨W.heap.size, 0, none⟩) xs.length xs.length)) (W.alloc (.cells (nums .u8 xs).toArray e ((nums .u8 xs).toArray.size, (nums .u8 xs).toArray.size + 1)))
      ⟨_, rfl, by
        refine ⟨_, _, rfl, Nat.le_refl _, ?_⟩
        intro W' hW
        refine ⟨rfl, hsz, fun hn => ⟨_, rfl, fun j p hj => ⟨[.int .u8 p], rfl, rfl, fun i u hu => ?_⟩⟩⟩
        have hi : i = 0 := by
          have := (List.getElem?_eq_some_iff.1 hu).1
          simp at this
          omega
        subst hi
        have hu' : Value.int .u8 p = u := by simpa using hu
        subst hu'
        rw [show j * (Kd.int IntKind.u8).sz + 0 = j from Nat.mul_one j, add_plain]
        have hW2 := hW W.heap.size (Nat.le_refl _) (by simp)
        rw [heap_alloc_new] at hW2
        unfold World.cell?
        simp only [hW2]
        simp [nums, hj], below_alloc (Below.refl _ _) _⟩
    obtain rfl := Ending.returned.inj hv
    exact hK _ _ hk
  · exact absurd hr (by simp)
def conv_bytes.f (s : ByteArray) : Option (List Int) := if s.size < 140737488355328 then some (bytesOf s) else none
theorem conv_bytes.gate {P : Program} {ops : Array Oper} {rest : List Oper} {o : Oper} {a : Act} {Q : Exit → Act → World → Prop} {W : World} {src dst : TypeId} {x : Operand} (_ho : o.op = .convert src dst x) (h : wpList P ops Q (o :: rest) a W) : wpList P ops Q (o :: rest) a W := h
theorem conv_bytes.step {P : Program} {ops : Array Oper} {rest : List Oper} {o : Oper} {a : Act} {Q : Exit → Act → World → Prop} {W : World} (src dst e : TypeId) {u : TypeDesc}
    (hs : P.underlying src = some u) (hd : P.underlying dst = some (.slice e)) (he : P.underlying e = some (.int .u8)) (N : Option Tmp) (hN : o.dst = N) (hg : o.guard = none) {x : Operand} (ho : o.op = .convert src dst x) (s : ByteArray) (r : List Int) (hx : a.eval x = .string s) (hr : conv_bytes.f s = some r)
    (h : ∀ (en : Ending) (w' : World), (∃ v0_ : Value, en = .returned v0_ ∧ Kd.V (Kd.int .u8) e w' W.heap.size (fun k_ => W.heap.size ≤ k_) v0_ r ∧ Below W.heap.size W w') → ∃ v, en = .returned v ∧ wpList P ops Q rest (a.put N v) w') :
    wpList P ops Q (o :: rest) a W := by
  unfold conv_bytes.f at hr
  split at hr
  · rename_i hsz
    obtain rfl := Option.some.inj hr
    refine wpList_plain hg fun K hK => ?_
    have hrun : (execOp a.eval o).run P W = .ok (.value (.slice (some ⟨W.heap.size, 0, none⟩) s.size (grownCap W s.size 0 e))) (Lib.bytesWorld W e s) := by
      unfold execOp
      simp [ho, hx, print_bytes src dst e hs hd he s W]
    unfold Oper.wp
    rw [hrun]
    subst hN
    have hcap : s.size ≤ grownCap W s.size 0 e := grownCap_ge W s.size 0 e
    obtain ⟨v, hv, hk⟩ := h (.returned (.slice (some ⟨W.heap.size, 0, none⟩) s.size (grownCap W s.size 0 e))) (Lib.bytesWorld W e s)
      ⟨_, rfl, by
        have hl := bytesOf_length s
        have hr1 := bytes_reads W e s (by omega)
        refine ⟨_, _, by rw [hl], by rw [hl]; exact hcap, ?_⟩
        intro W' hW
        rw [hl]
        have hc1 : Kd.C (Kd.int .u8) (Lib.bytesWorld W e s) (some ⟨W.heap.size, 0, none⟩) s.size (bytesOf s) := Kd.C_of_reads (d := (0 : Int)) (h1 := fun _ => rfl) hr1
        refine ⟨hc1.1, hc1.2.1, fun hn => ?_⟩
        obtain ⟨ad, ead, hcell⟩ := hc1.2.2 hn
        obtain rfl := Option.some.inj ead
        refine ⟨_, rfl, fun j p hj => ?_⟩
        obtain ⟨c, h1, h2, h3⟩ := hcell j p hj
        refine ⟨c, h1, h2, fun i u hu => ?_⟩
        have h4 := h3 i u hu
        rw [add_plain] at h4 ⊢
        unfold World.cell? at h4 ⊢
        rw [hW W.heap.size (Nat.le_refl _) (by rw [Lib.bytesWorld_size]; omega)]
        exact h4, bytes_below (Below.refl _ W) (Nat.le_refl _) e s⟩
    obtain rfl := Ending.returned.inj hv
    exact hK _ _ hk
  · exact absurd hr (by simp)

theorem info5 : (Try.prog.info? 5).map (fun i => (i.zero, i.size, i.bytes)) = some (some (.int .u8 0), 1, 1) := by kernel_rfl
-- the values' own types
def rd_L1 (xs : List (List Int)) (i : Int) : (List Int) := xs.getD i.toNat ([] : List Int)
theorem at_L1 {w : World} {A : Option Addr} {n : Nat} {xs : List (List Int)} (h : Kd.C (Kd.slice 5 (Kd.int .u8)) w A n xs) (i : Int) (h0 : 0 ≤ i) (h1 : i < n) : ∃ ad A0 c0, A = some ad ∧ w.cell? (ad.add i.toNat) = some (.slice A0 (rd_L1 xs i).length c0) ∧ (rd_L1 xs i).length ≤ c0 ∧ (Kd.int .u8).C w A0 (rd_L1 xs i).length (rd_L1 xs i) := by
  obtain ⟨ad, c, e, _, hK, hc0⟩ := Kd.C_get h ([] : List Int) i h0 h1
  have hc : ∀ j u, c[j]? = some u → w.cell? (ad.add (i.toNat * 1 + j)) = some u := hc0
  obtain ⟨A0, c0, rfl, l0, g0⟩ := hK
  exact ⟨ad, A0, c0, e, by have hq := hc 0 _ rfl; rwa [Nat.mul_one, Nat.add_zero] at hq, l0, g0⟩

end Go.Proofs.Ytdelafoijplleaa.PNsBase
