/- What is proved: what the claims of this seat share, part 17: a program of ours merged it out of our own texts, the print's words and the laid shelf. Conditions: those of each. -/
import Derived.Test.YtbaokjfhigjpdaaGreatDoorMB16
import Derived.LoopIn
import Derived.LoopNIn
import Derived.OwnWalkIn
import Derived.RangeFuncBound
import Derived.RangeFuncBox
import Derived.RangeFuncCalls
import Derived.RangeFuncLeaves
import Derived.RangeFuncNested
import Derived.Shelf.Abstract
import Derived.Shelf.RegionOpen
import Derived.TacticsInMore
import Derived.Test.YtbaokjfhigjpdaaGreatDoorProg
import Derived.WalkKit
set_option linter.unusedVariables false
set_option linter.unusedSimpArgs false
section
namespace Go.Proofs.YtbaokjfhigjpdaaGreatDoorN
open Go.RowKit Go.Shelf
attribute [local go_sem] Oper.semAt_some
theorem take_one {α:Type} (ys:List α) (k:Nat) (h:k < ys.length):ys.take (k + 1) = ys.take k ++ [ys[k]]:=List.take_succ_eq_append_getElem h
set_option maxRecDepth 100000 in
set_option maxHeartbeats 2000000 in
theorem back1_in {α:Type} (ix:α → Int) (bk:α → Nat) (F:Fence) (n:Nat) (hf:F.fn 208) (hro:F.round = none) (hn:1 ≤ n) (l Bs n₀ b off cap:Nat) (ys:List α) (hreach:ys.length * 8 ≤ 140737488351232) (hb:b < n₀) (hB:Bs < n₀) (J Jx:List α → World → Prop)
    (hY:∀ pre x W,J pre W → pre.length < ys.length → YieldAt F (n - 1) Tryz.prog l #[.int .i64 (ix x),.map (some (bk x))] W fun e W'=>
     (e = .returned (.bool true) ∧ J (pre ++ [x]) W' ∧ Below n₀ W W') ∨ (e = .returned (.bool false) ∧ Jx (pre ++ [x]) W'))
    (W:World) (hBs:W.cell? ⟨Bs,0,none⟩ = some (.slice (some ⟨b,off,none⟩) ys.length cap))
    (hc:∀ j (h:j < ys.length),W.cell? ⟨b,off + (ys.length - 1 - j),none⟩ = some (.map (some (bk ys[j])))) (hix:∀ j (h:j < ys.length),ix ys[j] = (ys.length:Int) - 1 - (j:Int)) (h0:J [] W) :
    CallsIn F n Tryz.prog 208 #[.func (.yield l) #[] #[],.pointer (some ⟨Bs,0,none⟩)] W fun e W'=>(∃ v,e = .returned v) ∧
      (J ys W' ∨ (∃ pre,(∃ k,k ≤ ys.length ∧ pre = ys.take k) ∧ Jx pre W')):=by
  refine callsIn_of_wp Tryz.func208 rfl hf ?_ hro
  simp only [Tryz.ntmps208,List.size_toArray,List.length_cons,List.length_nil,Nat.reduceAdd,Nat.reduceSub,Array.replicate_succ,Array.replicate_zero,List.push_toArray,List.append_toArray,List.nil_append,List.cons_append]
  gi_wp2
  gi_loopw [3] (fun i wr=>∃ k:Nat,k ≤ ys.length ∧ i = .int .i64 ((ys.length:Int) - 1 - (k:Int)) ∧ J (ys.take k) wr ∧ Below n₀ W wr)
    (fun i _=>(intOf i + 1).toNat)
  case atStart=>exact ⟨0,Nat.zero_le _,by simp,h0,Below.refl _ _⟩
  case round=>
   obtain ⟨k,hk,rfl,hJs,hnx⟩:=hrel
   by_cases hlt:k < ys.length
   ·have hcx:wr.cell? ⟨b,off + (ys.length - 1 - k),none⟩ = some (.map (some (bk ys[k]))):=(hnx.cell (p:=⟨b,off + (ys.length - 1 - k),none⟩) hb).trans (hc k hlt)
    have hbx:wr.cell? ⟨Bs,0,none⟩ = some (.slice (some ⟨b,off,none⟩) ys.length cap):=(hnx.cell (p:=⟨Bs,0,none⟩) hB).trans hBs
    have hsub:(((ys.length:Int) - 1 - (k:Int)).toNat) = ys.length - 1 - k:=by omega
    obtain ⟨fn,tmps,assign,body,hy,hR⟩:=hY _ ys[k] wr hJs (by rw [List.length_take];omega)
    rw [hix k hlt] at hy
    gi_wp2
    refine hR.mono ?_
    rintro e W3 (⟨rfl,hJ3,hk3⟩ | ⟨rfl,hJx3⟩)
    ·gi_wp2
     go_roundw
     case rel=>exact ⟨k + 1,by omega,by simp;omega,by rw [take_one ys k hlt];exact hJ3,hnx.trans hk3⟩
     case measure=>simp [intOf];omega
    ·gi_wp2
     refine bodyPost_ret (results_none rfl _ _ _) rfl ?_
     exact ⟨⟨_,rfl⟩,.inr ⟨_,⟨k + 1,by omega,rfl⟩,by rw [take_one ys k hlt];exact hJx3⟩⟩
   ·obtain rfl:k = ys.length:=by omega
    gi_wp2
    go_end0
    exact ⟨⟨_,rfl⟩,.inl (by rw [List.take_length] at hJs;exact hJs)⟩
end Go.Proofs.YtbaokjfhigjpdaaGreatDoorN
end
