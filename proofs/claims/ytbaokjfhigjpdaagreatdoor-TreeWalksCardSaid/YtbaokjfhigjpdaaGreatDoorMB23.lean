/- What is proved: what the claims of this seat share, part 23: a program of ours merged it out of our own texts, the print's words and the laid shelf. Conditions: those of each. -/
import Derived.Test.YtbaokjfhigjpdaaGreatDoorMB22
import Derived.Lib.SlBytesConst
import Derived.LoopIn
import Derived.OwnWalkIn
import Derived.RangeFuncBound
import Derived.RangeFuncFrom
import Derived.RangeFuncKeeps
import Derived.RangeFuncLeaves
import Derived.Shelf.Abstract
import Derived.TacticsInMore
import Derived.WalkKit
set_option linter.unusedVariables false
set_option linter.unusedSimpArgs false
section
set_option linter.unusedVariables false
namespace Go.Proofs.YtbaokjfhigjpdaaGreatDoorT
open Go.RowKit Go.Shelf
open Go.Proofs.YtbaokjfhigjpdaaGreatDoorN (NA flatN flatB)
open Go.Proofs.YtbaokjfhigjpdaaGreatDoorX (RowAt blk_lt blk_cell lt_of_cell ownsRow_of_blocks)
attribute [local go_sem] Oper.semAt_some
theorem room_of_none {F:Fence} (hd:F.depth = none) (k:Nat):F.room k:=fun d h=>by rw [hd] at h;cases h
theorem round_any {F:Fence} (hd:F.depth = none) {m m':Nat} {P:Program} {l:Nat} {f:FuncId} {tmps:Array Value} {assign body:Code} {w:World} {R:Ending → World → Prop}
    (h:RoundIn F m P l f tmps assign body w R):RoundIn F m' P l f tmps assign body w R:=⟨h.1,fun c cs _=>h.2 c cs (room_of_none hd _)⟩
theorem yield_any {F:Fence} (hd:F.depth = none) {m:Nat} (m':Nat) {P:Program} {l:Nat} {args:Array Value} {W:World} {R:Ending → World → Prop} (h:YieldAt F m P l args W R):YieldAt F m' P l args W R:=by
 obtain ⟨fn,tmps,assign,body,hy,hR⟩:=h
 exact ⟨fn,tmps,assign,body,hy,round_any hd hR⟩
abbrev encW (ms:List NP) (x:Nat × Nat):Array Value:=#[.int .i64 x.2,ptrOf ms x.1]
set_option maxRecDepth 100000 in
set_option maxHeartbeats 4000000 in
theorem walkIn_c (F:Fence) (hd:F.depth = none) (h48:F.fn 48) (hro:F.round = none) (l n0 N:Nat) {ms:List NP} {ns:List ND} (J Jx:List (Nat × Nat) → World → Prop)
    (hY:∀ m pre x W,J pre W → pre.length < N → YieldAt F m Tryz.prog l (encW ms x) W fun e W'=>
      (e = .returned (.bool true) ∧ J (pre ++ [x]) W' ∧ Below n0 W W') ∨ (e = .returned (.bool false) ∧ Jx (pre ++ [x]) W')) :
    ∀ (f n i d:Nat) (pre:List (Nat × Nat)) (W:World),Fo W n0 ms ns → i < ns.length → ns.length ≤ f + i → d + f ≤ 1000000000 → ns.length ≤ 1000000000 → (∀ d ∈ ns,d.kids.length ≤ 1000000000) → J pre W → pre.length + (preF ns f i d).length ≤ N →
      CallsIn F n Tryz.prog 48 #[ptrOf ms i,.int .i64 d,.func (.yield l) #[] #[]] W fun e W'=>
       (e = .returned (.bool true) ∧ J (pre ++ preF ns f i d) W' ∧ Below n0 W W') ∨ (e = .returned (.bool false) ∧ ∃ q,q <+: preF ns f i d ∧ Jx (pre ++ q) W'):=by
  intro f
  induction f with
  | zero=>
   intro n i d pre W _ hi hf
   omega
  | succ f ih=>
   intro n i d pre W hF hi hf hdf hnl hkl hJ hN
   obtain ⟨m,dd,h1,h2,h3,h4⟩:=hF.get hi
   have hdd:∀ k:Nat,(F.depth.isSome = true → 1 ≤ k):=fun k h=>by rw [hd] at h;cases h
   have hpre:preF ns (f + 1) i d = (i,d) :: dd.kids.flatMap fun j=>preF ns f j (d + 1):=by rw [preF,kidsOf_eq h2]
   have hkd:=hkl dd (List.mem_of_getElem? h2)
   have hup:=hF.up i dd h2
   rw [hpre] at hN
   simp only [List.length_cons] at hN
   obtain ⟨ka,kc,e1,e2⟩:=h3.kid
   have c6:W.cell? ⟨m.b,6,none⟩ = some (.slice ka dd.kids.length kc):=(blk_cell h3.blk 6).trans (congrArg some e1)
   have hmb:=hF.blow h1
   have hYi:=YieldAt.mono (hY (n - 1) pre (i,d) W hJ (by omega)) (R':=fun e W2=>(e = .returned (.bool true) ∧ J (pre ++ [(i,d)]) W2 ∧ Below n0 W W2 ∧ W2.cell? ⟨m.b,6,none⟩ = some (.slice ka dd.kids.length kc)) ∨ (e = .returned (.bool false) ∧ Jx (pre ++ [(i,d)]) W2)) fun e W2 h=>h.elim (fun ⟨a1,a2,a3⟩=>.inl ⟨a1,a2,a3,(a3.cell (p:=⟨m.b,6,none⟩) hmb).trans c6⟩) .inr
   rw [encW,h4] at hYi
   obtain ⟨fn,tmps,assign,body,hy,hR⟩:=hYi
   rw [h4]
   refine callsIn_of_wp Tryz.func48 rfl h48 ?_ hro
   simp only [Tryz.ntmps48,List.size_toArray,List.length_cons,List.length_nil,Nat.reduceAdd,Nat.reduceSub,Array.replicate_succ,Array.replicate_zero,List.push_toArray,List.append_toArray,List.nil_append,List.cons_append]
   gi_wp2_with ((try refine ⟨hdd _,?_⟩);refine hR.mono ?_;clear hR;rintro e W2 (⟨rfl,hJ2,hb2,c6'⟩ | ⟨rfl,hx2⟩))
   ·gi_loopw [19] (fun iv wr=>∃ k:Nat,k ≤ dd.kids.length ∧ iv = .int .i64 k ∧ J (pre ++ [(i,d)] ++ (dd.kids.take k).flatMap fun j=>preF ns f j (d + 1)) wr ∧ Below n0 W wr) (fun iv _=>dd.kids.length - (intOf iv).toNat)
    case atStart=>exact ⟨0,Nat.zero_le _,rfl,by simpa using hJ2,hb2⟩
    case round=>
     rename World=>wr
     obtain ⟨k,hkl2,rfl,hJr,hbr⟩:=hrel
     by_cases hlt:k < dd.kids.length
     ·have htk:=take_next hlt
      have hj:=hup dd.kids[k] (List.getElem_mem hlt)
      obtain ⟨g,rfl,ck0⟩:=e2 k dd.kids[k] (List.getElem?_eq_getElem hlt)
      have hgl:g < n0:=hF.low m (List.mem_of_getElem? h1) g (.inr (.inr (.inr (by rw [e1];rfl))))
      have ck:=(World.cell?_of_block (hbr.block g hgl)).trans ck0
      have hft:=flat_take (fun j=>preF ns f j (d + 1)) dd.kids (k + 1)
      rw [htk] at hft
      simp only [List.flatMap_append,List.length_append,List.flatMap_cons,List.flatMap_nil,List.append_nil] at hft
      have hrec:=ih (n - 1) dd.kids[k] (d + 1) _ wr (hF.below hbr) hj.2 (by omega) (by omega) hnl hkl hJr (by simp only [List.length_append,List.length_singleton];omega)
      have hres:pre ++ [(i,d)] ++ (dd.kids.take (k + 1)).flatMap (fun j=>preF ns f j (d + 1)) = pre ++ [(i,d)] ++ (dd.kids.take k).flatMap (fun j=>preF ns f j (d + 1)) ++ preF ns f dd.kids[k] (d + 1):=by
       rw [htk,List.flatMap_append]
       simp
      have hsub:∀ q,q <+: preF ns f dd.kids[k] (d + 1) → (i,d) :: (dd.kids.take k).flatMap (fun j=>preF ns f j (d + 1)) ++ q <+: preF ns (f + 1) i d:=by
       rintro q ⟨r,hr⟩
       rw [hpre]
       refine ⟨r ++ (dd.kids.drop (k + 1)).flatMap (fun j=>preF ns f j (d + 1)),?_⟩
       conv=>rhs;rw [← List.take_append_drop (k + 1) dd.kids,htk,List.flatMap_append,List.flatMap_append]
       simp only [List.flatMap_cons,List.flatMap_nil,List.append_nil,← hr]
       simp
      generalize dd.kids[k] = j at *
      obtain ⟨mj,dj,j1,j2,j3,j4⟩:=hF.get hj.2
      rw [j4] at ck hrec
      rw [show ((d + 1:Nat):Int) = (d:Int) + 1 from rfl] at hrec
      have hw1:IntKind.i64.wrap ((d:Int) + 1) = (d:Int) + 1:=IntWalk.i64_in _ (by omega)
      gi_wp2_with ((try refine ⟨hdd _,?_⟩);gi_at_call 48;refine hrec.mono ?_;clear hrec;rintro e W3 (⟨rfl,hJ3,hb3⟩ | ⟨rfl,q,hq,hx3⟩))
      · exact ⟨⟨k + 1,by omega,by simp,by rw [hres];exact hJ3,hbr.trans hb3⟩,by simp [intOf];omega⟩
      ·go_ret
       exact .inr ⟨rfl,_,hsub q hq,by simpa using hx3⟩
     ·obtain rfl:k = dd.kids.length:=by omega
      rw [List.take_length] at hJr
      gi_wp2
      go_ret
      exact .inl ⟨rfl,by rw [hpre];simpa using hJr,hbr⟩
   ·gi_wp2
    go_ret
    exact .inr ⟨rfl,[(i,d)],by rw [hpre];exact ⟨_,rfl⟩,hx2⟩
end Go.Proofs.YtbaokjfhigjpdaaGreatDoorT
end
section
set_option linter.unusedVariables false
namespace Go.Proofs.YtbaokjfhigjpdaaGreatDoorT
open Go.RowKit Go.Shelf
open Go.Proofs.YtbaokjfhigjpdaaGreatDoorX (RowAt blk_lt blk_cell lt_of_cell ownsRow_of_blocks)
attribute [local go_sem] Oper.semAt_some
section
variable {ms:List NP} {ns:List ND} {n0:Nat}
structure Szs (ns:List ND):Prop where
  nl:ns.length ≤ 1000000
  kl:∀ d ∈ ns,d.kids.length ≤ 1000000
set_option maxRecDepth 100000 in
set_option maxHeartbeats 1000000 in
theorem walk1_in (F:Fence) (hd:F.depth = none) (n:Nat) (h47:F.fn 47) (h48:F.fn 48) (hro:F.round = none) (l Bt n0 i:Nat) (J Jx:List (Nat × Nat) → World → Prop)
    (hY:∀ pre x W,J pre W → pre.length < (preF ns ns.length i 1).length → YieldAt F (n - 1) Tryz.prog l (encW ms x) W fun e W'=>
      (e = .returned (.bool true) ∧ J (pre ++ [x]) W' ∧ Below n0 W W') ∨ (e = .returned (.bool false) ∧ Jx (pre ++ [x]) W'))
    (W:World) (hF:Fo W n0 ms ns) (hz:Szs ns) (hi:i < ns.length) (hBt:W.cell? ⟨Bt,0,none⟩ = some (ptrOf ms i)) (h0:J [] W) :
    CallsIn F n Tryz.prog 47 #[.func (.yield l) #[] #[],.pointer (some ⟨Bt,0,none⟩)] W fun e W'=>(∃ v,e = .returned v) ∧
      ((∃ ys,ys = preF ns ns.length i 1 ∧ J ys W') ∨ (∃ pre,pre <+: preF ns ns.length i 1 ∧ Jx pre W')):=by
  have hdd:∀ k:Nat,(F.depth.isSome = true → 1 ≤ k):=fun k h=>by rw [hd] at h;cases h
  have hp:=walkIn_c F hd h48 hro l n0 (preF ns ns.length i 1).length J Jx (fun m pre x W hj hl=>yield_any hd m (hY pre x W hj hl)) ns.length (n - 1) i 1 [] W hF hi (by omega) (by have:=hz.nl;omega) (by have:=hz.nl;omega) (fun d hd=>by have:=hz.kl d hd;omega) h0 (by simp)
  have hp1:(((1:Nat):Int)) = 1:=rfl
  rw [hp1] at hp
  obtain ⟨m,d,q1,q2,q3,q4⟩:=hF.get hi
  rw [q4] at hBt hp
  refine callsIn_of_wp Tryz.func47 rfl h47 ?_ hro
  simp only [Tryz.ntmps47,List.size_toArray,List.length_cons,List.length_nil,Nat.reduceAdd,Nat.reduceSub,Array.replicate_succ,Array.replicate_zero,List.push_toArray,List.append_toArray,List.nil_append,List.cons_append]
  gi_wp2_with ((try refine ⟨hdd _,?_⟩);gi_at_call 48;refine hp.mono ?_;clear hp;rintro e W1 (⟨rfl,hJ1,_⟩ | ⟨rfl,q,hq,hx⟩))
  ·go_end0
   exact ⟨⟨_,rfl⟩,.inl ⟨_,rfl,by simpa using hJ1⟩⟩
  ·go_end0
   exact ⟨⟨_,rfl⟩,.inr ⟨q,hq,by simpa using hx⟩⟩
set_option maxHeartbeats 1000000 in
theorem Walk_in (F:Fence) (n:Nat) (h28:F.fn 28) (hro:F.round = none) (v:Option Addr) (w:World) :
    CallsIn F n Tryz.prog 28 #[.pointer v] w fun e w'=>e = .returned (.func (.func 47) #[] #[.pointer (some ⟨w.heap.size,0,none⟩)]) ∧ w' = w.alloc (.cells #[.pointer v] 27):=by
  refine callsIn_of_wp Tryz.func28 rfl h28 ?_ hro
  simp only [Tryz.ntmps28,List.size_toArray,List.length_cons,List.length_nil,Nat.reduceAdd,Nat.reduceSub,Array.replicate_succ,Array.replicate_zero,List.push_toArray,List.append_toArray,List.nil_append,List.cons_append]
  gi_wp2
  go_ret
  exact ⟨rfl,rfl⟩
theorem walk_stops (F:Fence) (hd:F.depth = none) (n:Nat) (h47:F.fn 47) (h48:F.fn 48) (hro:F.round = none) (Bt n0 i:Nat) (w:World) (hBt:Bt < w.heap.size) (hn0:n0 ≤ w.heap.size)
    (hc:w.cell? ⟨Bt,0,none⟩ = some (ptrOf ms i)) (hF:Fo w n0 ms ns) (hz:Szs ns) (hi:i < ns.length) :
    SeqStopsK F n Tryz.prog 47 #[.pointer (some ⟨Bt,0,none⟩)] (encW ms) (Below n0) (fun ys=>ys = preF ns ns.length i 1) (fun pre=>pre <+: preF ns ns.length i 1) (preF ns ns.length i 1).length w:=fun l J Jx W hW _ _ hY h0=>
  walk1_in F hd n h47 h48 hro l Bt n0 i J Jx hY W (hF.below (hW.mono hn0)) hz hi ((hW.cell (p:=⟨Bt,0,none⟩) hBt).trans hc) h0
set_option maxRecDepth 100000 in
set_option maxHeartbeats 2000000 in
theorem size_in (F:Fence) (hd:F.depth = none) (n:Nat) (h26:F.fn 26) (h28:F.fn 28) (h47:F.fn 47) (h48:F.fn 48) (hro:F.round = none) (hn:3 ≤ n) (i:Nat) (w:World) (hF:Fo w n0 ms ns) (hn0:n0 ≤ w.heap.size) (hz:Szs ns) (hi:i < ns.length) (hlen:(preF ns ns.length i 1).length ≤ 1000000000) :
    CallsIn F n Tryz.prog 26 #[ptrOf ms i] w fun e W=>e = .returned (.int .i64 (preF ns ns.length i 1).length) ∧ Below w.heap.size w W:=by
  have h1:1 ≤ n:=by omega
  obtain ⟨m,d,q1,q2,q3,q4⟩:=hF.get hi
  have hmb:=hF.blow q1
  refine callsIn_of_wp_marks Tryz.func26 rfl h26 ?_ hro
  simp only [Tryz.ntmps26,List.size_toArray,List.length_cons,List.length_nil,Nat.reduceAdd,Nat.reduceSub,Array.replicate_succ,Array.replicate_zero,List.push_toArray,List.append_toArray,List.nil_append,List.cons_append]
  gi_wp2_with (gi_at_call 28;refine (Walk_in F (n - 1) h28 hro _ _).mono ?_;rintro e w' ⟨rfl,rfl⟩)
  have b1:=Boxed.new w 3 (.int .i64 0)
  have b2:=Boxed.new (w.alloc (.cells #[.int .i64 0] 3)) 27 (.pointer (some ⟨m.b,0,none⟩))
  rw [World.size_alloc] at b2
  have hB0:Below w.heap.size w ((w.alloc (.cells #[.int .i64 0] 3)).alloc (.cells #[.pointer (some ⟨m.b,0,none⟩)] 27)):=((Below.refl _ w).alloc (Nat.le_refl _) _).alloc (by simp) _
  have hF2:=hF.below (hB0.mono hn0)
  refine wpIn_rangeFunc_ownF hro h1 (gf:=47) (lb:=#[.pointer (some ⟨w.heap.size + 1,0,none⟩)]) rfl h47 (enters_of Tryz.func47 (by kernel_rfl) rfl)
    (walk_stops F hd (n - 1) h47 h48 hro (w.heap.size + 1) n0 i _ (by simp) (by simp;omega) (b2.cell.trans (congrArg some q4.symm)) hF2 hz hi) belowK_t (belowK_b (by simp;omega)) (Below.refl _ _) (fun _=>rfl)
    (fun pre W=>(W.cell? ⟨w.heap.size,0,none⟩ = some (.int .i64 pre.length) ∧ W.frozen? ⟨w.heap.size,0,none⟩ = false) ∧ Below w.heap.size w W)
    (fun _ _ _=>False)
    (OwnFrom.and (Own.from (fun s A B row hs hg hr=>⟨cell_kept hs.1 hg hr,(frozen_kept hs.1 hg hr).trans hs.2⟩) _) (ownFrom_below (Nat.le_refl _) (by simp;omega)))
    (fun _ _ _ _ _ hs _ _=>hs)
    ⟨⟨(b1.alloc _).cell,(b1.alloc _).frozen⟩,hB0⟩
    (fun x=>{ tmps:=#[.pointer (some ⟨m.b,0,none⟩),undef,.int .i64 0,.pointer (some ⟨w.heap.size,0,none⟩),.pointer (some ⟨m.b,0,none⟩),.func (.func 47) #[] #[.pointer (some ⟨w.heap.size + 1,0,none⟩)],.int .i64 x.2,ptrOf ms x.1,undef,undef,undef],defers:=[] }) ?assign ?body ?done ?stop
  case assign=>
   intro l x W K hK
   unfold encW
   gi_wp2
   simpa using hK
  case body=>
   rintro l pre x W ⟨⟨hc,hf⟩,hB⟩ hl
   have hw1:IntKind.i64.wrap ((pre.length:Int) + 1) = (pre.length:Int) + 1:=IntWalk.i64_in _ (by omega)
   gi_wp2
   exact ⟨KeepsOthers.setCell _ _ _,(Below.refl n0 W).setCell (p:=⟨w.heap.size,0,none⟩) hn0 _,⟨by rw [List.length_append];exact World.cell?_setCell_same' _ _ _ (by rw [hc];rfl),by rw [World.frozen?_setCell];exact hf⟩,hB.setCell (p:=⟨w.heap.size,0,none⟩) (Nat.le_refl _) _⟩
  case done=>
   rintro D ys W hD rfl ⟨⟨hc,_⟩,hB⟩ hK
   gi_wp2
   refine ⟨by simp,.inl ⟨_,_,rfl,run_takeDeferred hK,?_⟩⟩
   exact ⟨_,results_tmp rfl _ _ _,rfl,hB.trans (belowK_b (w:=w) (Nat.le_refl _) W D _ _ (by simp at hD;omega) hK rfl rfl)⟩
  case stop=>
   rintro D c pre W _ _ h _
   exact h.elim
end
end Go.Proofs.YtbaokjfhigjpdaaGreatDoorT
end
section
set_option linter.unusedVariables false
namespace Go.Proofs.YtbaokjfhigjpdaaGreatDoorT
open Go.RowKit Go.Shelf
open Go.Proofs.YtbaokjfhigjpdaaGreatDoorN (NA flatN flatB)
open Go.Proofs.YtbaokjfhigjpdaaGreatDoorX (EnvW limOf)
open Go.Proofs.YtbaokjfhigjpdaaGreatDoorW.PrintWords (nums)
theorem e97:(⟨#[97]⟩:ByteArray).toList.isEmpty = false:=by decide +kernel
theorem e98:(⟨#[98]⟩:ByteArray).toList.isEmpty = false:=by decide +kernel
theorem e0:(⟨#[]⟩:ByteArray).toList.isEmpty = true:=by decide +kernel
structure Kf (ns:List ND):Prop where
  len:ns.length = 4
  top:(ns[0]?).map ND.kids = some [1]
  one:∃ d,ns[1]? = some d ∧ d.sp = ⟨#[117]⟩ ∧ d.kids = [2,3]
  two:∃ d,ns[2]? = some d ∧ d.attrs = [((⟨#[]⟩,⟨#[120]⟩),⟨#[49]⟩,16)]
  el:elemN ns 1 = true
  els:elemsS ns 1 = [2]
  str:strL ns 1 = [116]
  pre:(preF ns 4 1 1).length = 3
  dep:depF ns 4 1 = 2
  kl:∀ d ∈ ns,d.kids.length ≤ 2
theorem k_facts:∃ t,parseS kdoc (limOf 0 0 0 0) = .ok t ∧ Kf t.ns:=by
 obtain ⟨b1,b2,e,h⟩:=k_parse
 refine ⟨_,h,rfl,rfl,⟨_,rfl,rfl,rfl⟩,⟨_,rfl,rfl⟩,?_,?_,?_,rfl,?_,?_⟩
 · simp [elemN,elemB,e97]
 · simp [elemsS,kidsOf,elemN,elemB,e98,e0]
 · simp [strL,kidsOf,elemN,elemB,e98,e0]
 · simp [depF,kidsOf,elemN,elemB,e97,e98,e0]
 ·intro d hd
  simp at hd
  rcases hd with rfl | rfl | rfl | rfl <;> simp
theorem eq_nil (W:World) (a:Addr):(binOp .eql 27 (.pointer (some a)) (.pointer none)).run Tryz.prog W = .ok (.bool false) W:=by
 have h:∀ d:Nat,(Op.equalIn (d + 1) 27 (.pointer (some a)) (.pointer none)).run Tryz.prog W = .ok false W:=fun d=>by
  simp [Op.equalIn,run_underlying Tryz.underlying27]
 simp only [binOp]
 simp [Op.equal,Op.maxDepth,h 9999]
theorem bytes_dec {l:List Int} (h:(l.all fun x=>decide (0 ≤ x ∧ x < 256)) = true):Go.Proofs.YtbaokjfhigjpdaaGreatDoorX.Bytes l:=fun x hx=>of_decide_eq_true (List.all_eq_true.1 h x hx)
theorem lit_cells (w:World) (bs:List Int) (e:TypeId) (fr:Nat × Nat):∀ j x,bs[j]? = some x → (w.alloc (.cells (nums .u8 bs).toArray e fr)).cell? ⟨w.heap.size,j,none⟩ = some (.int .u8 x):=by
 intro j x hx
 have hn:(w.alloc (.cells (nums .u8 bs).toArray e fr)).heap[w.heap.size]? = some (.cells (nums .u8 bs).toArray e fr):=heap_alloc_new w _
 rw [cell_of_row _ _ j _ _ _ hn]
 simp [nums,hx]
theorem parse_lit {w:World} {k n:Nat} {bs:List Int} (hn:bs.length = n) (hb:Go.Proofs.YtbaokjfhigjpdaaGreatDoorX.Bytes bs) (hE:EnvW w) (hlen:n ≤ 1000000) (hrow:∀ j x,bs[j]? = some x → w.cell? ⟨k,j,none⟩ = some (.int .u8 x)) (c:Nat) :
    Calls Tryz.prog 23 #[.slice (some ⟨k,0,none⟩) n c,.agg #[.int .i64 0,.int .i64 0,.int .i64 0,.int .i64 0,.int .i64 0,.int .i64 0]] w (ParseR w bs (limOf 0 0 0 0)):=by
  subst hn
  exact parse_c (ad:=some ⟨k,0,none⟩) hb hE hlen (fun e=>by cases e) (fun a ha j x hx=>by
    cases ha
    rw [Go.Proofs.YtbaokjfhigjpdaaGreatDoorN.plain_add,Nat.zero_add]
    exact hrow j x hx) 0 0 0 0 0 0
theorem envW_below {w W:World} (h:EnvW w) (hb:Below w.heap.size w W):EnvW W:=by
 obtain ⟨w0,h1,h2⟩:=h
 exact ⟨w0,h1,h2.trans (hb.mono h2.size)⟩
set_option maxRecDepth 100000 in
set_option maxHeartbeats 4000000 in
theorem known_c {w:World} (hE:EnvW w):Calls Tryz.prog 7 #[] w fun e W=>e = .returned (.bool true) ∧ Below w.heap.size w W:=by
 have hcv:∀ (W:World) C n c,(convert 33 33 (.slice (some ⟨W.heap.size,0,none⟩) n c)).run Tryz.prog (W.alloc (.cells C 5)) = .ok (.slice (some ⟨W.heap.size,0,none⟩) n c) (W.alloc (.cells C 5 (C.size,C.size + 1))):=fun W C n c=>Lib.run_convert_bytes_const W _ _ C n c Tryz.underlying33 Tryz.underlying5
 have hb1:=(Below.refl w.heap.size w).alloc (Nat.le_refl _) (.cells (nums .u8 kdoc).toArray 5 (28,29))
 have h1:=parse_lit (bs:=kdoc) rfl (bytes_dec (by decide)) (envW_below hE hb1) (by decide) (lit_cells w kdoc 5 (28,29)) 28
 obtain ⟨t,ht,hk⟩:=k_facts
 go_enter Tryz.func7,Tryz.ntmps7
 have t1:=True.intro
 go_wp2_with (first
   | (
    have _t:=t1
    go_at_call 23
    go_loud (
     clear _t t1
     refine h1.mono ?_
     clear h1
     rintro e w2 ⟨hb2,hR⟩
     rw [ht] at hR
     obtain ⟨ms,k0,rfl,hk0,hF,_⟩:=hR
     have hbw:=hb1.trans (hb2.mono hb1.size)
     have hk1:k0 = 1:=by
      rw [hk.top] at hk0
      cases hk0
      rfl
     subst hk1
     have hlen:=hk.len
     obtain ⟨m,d,m1,m2,m3,m4⟩:=hF.get (i:=1) (by omega)
     obtain ⟨d',hd1,hd2,hd3⟩:=hk.one
     rw [m2] at hd1
     cases hd1
     obtain ⟨ka,kc,e1,e2⟩:=m3.kid
     rw [hd3] at e1 e2
     obtain ⟨g,rfl,ck⟩:=e2 0 2 rfl
     obtain ⟨mj,dj,j1,j2,j3,j4⟩:=hF.get (i:=2) (by omega)
     obtain ⟨d2,hj1,hj2⟩:=hk.two
     rw [j2] at hj1
     cases hj1
     rw [j4] at ck
     have c0:w2.cell? ⟨m.b,0,none⟩ = some (.string ⟨#[117]⟩):=(Go.Proofs.YtbaokjfhigjpdaaGreatDoorX.blk_cell m3.blk 0).trans (congrArg (fun x=>some (Value.string x)) hd2)
     have c6:w2.cell? ⟨m.b,6,none⟩ = some (.slice (some ⟨g,0,none⟩) 2 kc):=(Go.Proofs.YtbaokjfhigjpdaaGreatDoorX.blk_cell m3.blk 6).trans (congrArg some e1)
     rw [m4]
     have hnil:=eq_nil w2
     have hz:Szs t.ns:=⟨by omega,fun d hd=>Nat.le_trans (hk.kl d hd) (by omega)⟩
     have hattr:=attr_c hF (Nat.le_refl _) j2 (by rw [hj2];decide) ⟨#[]⟩ ⟨#[120]⟩
     rw [hj2,j4,show attrS ⟨#[]⟩ ⟨#[120]⟩ [((⟨#[]⟩,⟨#[120]⟩),⟨#[49]⟩,16)] = (⟨#[49]⟩,true) by simp [attrS]] at hattr
     have hstr:=fun W (hb:Below w2.heap.size w2 W)=>str_c (hF.below hb) hb.size (i:=1) (by omega) hk.el (by unfold kidsOf;rw [m2];simp [hd3]) (by rw [hk.str];decide)
     rw [hk.str,m4] at hstr
     have helm:=fun W (hb:Below w2.heap.size w2 W)=>elems_c (hF.below hb) hb.size (i:=1) (by omega) (by unfold kidsOf;rw [m2];simp [hd3])
     rw [hk.els,m4] at helm
     have hsiz:=fun W (hb:Below w2.heap.size w2 W)=>(callsIn_wide (n:=3)).1 (size_in _ rfl 3 trivial trivial trivial trivial rfl (Nat.le_refl _) 1 W (hF.below hb) hb.size hz (by omega) (by rw [hlen,hk.pre];decide))
     rw [hlen,hk.pre,m4] at hsiz
     have hdep:=fun W (hb:Below w2.heap.size w2 W)=>depth_c (n0:=w2.heap.size) (ms:=ms) 4 1 W (hF.below hb) hb.size (by omega) (by omega) (by omega) (fun d hd=>Nat.le_trans (hk.kl d hd) (by omega))
     rw [hk.dep,m4] at hdep
     have t2:=True.intro))
   | (
    have _t:=t2
    go_at_call 24
    go_loud (
     clear _t t2
     refine hattr.mono ?_
     clear hattr
     rintro e w3 ⟨rfl,hb3⟩
     have c0':=(World.cell?_of_block (hb3.block m.b (hF.blow m1))).trans c0
     have t3:=True.intro))
   | (
    have _t:=t3
    go_at_call 25
    go_loud (
     clear _t t3
     refine (hstr _ hb3).mono ?_
     rintro e w4 ⟨rfl,hb4⟩
     have hb04:=hb3.trans (hb4.mono hb3.size)
     have t4:=True.intro))
   | (
    have _t:=t4
    go_at_call 19
    go_loud (
     clear _t t4
     refine (helm _ hb04).mono ?_
     rintro e w5 ⟨v5,rfl,hrow5,hb5⟩
     obtain ⟨a5,c5,e5⟩:=row_lit hrow5
     subst e5
     have hb05:=hb04.trans (hb5.mono hb04.size)
     have t5:=True.intro))
   | (
    have _t:=t5
    go_at_call 26
    go_loud (
     clear _t t5
     refine (hsiz _ hb05).mono ?_
     rintro e w6 ⟨rfl,hb6⟩
     have hb06:=hb05.trans (hb6.mono hb05.size)
     have t6:=True.intro))
   | (
    have _t:=t6
    go_at_call 27
    go_loud (
     clear _t t6
     refine (hdep _ hb06).mono ?_
     rintro e w7 ⟨rfl,hb7⟩
     have hb07:=hb06.trans hb7)))
 go_ret
 exact ⟨rfl,hbw.trans (hb07.mono hbw.size)⟩
end Go.Proofs.YtbaokjfhigjpdaaGreatDoorT
end
section
set_option linter.unusedVariables false
namespace Go.Proofs.YtbaokjfhigjpdaaGreatDoorT
open Go.RowKit Go.Shelf
open Go.Proofs.YtbaokjfhigjpdaaGreatDoorX (RowAt blk_lt blk_cell lt_of_cell ownsRow_of_blocks)
attribute [local go_sem] Oper.semAt_some
theorem flatR_get (ms:List NP):∀ (l:List (Nat × Nat)) (k:Nat) (y:Nat × Nat),l[k]? = some y → (flatR ms l)[k * 2]? = some (.int .i64 y.2) ∧ (flatR ms l)[k * 2 + 1]? = some (ptrOf ms y.1)
  | a :: r,0,y,h=>by
   simp at h
   subst h
   exact ⟨rfl,rfl⟩
  | a :: r,k + 1,y,h=>by
   have:=flatR_get ms r k y (by simpa using h)
   have e:flatR ms (a :: r) = .int .i64 a.2 :: ptrOf ms a.1 :: flatR ms r:=rfl
   rw [e,show (k + 1) * 2 = k * 2 + 1 + 1 by omega,show k * 2 + 1 + 1 + 1 = (k * 2 + 1) + 1 + 1 by omega]
   exact this
  | [],k,y,h=>by simp at h
def Mis (l pre:List (Nat × Nat)):Prop:=∃ p x y,pre = p ++ [x] ∧ l[p.length]? = some y ∧ x ≠ y
section
variable {ms:List NP} {ns:List ND} {n0:Nat}
set_option maxRecDepth 100000 in
set_option maxHeartbeats 4000000 in
theorem walked_in (F:Fence) (hd:F.depth = none) (n:Nat) (h11:F.fn 11) (h28:F.fn 28) (h47:F.fn 47) (h48:F.fn 48) (hro:F.round = none) (hn:3 ≤ n) (i:Nat) (w:World) (hF:Fo w n0 ms ns) (hn0:n0 ≤ w.heap.size) (hz:Szs ns) (hi:i < ns.length)
    (g cap:Nat) (l:List (Nat × Nat)) (hl:preF ns ns.length i 1 = l) (hlen:l.length ≤ 1000000000) (hrow:∀ j u,(flatR ms l)[j]? = some u → w.cell? ⟨g,j,none⟩ = some u) (hgl:g < w.heap.size) (hcap:l.length ≤ cap) (stop:Int) :
    CallsIn F n Tryz.prog 11 #[ptrOf ms i,.slice (some ⟨g,0,none⟩) l.length cap,.int .i64 stop] w fun e W=>e = .returned (.bool true) ∧ Below w.heap.size w W:=by
  have h1:1 ≤ n:=by omega
  obtain ⟨m,d,q1,q2,q3,q4⟩:=hF.get hi
  have hmb:=hF.blow q1
  refine callsIn_of_wp_marks Tryz.func11 rfl h11 ?_ hro
  simp only [Tryz.ntmps11,List.size_toArray,List.length_cons,List.length_nil,Nat.reduceAdd,Nat.reduceSub,Array.replicate_succ,Array.replicate_zero,List.push_toArray,List.append_toArray,List.nil_append,List.cons_append]
  gi_wp2_with (gi_at_call 28;rw [q4];refine (Walk_in F (n - 1) h28 hro _ _).mono ?_;rintro e w' ⟨rfl,rfl⟩)
  have b4:=Boxed.new w 29 (.slice (some ⟨g,0,none⟩) l.length cap)
  have b5:=Boxed.new (w.alloc (.cells #[.slice (some ⟨g,0,none⟩) l.length cap] 29)) 3 (.int .i64 stop)
  have b6:=Boxed.new ((w.alloc (.cells #[.slice (some ⟨g,0,none⟩) l.length cap] 29)).alloc (.cells #[.int .i64 stop] 3)) 4 (.bool false)
  have b7:=Boxed.new (((w.alloc (.cells #[.slice (some ⟨g,0,none⟩) l.length cap] 29)).alloc (.cells #[.int .i64 stop] 3)).alloc (.cells #[.bool false] 4)) 3 (.int .i64 0)
  have b8:=Boxed.new ((((w.alloc (.cells #[.slice (some ⟨g,0,none⟩) l.length cap] 29)).alloc (.cells #[.int .i64 stop] 3)).alloc (.cells #[.bool false] 4)).alloc (.cells #[.int .i64 0] 3)) 27 (.pointer (some ⟨m.b,0,none⟩))
  simp only [World.size_alloc] at b5 b6 b7 b8
  have hB0:Below w.heap.size w (((((w.alloc (.cells #[.slice (some ⟨g,0,none⟩) l.length cap] 29)).alloc (.cells #[.int .i64 stop] 3)).alloc (.cells #[.bool false] 4)).alloc (.cells #[.int .i64 0] 3)).alloc (.cells #[.pointer (some ⟨m.b,0,none⟩)] 27)) :=
    (((((Below.refl _ w).alloc (Nat.le_refl _) _).alloc (by simp) _).alloc (by simp;omega) _).alloc (by simp;omega) _).alloc (by simp;omega) _
  have hF2:=hF.below (hB0.mono hn0)
  refine wpIn_rangeFunc_ownF hro h1 (gf:=47) (lb:=#[.pointer (some ⟨w.heap.size + 1 + 1 + 1 + 1,0,none⟩)]) rfl h47 (enters_of Tryz.func47 (by kernel_rfl) rfl)
    (walk_stops F hd (n - 1) h47 h48 hro (w.heap.size + 1 + 1 + 1 + 1) n0 i _ (by simp) (by simp;omega) (b8.cell.trans (congrArg some q4.symm)) hF2 hz hi) belowK_t (belowK_b (by simp;omega)) (Below.refl _ _) (fun _=>rfl)
    (fun pre W=>(W.cell? ⟨w.heap.size + 1 + 1 + 1,0,none⟩ = some (.int .i64 pre.length) ∧ W.frozen? ⟨w.heap.size + 1 + 1 + 1,0,none⟩ = false ∧ W.cell? ⟨w.heap.size,0,none⟩ = some (.slice (some ⟨g,0,none⟩) l.length cap) ∧ W.cell? ⟨w.heap.size + 1,0,none⟩ = some (.int .i64 stop) ∧ W.cell? ⟨w.heap.size + 1 + 1,0,none⟩ = some (.bool false) ∧ W.frozen? ⟨w.heap.size + 1 + 1,0,none⟩ = false) ∧ Below w.heap.size w W)
    (fun c pre W=>(c = .ret ∧ (Mis l pre ∨ W.cell? ⟨w.heap.size + 1 + 1,0,none⟩ = some (.bool true))) ∧ Below w.heap.size w W)
    (OwnFrom.and (Own.from (fun s A B row hs hg hr=>⟨cell_kept hs.1 hg hr,(frozen_kept hs.1 hg hr).trans hs.2.1,cell_kept hs.2.2.1 hg hr,cell_kept hs.2.2.2.1 hg hr,cell_kept hs.2.2.2.2.1 hg hr,(frozen_kept hs.2.2.2.2.1 hg hr).trans hs.2.2.2.2.2⟩) _) (ownFrom_below (Nat.le_refl _) (by simp;omega)))
    (fun c=>OwnFrom.and (Own.from (fun s A B row hs hg hr=>by obtain ⟨ha,hb⟩:=hs;exact ⟨ha,hb.imp id fun h=>cell_kept h hg hr⟩) _) (ownFrom_below (Nat.le_refl _) (by simp;omega)))
    ⟨⟨(b7.alloc _).cell,(b7.alloc _).frozen,((((b4.alloc _).alloc _).alloc _).alloc _).cell,(((b5.alloc _).alloc _).alloc _).cell,((b6.alloc _).alloc _).cell,((b6.alloc _).alloc _).frozen⟩,hB0⟩
    (fun x=>{ tmps:=#[.pointer (some ⟨m.b,0,none⟩),.slice (some ⟨g,0,none⟩) l.length cap,.int .i64 stop,undef,.pointer (some ⟨w.heap.size,0,none⟩),.pointer (some ⟨w.heap.size + 1,0,none⟩),.pointer (some ⟨w.heap.size + 1 + 1,0,none⟩),.pointer (some ⟨w.heap.size + 1 + 1 + 1,0,none⟩),.int .i64 x.2,ptrOf ms x.1,.pointer (some ⟨m.b,0,none⟩),.func (.func 47) #[] #[.pointer (some ⟨w.heap.size + 1 + 1 + 1 + 1,0,none⟩)],.int .i64 x.2,ptrOf ms x.1,undef,undef,undef,undef,undef,undef,undef,undef,undef,undef,undef,undef,undef,undef,undef,undef,undef,undef,undef,undef,undef,undef,undef,undef,undef,undef,undef,undef,undef,undef,undef],defers:=[] }) ?assign ?body ?done ?stop
  case assign=>
   intro l x W K hK
   unfold encW
   gi_wp2
   simpa using hK
  case body=>
   rintro ly pre x W ⟨⟨c7,f7,c4,c5,c6,f6⟩,hB⟩ hl2
   rw [hl] at hl2
   have hy:l[pre.length]? = some (l[pre.length]):=List.getElem?_eq_getElem hl2
   have hrw:∀ j u,(flatR ms l)[j]? = some u → W.cell? ⟨g,j,none⟩ = some u:=fun j u hu=>(World.cell?_of_block (hB.block g hgl)).trans (hrow j u hu)
   obtain ⟨y0,y1⟩:=flatR_get ms l _ _ hy
   have e0:=hrw _ _ y0
   have e1:=hrw _ _ y1
   have hw1:IntKind.i64.wrap ((pre.length:Int) + 1) = (pre.length:Int) + 1:=IntWalk.i64_in _ (by omega)
   have hge:((l.length:Int) ≤ (pre.length:Int)) = False:=by simp;omega
   generalize l[pre.length] = y at *
   have hFW:=hF.below (hB.mono hn0)
   have hptr:∀ k,ptrOf ms k = .pointer none ∨ ∃ b c,ptrOf ms k = .pointer (some ⟨b,0,none⟩) ∧ W.heap[b]? = some (.cells c 55 (0,0)):=fun k=>by
    cases hk:ms[k]? with
    | none=>exact .inl (by unfold ptrOf;rw [hk];rfl)
    | some mk=>
     obtain ⟨m',d',a1,a2,a3,a4⟩:=hFW.get (i:=k) (by rw [← hFW.len];exact (List.getElem?_eq_some_iff.1 hk).1)
     exact .inr ⟨_,_,a4,a3.blk⟩
   have k7:=(Below.refl n0 W).setCell (p:=⟨w.heap.size + 1 + 1 + 1,0,none⟩) (show n0 ≤ w.heap.size + 1 + 1 + 1 by omega) (.int .i64 ((pre.length:Int) + 1))
   have k7w:=hB.setCell (p:=⟨w.heap.size + 1 + 1 + 1,0,none⟩) (show w.heap.size ≤ w.heap.size + 1 + 1 + 1 by omega) (.int .i64 ((pre.length:Int) + 1))
   have lB:∀ (v:Value),KeepsOthers W ((W.setCell ⟨w.heap.size + 1 + 1 + 1,0,none⟩ v).setCell ⟨w.heap.size + 1 + 1,0,none⟩ (.bool true)) ∧ ((W.setCell ⟨w.heap.size + 1 + 1 + 1,0,none⟩ v).setCell ⟨w.heap.size + 1 + 1,0,none⟩ (.bool true)).cell? ⟨w.heap.size + 1 + 1,0,none⟩ = some (.bool true) ∧ Below w.heap.size w ((W.setCell ⟨w.heap.size + 1 + 1 + 1,0,none⟩ v).setCell ⟨w.heap.size + 1 + 1,0,none⟩ (.bool true)):=fun v=>
    ⟨(KeepsOthers.setCell _ _ _).trans (KeepsOthers.setCell _ _ _),Go.Proofs.YtbaokjfhigjpdaaGreatDoorN.cellSet _ ⟨w.heap.size + 1 + 1,0,none⟩ _ (Go.Proofs.YtbaokjfhigjpdaaGreatDoorN.cellS c6 (by simp)),(hB.setCell (p:=⟨w.heap.size + 1 + 1 + 1,0,none⟩) (show w.heap.size ≤ w.heap.size + 1 + 1 + 1 by omega) v).setCell (p:=⟨w.heap.size + 1 + 1,0,none⟩) (show w.heap.size ≤ w.heap.size + 1 + 1 by omega) _⟩
   have lC:(W.setCell ⟨w.heap.size + 1 + 1 + 1,0,none⟩ (.int .i64 ((pre.length:Int) + 1))).cell? ⟨w.heap.size + 1 + 1 + 1,0,none⟩ = some (.int .i64 ((pre ++ [x]).length)):=by
    rw [List.length_append]
    exact Go.Proofs.YtbaokjfhigjpdaaGreatDoorN.cellSet W ⟨w.heap.size + 1 + 1 + 1,0,none⟩ _ c7
   have lF:∀ a,(W.setCell ⟨w.heap.size + 1 + 1 + 1,0,none⟩ (.int .i64 ((pre.length:Int) + 1))).frozen? a = W.frozen? a:=fun a=>World.frozen?_setCell _ _ _ _
   have lC4:=Go.Proofs.YtbaokjfhigjpdaaGreatDoorN.cellS (q:=⟨w.heap.size + 1 + 1 + 1,0,none⟩) (u:=.int .i64 ((pre.length:Int) + 1)) c4 (by simp;omega)
   have lC5:=Go.Proofs.YtbaokjfhigjpdaaGreatDoorN.cellS (q:=⟨w.heap.size + 1 + 1 + 1,0,none⟩) (u:=.int .i64 ((pre.length:Int) + 1)) c5 (by simp)
   have lC6:=Go.Proofs.YtbaokjfhigjpdaaGreatDoorN.cellS (q:=⟨w.heap.size + 1 + 1 + 1,0,none⟩) (u:=.int .i64 ((pre.length:Int) + 1)) c6 (by simp)
   by_cases hxy:x = y
   ·subst hxy
    rcases hptr x.1 with hpx | ⟨bx,cx,hpx,_⟩
    all_goals
     rw [hpx] at e1 ⊢
     by_cases hst:(stop ≤ (pre.length:Int) + 1)
     all_goals
      have hq:=neq_same W
      gi_wp2
      all_goals first
       | exact ⟨(lB _).1,⟨rfl,.inr (lB _).2.1⟩,(lB _).2.2⟩
       | exact ⟨KeepsOthers.setCell _ _ _,k7,⟨lC,(lF _).trans f7,lC4,lC5,lC6,(lF _).trans f6⟩,k7w⟩
   ·rcases hptr x.1 with hpx | ⟨bx,cx,hpx,hbx⟩
    all_goals
     rcases hptr y.1 with hpy | ⟨b_y,cy,hpy,hby⟩
     all_goals
      rw [hpx]
      rw [hpy] at e1
      by_cases hst:(stop ≤ (pre.length:Int) + 1)
      all_goals
       first
        | (have hq:(binOp .neq 27 (.pointer (some ⟨bx,0,none⟩)) (.pointer (some ⟨b_y,0,none⟩))).run Tryz.prog W = .ok (.bool (bx != b_y)) W:=by
            by_cases hbb:bx = b_y
            ·subst hbb
             rw [neq_same]
             simp
            ·rw [neq_other W (by simp [hbb]) hbx hby]
             simp [hbb])
        | skip
       have hq1:=neq_nil1 W
       have hq2:=neq_nil2 W
       have hq3:=neq_nil3 W
       gi_wp2
       all_goals first
        | exact ⟨(lB _).1,⟨rfl,.inr (lB _).2.1⟩,(lB _).2.2⟩
        | exact ⟨KeepsOthers.setCell _ _ _,k7,⟨lC,(lF _).trans f7,lC4,lC5,lC6,(lF _).trans f6⟩,k7w⟩
        | exact ⟨KeepsOthers.setCell _ _ _,⟨rfl,.inl ⟨pre,x,y,rfl,hy,hxy⟩⟩,hB.setCell (p:=⟨w.heap.size + 1 + 1,0,none⟩) (show w.heap.size ≤ w.heap.size + 1 + 1 by omega) _⟩
  case done=>
   rintro D ys W hD rfl ⟨⟨c7,f7,c4,c5,c6,f6⟩,hB⟩ hK
   rw [hl] at c7
   gi_wp2
   have hK':=(KeepsOthers.setCell W ⟨w.heap.size + 1 + 1,0,none⟩ (.bool true)).same D _ hK rfl
   have d6:=Go.Proofs.YtbaokjfhigjpdaaGreatDoorN.cellSet W ⟨w.heap.size + 1 + 1,0,none⟩ (.bool true) c6
   have hB2:=hB.setCell (p:=⟨w.heap.size + 1 + 1,0,none⟩) (show w.heap.size ≤ w.heap.size + 1 + 1 by omega) (.bool true)
   generalize W.setCell ⟨w.heap.size + 1 + 1,0,none⟩ (.bool true) = W2 at *
   refine ⟨by simp,.inl ⟨_,_,rfl,run_takeDeferred hK',?_⟩⟩
   have k6:=cell_kept d6 (grownBy_putObj' _ D (.deferred none)) (fun r e=>by cases e;exact ⟨_,hK',rfl⟩)
   exact ⟨.bool true,by simp [results,Tryz.f11,go_sem,k6],rfl,hB2.trans (belowK_b (w:=w) (Nat.le_refl _) W2 D _ _ (by simp at hD;omega) hK' rfl rfl)⟩
  case stop=>
   rintro D c pre W hD hpre ⟨⟨rfl,hor⟩,hB⟩ hK
   have c6:W.cell? ⟨w.heap.size + 1 + 1,0,none⟩ = some (.bool true):=by
    rcases hor with ⟨p,x,y,rfl,hy,hne⟩ | h
    ·rw [hl] at hpre
     obtain ⟨r,hr⟩:=hpre
     rw [← hr,List.append_assoc,List.getElem?_append_right (Nat.le_refl _)] at hy
     simp at hy
     exact absurd hy hne
    · exact h
   gi_wp2
   refine ⟨by simp,.inl ⟨_,_,rfl,run_takeDeferred hK,?_⟩⟩
   have k6:=cell_kept c6 (grownBy_putObj' _ D (.deferred none)) (fun r e=>by cases e;exact ⟨_,hK,rfl⟩)
   exact ⟨.bool true,by simp [results,Tryz.f11,go_sem,k6],rfl,hB.trans (belowK_b (w:=w) (Nat.le_refl _) W D _ _ (by simp at hD;omega) hK rfl rfl)⟩
end
end Go.Proofs.YtbaokjfhigjpdaaGreatDoorT
end
section
set_option linter.unusedVariables false
namespace Go.Proofs.YtbaokjfhigjpdaaGreatDoorT
def cnt (y:Nat) (l:List (Nat × Nat)):Nat:=l.countP fun x=>x.1 == y
theorem cnt_app (y:Nat) (a b:List (Nat × Nat)):cnt y (a ++ b) = cnt y a + cnt y b:=List.countP_append
theorem cnt_cons (y:Nat) (x:Nat × Nat) (l:List (Nat × Nat)):cnt y (x :: l) = cnt y l + if x.1 = y then 1 else 0:=by
 unfold cnt
 rw [List.countP_cons]
 simp
theorem kidsOf_old {ns:List ND} {u i:Nat} {d:ND} (hi:i < ns.length) (hu:u < ns.length):kidsOf (kidS (ns ++ [d]) u ns.length) i = kidsOf ns i ++ if i = u then [ns.length] else []:=by
 have hd:(ns ++ [d])[u]? = some ns[u]:=by rw [List.getElem?_append_left hu,List.getElem?_eq_getElem hu]
 unfold kidS
 rw [hd]
 unfold kidsOf
 simp only
 rw [List.getElem?_set]
 by_cases h:i = u
 ·subst h
  rw [if_pos rfl,if_pos (by simp;omega),if_pos rfl,List.getElem?_eq_getElem hi]
  rfl
 ·rw [if_neg (fun e=>h e.symm),if_neg h,List.getElem?_append_left hi]
  simp
theorem kidsOf_new {ns:List ND} {u:Nat} {d:ND} (hu:u < ns.length) (hd:d.kids = []):kidsOf (kidS (ns ++ [d]) u ns.length) ns.length = []:=by
 have hd':(ns ++ [d])[u]? = some ns[u]:=by rw [List.getElem?_append_left hu,List.getElem?_eq_getElem hu]
 unfold kidS
 rw [hd']
 unfold kidsOf
 simp only
 rw [List.getElem?_set,if_neg (by omega),List.getElem?_append_right (Nat.le_refl _)]
 simp [hd]
theorem add_leaf {ns:List ND} {u:Nat} {d:ND} (hup:∀ (i:Nat) (d:ND),ns[i]? = some d → ∀ j ∈ d.kids,i < j ∧ j < ns.length) (hu:u < ns.length) (hd:d.kids = []):∀ (f i e:Nat),i < ns.length → ns.length ≤ f + i →
    (∀ y,cnt y (preF (kidS (ns ++ [d]) u ns.length) (f + 1) i e) = cnt y (preF ns f i e) + if y = ns.length then cnt u (preF ns f i e) else 0) ∧ (preF (kidS (ns ++ [d]) u ns.length) (f + 1) i e).length = (preF ns f i e).length + cnt u (preF ns f i e):=by
  intro f
  induction f with
  | zero=>
   intro i e hi hf
   omega
  | succ f ih=>
   intro i e hi hf
   have hk:=kidsOf_eq (List.getElem?_eq_getElem hi)
   have hupi:=hup i _ (List.getElem?_eq_getElem hi)
   rw [← hk] at hupi
   have hkids:∀ (l:List Nat),(∀ j ∈ l,i < j ∧ j < ns.length) →
       (∀ y,cnt y (l.flatMap fun j=>preF (kidS (ns ++ [d]) u ns.length) (f + 1) j (e + 1)) = cnt y (l.flatMap fun j=>preF ns f j (e + 1)) + if y = ns.length then cnt u (l.flatMap fun j=>preF ns f j (e + 1)) else 0) ∧
       (l.flatMap fun j=>preF (kidS (ns ++ [d]) u ns.length) (f + 1) j (e + 1)).length = (l.flatMap fun j=>preF ns f j (e + 1)).length + cnt u (l.flatMap fun j=>preF ns f j (e + 1)):=by
     intro l
     induction l with
     | nil=>exact fun _=>⟨fun y=>by simp [cnt],rfl⟩
     | cons j r ihl=>
      intro hl
      obtain ⟨a1,a2⟩:=ihl fun x hx=>hl x (List.mem_cons_of_mem _ hx)
      have hj:=hl j List.mem_cons_self
      obtain ⟨b1,b2⟩:=ih j (e + 1) hj.2 (by omega)
      simp only [List.flatMap_cons]
      refine ⟨fun y=>?_,?_⟩
      ·rw [cnt_app,cnt_app,cnt_app,a1,b1]
       split <;> omega
      ·rw [List.length_append,List.length_append,cnt_app,a2,b2]
       omega
   obtain ⟨c1,c2⟩:=hkids _ hupi
   have hleaf:preF (kidS (ns ++ [d]) u ns.length) (f + 1) ns.length (e + 1) = [(ns.length,e + 1)]:=by
    rw [preF,kidsOf_new hu hd]
    rfl
   have hnew:preF (kidS (ns ++ [d]) u ns.length) (f + 1 + 1) i e = (i,e) :: ((kidsOf ns i).flatMap (fun j=>preF (kidS (ns ++ [d]) u ns.length) (f + 1) j (e + 1)) ++ if i = u then [(ns.length,e + 1)] else []):=by
    rw [preF,kidsOf_old hi hu,List.flatMap_append]
    congr 2
    split
    · simp [hleaf]
    · rfl
   have hold:preF ns (f + 1) i e = (i,e) :: (kidsOf ns i).flatMap fun j=>preF ns f j (e + 1):=by rw [preF]
   rw [hnew,hold]
   refine ⟨fun y=>?_,?_⟩
   ·rw [cnt_cons,cnt_cons,cnt_cons,cnt_app,c1]
    have:cnt y (if i = u then [(ns.length,e + 1)] else []) = if i = u ∧ y = ns.length then 1 else 0:=by
     by_cases h:i = u
     ·rw [if_pos h]
      by_cases h2:y = ns.length
      ·rw [if_pos ⟨h,h2⟩,h2]
       simp [cnt]
      ·rw [if_neg fun q=>h2 q.2]
       simp [cnt]
       omega
     ·rw [if_neg h,if_neg fun q=>h q.1]
      rfl
    rw [this]
    simp only
    by_cases h:i = u <;> by_cases h2:y = ns.length <;> simp [h,h2] <;> omega
   ·rw [List.length_cons,List.length_append,List.length_cons,cnt_cons,c2]
    by_cases h:i = u
    ·rw [if_pos h,if_pos h]
     simp
     omega
    ·rw [if_neg h,if_neg h]
     simp
     omega
def Cn (ns:List ND):Prop:=(∀ y,cnt y (preF ns ns.length 0 1) ≤ 1) ∧ (preF ns ns.length 0 1).length ≤ ns.length
theorem cn_one {d:ND} (hd:d.kids = []):Cn [d]:=by
 have:preF [d] [d].length 0 1 = [(0,1)]:=by
  show preF [d] 1 0 1 = _
  rw [preF]
  simp [kidsOf,hd]
 unfold Cn
 rw [this]
 refine ⟨fun y=>?_,Nat.le_refl _⟩
 rw [cnt_cons]
 split <;> simp [cnt]
theorem cn_kid {ns:List ND} {u:Nat} {d:ND} (h:Cn ns) (hup:∀ (i:Nat) (d:ND),ns[i]? = some d → ∀ j ∈ d.kids,i < j ∧ j < ns.length) (hu:u < ns.length) (hd:d.kids = []):Cn (kidS (ns ++ [d]) u ns.length):=by
 have hl:(kidS (ns ++ [d]) u ns.length).length = ns.length + 1:=by rw [kidS_len];simp
 obtain ⟨a1,a2⟩:=add_leaf hup hu hd ns.length 0 1 (by omega) (by omega)
 unfold Cn
 rw [hl]
 refine ⟨fun y=>?_,?_⟩
 ·rw [a1]
  split
  ·rename_i e
   subst e
   have h0:cnt ns.length (preF ns ns.length 0 1) = 0:=by
    unfold cnt
    rw [List.countP_eq_zero]
    intro x hx
    have:=preF_len hup ns.length 0 1 x hx (by omega)
    simp
    omega
   have:=h.1 u
   omega
  · exact h.1 y
 ·rw [a2]
  have:=h.1 u
  have:=h.2
  omega
end Go.Proofs.YtbaokjfhigjpdaaGreatDoorT
end
