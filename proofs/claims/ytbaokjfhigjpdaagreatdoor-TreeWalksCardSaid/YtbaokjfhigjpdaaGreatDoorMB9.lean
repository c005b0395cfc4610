/- What is proved: what the claims of this seat share, part 9: a program of ours merged it out of our own texts, the print's words and the laid shelf. Conditions: those of each. -/
import Derived.Test.YtbaokjfhigjpdaaGreatDoorMB8
import Derived.Deep.RegionWith
import Derived.Laws.BytesArg
set_option linter.unusedVariables false
set_option linter.unusedSimpArgs false
section
set_option linter.unusedVariables false
namespace Go.Proofs.YtbaokjfhigjpdaaGreatDoorX
open Go.RowKit Go.Shelf Go.Proofs.YtbaokjfhigjpdaaGreatDoor.PXmlBase Go.Proofs.YtbaokjfhigjpdaaGreatDoorW.PrintWords
theorem enc_len' (l:List Int) (r n:Int) (h:decS l = (r,n)):r = -1 ∨ (encC r).length ≤ l.length:=by
 unfold decS at h
 repeat' split at h
 all_goals
  obtain ⟨rfl,rfl⟩:=Prod.mk.inj h
  first
  | exact .inl rfl
  | (
   right
   unfold encC
   repeat' split
   all_goals (simp only [List.length_cons,List.length_nil];omega))
theorem enc_len (l:List Int) (hb:Bytes l) (h:charB (decS l).1 = true):(encC (decS l).1).length ≤ l.length:=by
 rcases enc_len' l (decS l).1 (decS l).2 rfl with e | e
 ·rw [e] at h
  cases h
 · exact e
structure Mv (w W:World) (p a:Nat):Prop where
  os:W.os = w.os
  tape:W.tape = w.tape
  output:W.output = w.output
  size:w.heap.size ≤ W.heap.size
  block:∀ k,k < w.heap.size → k ≠ p → W.heap[k]? = w.heap[k]?
  cell:∀ i,i ≠ 7 → W.cell? ⟨p,i,none⟩ = w.cell? ⟨p,i,none⟩
  frz:∀ i,W.frozen? ⟨p,i,none⟩ = w.frozen? ⟨p,i,none⟩
  here:W.cell? ⟨p,7,none⟩ = some (.int .i64 a)
theorem Mv.of_below {w W:World} {p a:Nat} (hb:Below w.heap.size w W) (hp:p < w.heap.size) (h:w.cell? ⟨p,7,none⟩ = some (.int .i64 a)):Mv w W p a :=
  ⟨hb.os,hb.tape,hb.output,hb.size,fun k hk _=>hb.block k hk,fun i _=>World.cell?_of_block (hb.block p hp),fun i=>World.frozen?_of_block (hb.block p hp),(World.cell?_of_block (hb.block p hp)).trans h⟩
theorem Mv.trans {a b c:World} {p x y:Nat} (h:Mv a b p x) (k:Mv b c p y):Mv a c p y :=
  ⟨k.os.trans h.os,k.tape.trans h.tape,k.output.trans h.output,Nat.le_trans h.size k.size,fun i hi hp=>(k.block i (Nat.lt_of_lt_of_le hi h.size) hp).trans (h.block i hi hp),fun i hi=>(k.cell i hi).trans (h.cell i hi),fun i=>(k.frz i).trans (h.frz i),k.here⟩
theorem Mv.set {w:World} {p a:Nat} {u:Value} (h:w.cell? ⟨p,7,none⟩ = some u):Mv w (w.setCell ⟨p,7,none⟩ (.int .i64 a)) p a :=
  ⟨rfl,rfl,rfl,by simp [World.setCell],fun k _ hk=>Below.heap_setCell w ⟨p,7,none⟩ _ k hk,fun i hi=>World.cell?_setCell_other w _ _ _ (fun e=>hi (by cases e;rfl)),fun i=>World.frozen?_setCell _ _ _ _,World.cell?_setCell_same' _ _ _ (by rw [h];rfl)⟩
theorem PB.moved {w W:World} {p:Nat} {bs:List Int} {tk a a':Nat} (h:PB w p bs tk a) (hm:Mv w W p a') (hle:a' ≤ bs.length):PB W p bs tk a':=by
 obtain ⟨ba,cap,h1,h2,h3⟩:=h.row
 refine ⟨⟨ba,cap,(hm.cell 0 (by decide)).trans h1,h2,fun i hi=>?_⟩,(hm.cell 4 (by decide)).trans h.tok,hm.here,(hm.frz 7).trans h.free,hle,h.bytes,h.small⟩
 obtain ⟨g,e,hg,hc⟩:=h3 i hi
 exact ⟨g,e,hg,(World.cell?_of_block (hm.block g (lt_of_cell hc) hg)).trans hc⟩
def OutM (w:World) (p:Nat) (r:XR (Value × Nat)) (e:Ending) (W:World):Prop:=match r with
 | .ok (v,a)=>e = .returned v ∧ Mv w W p a
 | .error f=>e = .panicked (fltV f) ∧ ∃ a,Mv w W p a
theorem peek_step {bs:List Int} {a:Nat} {r:Int} (hb:Bytes bs) (hle:a ≤ bs.length) (h:peekS bs a = .ok r):stepS r a ≤ bs.length ∧ (a < bs.length → charB r = true) ∧ (encC r).length ≤ 4:=by
 unfold peekS at h
 split at h
 ·cases h
  rename_i he
  exact ⟨by unfold stepS encC;rw [if_pos (by omega)];simpa using hle,fun h2=>by omega,by unfold encC;rw [if_pos (by omega)];exact Nat.zero_le _⟩
 ·split at h
  ·rename_i he hc
   cases h
   have hl:=enc_len _ ((hb.drop a).take 4) hc
   rw [List.length_take,List.length_drop] at hl
   exact ⟨by unfold stepS;omega,fun _=>hc,by omega⟩
  · cases h
set_option maxRecDepth 100000 in
set_option maxHeartbeats 4000000 in
theorem next_c {w:World} {p:Nat} {bs:List Int} {tk a:Nat} (h:PB w p bs tk a) :
    Calls Tryz.prog 106 #[.pointer (some ⟨p,0,none⟩)] w (OutM w p ((nextS bs a).map fun x=>(Value.int .i32 x.1,x.2))):=by
  have hpk:=peek_c h
  have h5:=h.here
  have hfr:=h.free
  have hlt:=h.lt
  unfold nextS
  go_enter Tryz.func106,Tryz.ntmps106
  cases hR:peekS bs a with
  | error f=>
   rw [hR] at hpk
   go_wp2_with (go_at_call 150;refine hpk.mono ?_;rintro e w5 ⟨rfl,hb5⟩)
   exact ⟨rfl,rfl,a,Mv.of_below hb5 hlt h5⟩
  | ok r=>
   obtain ⟨hs1,_,hs4⟩:=peek_step h.bytes h.le hR
   rw [hR] at hpk
   have hsm:=h.small
   have hle:=h.le
   have hwr:IntKind.i64.wrap ((a:Int) + ((encC r).length:Int)) = (a:Int) + ((encC r).length:Int):=IntWalk.i64_in _ (by omega)
   go_wp2_with (go_at_call 150;refine hpk.mono ?_;rintro e w5 ⟨rfl,hb5⟩;have h55:=cellB hb5 h5 hlt;have hf5:=freeB hb5 hfr hlt)
   have hlt5:p < w5.heap.size:=Nat.lt_of_lt_of_le hlt hb5.size
   go_region_with (go_at_call 151;refine (encode_c _ _).mono ?_;rintro e w6 ⟨v6,rfl,hr6,hb6⟩;obtain ⟨a6,c6,rfl⟩:=Kd.R_slice hr6;have h56:=cellB hb6 h55 (by first | exact hlt5 | (simp;exact hlt5));have hf6:=freeB hb6 hf5 (by first | exact hlt5 | (simp;exact hlt5)))
   all_goals (try go_wp2_with fail)
   all_goals
    go_ret
    have hB:Below w.heap.size w w6:=by first | exact hb5.trans (hb6.mono hb5.size) | exact hb5.drew.trans (hb6.mono hb5.drew.size)
    have hm:=(Mv.of_below hB hlt h5).trans (Mv.set (a:=stepS r a) ((World.cell?_of_block (hB.block p hlt)).trans h5))
    have e:((stepS r a:Nat):Int) = (a:Int) + ((encC r).length:Int):=by unfold stepS;omega
    rw [e] at hm
    exact ⟨rfl,hm⟩
end Go.Proofs.YtbaokjfhigjpdaaGreatDoorX
end
section
set_option linter.unusedVariables false
namespace Go.Proofs.YtbaokjfhigjpdaaGreatDoorX
open Go.RowKit Go.Shelf Go.Proofs.YtbaokjfhigjpdaaGreatDoor.PXmlBase Go.Proofs.YtbaokjfhigjpdaaGreatDoorW.PrintWords
def atOf (p:Nat) (w:World):Nat:=match w.cell? ⟨p,7,none⟩ with
 | some (.int _ z)=>z.toNat
 | _=>0
theorem Mv.atOf {w W:World} {p a:Nat} (h:Mv w W p a):atOf p W = a:=by
 unfold YtbaokjfhigjpdaaGreatDoorX.atOf
 rw [h.here]
 simp
theorem Mv.then {a b c:World} {p x:Nat} (h:Mv a b p x) (hp:p < b.heap.size) (hb:Below b.heap.size b c):Mv a c p x:=h.trans (Mv.of_below hb hp h.here)
theorem enc_pos {r:Int} (h:charB r = true):0 < (encC r).length:=by
 unfold charB at h
 simp only [decide_eq_true_eq] at h
 unfold encC
 rw [if_neg (by omega)]
 repeat' split
 all_goals (simp only [List.length_cons,List.length_nil];omega)
theorem peek_ok {bs:List Int} {a:Nat} {r:Int} (h:peekS bs a = .ok r) (hr:r ≠ -1):charB r = true:=by
 unfold peekS at h
 split at h
 ·cases h
  exact absurd rfl hr
 ·split at h
  ·rename_i hc
   cases h
   exact hc
  · cases h
theorem step_gt {bs:List Int} {a:Nat} {r:Int} (h:peekS bs a = .ok r) (hr:r ≠ -1):a < stepS r a:=by
 have:=enc_pos (peek_ok h hr)
 unfold stepS
 omega
theorem next_ok {w:World} {p:Nat} {bs:List Int} {tk a:Nat} (h:PB w p bs tk a) {r:Int} (hr:peekS bs a = .ok r) :
    Calls Tryz.prog 106 #[.pointer (some ⟨p,0,none⟩)] w fun e W'=>e = .returned (.int .i32 r) ∧ Mv w W' p (stepS r a):=by
  have h1:=next_c h
  unfold nextS at h1
  rw [hr] at h1
  exact h1
set_option maxRecDepth 100000 in
set_option maxHeartbeats 4000000 in
theorem blanks_c {w:World} {p:Nat} {bs:List Int} {tk a:Nat} (h:PB w p bs tk a) :
    Calls Tryz.prog 113 #[.pointer (some ⟨p,0,none⟩)] w (OutM w p ((whiteS bs a).map fun e=>(Value.bool (decide (a < e)),e))):=by
  have h5:=h.here
  have hlt:=h.lt
  have hle:=h.le
  generalize hR:whiteS bs a = R
  unfold whiteS at hR
  go_enter Tryz.func113,Tryz.ntmps113
  go_wp2
  go_loopw [8] (fun _ wr=>∃ (a' k:Nat),Mv w wr p a' ∧ a ≤ a' ∧ a' ≤ bs.length ∧ bs.length < k + a' ∧ whiteL bs k a' = R) (fun _ wr=>bs.length - atOf p wr)
  case atStart=>exact ⟨a,_,Mv.of_below (Below.refl _ _) hlt h5,Nat.le_refl _,hle,by omega,hR⟩
  case round=>
   rename World=>wq
   obtain ⟨a',k,hm,h1,h2,h3,hL⟩:=hrel
   have hP:=h.moved hm h2
   have hpk:=peek_c hP
   obtain ⟨k',rfl⟩:∃ k',k = k' + 1:=⟨k - 1,by omega⟩
   unfold whiteL at hL
   cases hq:peekS bs a' with
   | error f=>
    rw [hq] at hL hpk
    subst hL
    go_wp2_with (go_at_call 150;refine hpk.mono ?_;rintro e w5 ⟨rfl,hb5⟩)
    exact ⟨rfl,rfl,a',hm.then hP.lt hb5⟩
   | ok r=>
    rw [hq] at hL hpk
    simp only at hL
    have hwc:=fun w'=>white_c r w'
    cases hw:whiteB r with
    | false=>
     rw [if_neg (by rw [hw];decide)] at hL
     rw [hw] at hwc
     subst hL
     go_wp2_with (first | (go_at_call 150;refine hpk.mono ?_;rintro e w5 ⟨rfl,hb5⟩) | (go_at_call 75;refine (hwc _).mono ?_;rintro e w6 ⟨rfl,hb6⟩;have hm6:=(hm.then hP.lt hb5).then (hP.below hb5).lt hb6;have h76:=hm6.here))
     go_ret
     refine ⟨?_,hm6⟩
     simp
    | true=>
     have hr:r ≠ -1:=fun e=>by rw [e] at hw;cases hw
     have hgt:=step_gt hq hr
     obtain ⟨hs1,_,_⟩:=peek_step h.bytes h2 hq
     rw [if_pos hw] at hL
     rw [hw] at hwc
     go_wp2_with (first | (go_at_call 150;refine hpk.mono ?_;rintro e w5 ⟨rfl,hb5⟩) | (go_at_call 75;refine (hwc _).mono ?_;rintro e w6 ⟨rfl,hb6⟩;have hP6:=(hP.below hb5).below hb6;have hm6:=(hm.then hP.lt hb5).then (hP.below hb5).lt hb6) | (go_at_call 106;refine (next_ok hP6 hq).mono ?_;rintro e w7 ⟨rfl,hm7⟩))
     have hm8:=hm6.trans hm7
     exact ⟨⟨stepS r a',k',hm8,by omega,hs1,by omega,hL⟩,by rw [hm8.atOf,hm.atOf];omega⟩
end Go.Proofs.YtbaokjfhigjpdaaGreatDoorX
end
section
set_option linter.unusedVariables false
namespace Go.Proofs.YtbaokjfhigjpdaaGreatDoorX
open Go.RowKit Go.Shelf Go.Proofs.YtbaokjfhigjpdaaGreatDoor.PXmlBase Go.Proofs.YtbaokjfhigjpdaaGreatDoorW.PrintWords
theorem hp_eq:∀ (l:List UInt8) (xs:List Int),Bytes xs → Lib.hasPrefix l (xs.map fun n=>UInt8.ofNat n.toNat) = xs.isPrefixOf (l.map fun b=>(b.toNat:Int))
  | l,[],_=>by cases l <;> rfl
  | [],x :: t,_=>rfl
  | b :: l,x :: t,hb=>by
   have ih:=hp_eq l t hb.tail
   have hx:=hb.head
   have e:(UInt8.ofNat x.toNat == b) = (x == (b.toNat:Int)):=by
    rw [Bool.eq_iff_iff,beq_iff_eq,beq_iff_eq]
    constructor
    ·intro h
     rw [← h,UInt8.toNat_ofNat']
     omega
    ·intro h
     rw [h]
     simp
   unfold Lib.hasPrefix at ih ⊢
   simp only [List.map_cons,List.isPrefixOf]
   rw [e,ih]
theorem beq_cast (m n:Nat):((m:Int) == (n:Int)) = decide (m = n):=by
 rw [Bool.eq_iff_iff,beq_iff_eq,decide_eq_true_eq]
 omega
theorem conv_any (w:World) (A:Option Addr) (xs:List Int) (c n:Nat) (hn:xs.length = n) (hb:Bytes xs) (hc:∀ j x,xs[j]? = some x → ∃ y,A = some y ∧ w.cell? (y.add j) = some (.int .u8 x)) :
    (convert 33 9 (.slice A n c)).run Tryz.prog w = .ok (.string (strOfNums xs)) w:=by
  subst hn
  cases A with
  | none=>
   obtain rfl:xs = []:=by
    cases xs with
    | nil=>rfl
    | cons x t=>
     obtain ⟨y,e,_⟩:=hc 0 x rfl
     cases e
   exact run_convert_bytes_nil w 33 5 Tryz.underlying33 Tryz.underlying5 _ _ 9 Tryz.underlying9
  | some ad=>
   have h:=run_convert_bytes_back w 33 9 5 ad c (xs.map fun n=>UInt8.ofNat n.toNat) Tryz.underlying33 Tryz.underlying5 Tryz.underlying9 (fun j hj=>by
    rw [List.length_map] at hj
    obtain ⟨y,e,hcell⟩:=hc j xs[j] (List.getElem?_eq_getElem hj)
    cases e
    rw [hcell,List.getElem_map]
    have hx:=hb xs[j] (List.getElem_mem hj)
    rw [UInt8.toNat_ofNat']
    congr 2
    omega)
   rw [List.length_map] at h
   exact h
set_option maxRecDepth 100000 in
set_option maxHeartbeats 8000000 in
theorem has_c {w:World} {p:Nat} {bs:List Int} {tk a:Nat} (h:PB w p bs tk a) (wd:ByteArray) (hwd:wd.size ≤ 1099511627776) :
    Calls Tryz.prog 103 #[.pointer (some ⟨p,0,none⟩),.string wd] w fun e W'=>e = .returned (.tuple #[.bool (hasS bs (bytesOf wd) a).1,.bool (hasS bs (bytesOf wd) a).2]) ∧ Below w.heap.size w W':=by
  obtain ⟨ba,cap,h0,hcap,hcells⟩:=h.row
  have h5:=h.here
  have hle:=h.le
  have hsm:=h.small
  have hby:=h.bytes
  have hbl:(bytesOf wd).length = wd.size:=bytesOf_length wd
  have hw4:IntKind.i64.wrap ((a:Int) + (wd.size:Int)) = (a:Int) + (wd.size:Int):=IntWalk.i64_in _ (by omega)
  generalize hR:hasS bs (bytesOf wd) a = R
  unfold hasS at hR
  rw [hbl] at hR
  have hxb:Bytes ((bs.drop a).take wd.size):=(hby.drop a).take _
  have hpf:=hp_eq wd.data.toList _ hxb
  have hhp:=fun w'=>hasPrefix_c wd (strOfNums ((bs.drop a).take wd.size)) w'
  rw [strOfNums_data,hpf] at hhp
  change (if ((bs.drop a).take wd.size).isPrefixOf (wd.data.toList.map fun b=>(b.toNat:Int)) = true then _ else _) = R at hR
  have hcut:∀ j x,((bs.drop a).take wd.size)[j]? = some x → ∃ y,ba.map (fun x=>x.add a) = some y ∧ w.drew.cell? (y.add j) = some (.int .u8 x):=by
   intro j x hj
   rw [List.getElem?_take] at hj
   split at hj
   ·rw [List.getElem?_drop] at hj
    obtain ⟨hl,rfl⟩:=List.getElem?_eq_some_iff.1 hj
    obtain ⟨g',rfl,_,hc⟩:=hcells (a + j) hl
    exact ⟨_,rfl,by show w.drew.cell? (((⟨g',0,none⟩:Addr).add a).add j) = _;rw [plain_add,plain_add,Nat.zero_add];exact hc⟩
   · cases hj
  have hln:((bs.drop a).take wd.size).length = min wd.size (bs.length - a):=by rw [List.length_take,List.length_drop]
  go_enter Tryz.func103,Tryz.ntmps103
  generalize (bs.drop a).take wd.size = xs at *
  by_cases h4:a + wd.size ≤ bs.length
  ·have hm:min ((a:Int) + (wd.size:Int)) (bs.length:Int) = (a:Int) + (wd.size:Int):=by omega
   have hlx:xs.length = wd.size:=by omega
   by_cases hz:cap - a = 0
   ·obtain rfl:xs = []:=List.length_eq_zero_iff.1 (by omega)
    have hcv:=fun c=>conv_any w.drew ba [] c _ hlx hxb (fun j x hj=>by simp at hj)
    cases hpx:([]:List Int).isPrefixOf (wd.data.toList.map fun b=>(b.toNat:Int)) with
    | true=>
     rw [hpx] at hhp
     rw [if_pos hpx,hlx] at hR
     go_wp2
     go_region
     go_wp2_with (go_at_call 86;refine (hhp _).mono ?_;rintro e w6 ⟨rfl,hw6⟩;subst w6)
     go_ret2
     rw [← hR]
     refine ⟨?_,(Below.refl _ w).drew⟩
     first | (show Ending.returned (.tuple #[.bool true,.bool false]) = _;simp;done) | (show Ending.returned (.tuple #[.bool (((bs.length - a:Nat):Int) == (wd.size:Int)),.bool (decide (bs.length - a < wd.size))]) = _;rw [beq_cast];done)
    | false=>
     rw [hpx] at hhp
     rw [if_neg (by rw [hpx];decide)] at hR
     go_wp2
     go_region
     go_wp2_with (go_at_call 86;refine (hhp _).mono ?_;rintro e w6 ⟨rfl,hw6⟩;subst w6)
     go_ret2
     rw [← hR]
     exact ⟨rfl,(Below.refl _ w).drew⟩
   ·have hcv:=fun c=>conv_any w.drew _ xs c _ hlx hxb hcut
    cases hpx:xs.isPrefixOf (wd.data.toList.map fun b=>(b.toNat:Int)) with
    | true=>
     rw [hpx] at hhp
     rw [if_pos hpx,hlx] at hR
     go_wp2
     go_region
     go_wp2_with (go_at_call 86;refine (hhp _).mono ?_;rintro e w6 ⟨rfl,hw6⟩;subst w6)
     go_ret2
     rw [← hR]
     refine ⟨?_,(Below.refl _ w).drew⟩
     first | (show Ending.returned (.tuple #[.bool true,.bool false]) = _;simp;done) | (show Ending.returned (.tuple #[.bool (((bs.length - a:Nat):Int) == (wd.size:Int)),.bool (decide (bs.length - a < wd.size))]) = _;rw [beq_cast];done)
    | false=>
     rw [hpx] at hhp
     rw [if_neg (by rw [hpx];decide)] at hR
     go_wp2
     go_region
     go_wp2_with (go_at_call 86;refine (hhp _).mono ?_;rintro e w6 ⟨rfl,hw6⟩;subst w6)
     go_ret2
     rw [← hR]
     exact ⟨rfl,(Below.refl _ w).drew⟩
  ·have hm:min ((a:Int) + (wd.size:Int)) (bs.length:Int) = (bs.length:Int):=by omega
   have hlx:xs.length = bs.length - a:=by omega
   by_cases hz:cap - a = 0
   ·obtain rfl:xs = []:=List.length_eq_zero_iff.1 (by omega)
    have hcv:=fun c=>conv_any w.drew ba [] c _ hlx hxb (fun j x hj=>by simp at hj)
    cases hpx:([]:List Int).isPrefixOf (wd.data.toList.map fun b=>(b.toNat:Int)) with
    | true=>
     rw [hpx] at hhp
     rw [if_pos hpx,hlx] at hR
     go_wp2
     go_region
     go_wp2_with (go_at_call 86;refine (hhp _).mono ?_;rintro e w6 ⟨rfl,hw6⟩;subst w6)
     go_ret2
     rw [← hR]
     refine ⟨?_,(Below.refl _ w).drew⟩
     first | (show Ending.returned (.tuple #[.bool true,.bool false]) = _;simp;done) | (show Ending.returned (.tuple #[.bool (((bs.length - a:Nat):Int) == (wd.size:Int)),.bool (decide (bs.length - a < wd.size))]) = _;rw [beq_cast];done)
    | false=>
     rw [hpx] at hhp
     rw [if_neg (by rw [hpx];decide)] at hR
     go_wp2
     go_region
     go_wp2_with (go_at_call 86;refine (hhp _).mono ?_;rintro e w6 ⟨rfl,hw6⟩;subst w6)
     go_ret2
     rw [← hR]
     exact ⟨rfl,(Below.refl _ w).drew⟩
   ·have hcv:=fun c=>conv_any w.drew _ xs c _ hlx hxb hcut
    cases hpx:xs.isPrefixOf (wd.data.toList.map fun b=>(b.toNat:Int)) with
    | true=>
     rw [hpx] at hhp
     rw [if_pos hpx,hlx] at hR
     go_wp2
     go_region
     go_wp2_with (go_at_call 86;refine (hhp _).mono ?_;rintro e w6 ⟨rfl,hw6⟩;subst w6)
     go_ret2
     rw [← hR]
     refine ⟨?_,(Below.refl _ w).drew⟩
     first | (show Ending.returned (.tuple #[.bool true,.bool false]) = _;simp;done) | (show Ending.returned (.tuple #[.bool (((bs.length - a:Nat):Int) == (wd.size:Int)),.bool (decide (bs.length - a < wd.size))]) = _;rw [beq_cast];done)
    | false=>
     rw [hpx] at hhp
     rw [if_neg (by rw [hpx];decide)] at hR
     go_wp2
     go_region
     go_wp2_with (go_at_call 86;refine (hhp _).mono ?_;rintro e w6 ⟨rfl,hw6⟩;subst w6)
     go_ret2
     rw [← hR]
     exact ⟨rfl,(Below.refl _ w).drew⟩
end Go.Proofs.YtbaokjfhigjpdaaGreatDoorX
end
section
set_option linter.unusedVariables false
namespace Go.Proofs.YtbaokjfhigjpdaaGreatDoorX
open Go.RowKit Go.Shelf Go.Proofs.YtbaokjfhigjpdaaGreatDoor.PXmlBase Go.Proofs.YtbaokjfhigjpdaaGreatDoorW.PrintWords
theorem has_le {bs w:List Int} {a:Nat} (hle:a ≤ bs.length) (h:(hasS bs w a).1 = true):a + w.length ≤ bs.length:=by
 unfold hasS at h
 split at h
 ·simp only [decide_eq_true_eq,List.length_take,List.length_drop] at h
  omega
 · cases h
set_option maxRecDepth 100000 in
set_option maxHeartbeats 4000000 in
theorem takes_c {w:World} {p:Nat} {bs:List Int} {tk a:Nat} (h:PB w p bs tk a) (wd:ByteArray) (hwd:wd.size ≤ 1099511627776) :
    Calls Tryz.prog 114 #[.pointer (some ⟨p,0,none⟩),.string wd] w fun e W'=>e = .returned (.bool (takesS bs (bytesOf wd) a).1) ∧ Mv w W' p (takesS bs (bytesOf wd) a).2:=by
  have hh:=has_c h wd hwd
  have h5:=h.here
  have hfr:=h.free
  have hlt:=h.lt
  have hle:=h.le
  have hsm:=h.small
  have hbl:(bytesOf wd).length = wd.size:=bytesOf_length wd
  have hw4:IntKind.i64.wrap ((a:Int) + (wd.size:Int)) = (a:Int) + (wd.size:Int):=IntWalk.i64_in _ (by omega)
  unfold takesS
  go_enter Tryz.func114,Tryz.ntmps114
  cases hb:(hasS bs (bytesOf wd) a).1 with
  | true=>
   rw [hb] at hh
   rw [if_pos rfl]
   go_wp2_with (go_at_call 103;refine hh.mono ?_;rintro e w5 ⟨rfl,hb5⟩;have h55:=cellB hb5 h5 hlt;have hf5:=freeB hb5 hfr hlt)
   go_ret
   have hm:=(Mv.of_below hb5 hlt h5).trans (Mv.set (a:=a + (bytesOf wd).length) h55)
   rw [hbl] at hm
   have e:((a + wd.size:Nat):Int) = (a:Int) + (wd.size:Int):=by omega
   rw [e] at hm
   exact ⟨rfl,hm⟩
  | false=>
   rw [hb] at hh
   rw [if_neg (by decide)]
   go_wp2_with (go_at_call 103;refine hh.mono ?_;rintro e w5 ⟨rfl,hb5⟩)
   go_ret
   exact ⟨rfl,Mv.of_below hb5 hlt h5⟩
set_option maxRecDepth 100000 in
set_option maxHeartbeats 4000000 in
theorem quote_c {w:World} {p:Nat} {bs:List Int} {tk a:Nat} (h:PB w p bs tk a) :
    Calls Tryz.prog 195 #[.pointer (some ⟨p,0,none⟩)] w (OutM w p ((quoteS bs a).map fun x=>(Value.int .i32 x.1,x.2))):=by
  have hpk:=peek_c h
  have h5:=h.here
  have hlt:=h.lt
  generalize hR:quoteS bs a = R
  unfold quoteS at hR
  go_enter Tryz.func195,Tryz.ntmps195
  cases hq:peekS bs a with
  | error f=>
   rw [hq] at hpk hR
   subst hR
   go_wp2_with (go_at_call 150;refine hpk.mono ?_;rintro e w5 ⟨rfl,hb5⟩)
   exact ⟨rfl,rfl,a,Mv.of_below hb5 hlt h5⟩
  | ok r=>
   rw [hq] at hpk hR
   simp only at hR
   by_cases hc:r ≠ 34 ∧ r ≠ 39
   ·rw [if_pos hc] at hR
    subst hR
    obtain ⟨c1,c2⟩:=hc
    have q1:(r != 34) = true:=by rw [bne_iff_ne];exact c1
    have q2:(r != 39) = true:=by rw [bne_iff_ne];exact c2
    go_wp2_with (first | (go_at_call 150;refine hpk.mono ?_;rintro e w5 ⟨rfl,hb5⟩) | (go_at_call 82;refine (odd_c (h.below hb5)).mono ?_;rintro e w6 ⟨rfl,hb6⟩))
    · exact ⟨rfl,rfl,a,(Mv.of_below hb5 hlt h5).then (h.below hb5).lt hb6⟩
    all_goals (exfalso;simp_all;done)
   ·rw [if_neg hc] at hR
    subst hR
    have hc':r = 34 ∨ r = 39:=by omega
    have key:∀ r0:Int,r = r0 → (r0 = 34 ∨ r0 = 39) → True:=fun _ _ _=>trivial
    rcases hc' with rfl | rfl
    all_goals
     go_wp2_with (first | (go_at_call 150;refine hpk.mono ?_;rintro e w5 ⟨rfl,hb5⟩) | (go_at_call 106;refine (next_ok (h.below hb5) hq).mono ?_;rintro e w6 ⟨rfl,hm6⟩))
     go_ret
     exact ⟨rfl,(Mv.of_below hb5 hlt h5).trans hm6⟩
end Go.Proofs.YtbaokjfhigjpdaaGreatDoorX
end
section
set_option linter.unusedVariables false
namespace Go.Proofs.YtbaokjfhigjpdaaGreatDoorX
open Go.RowKit Go.Shelf Go.Proofs.YtbaokjfhigjpdaaGreatDoor.PXmlBase Go.Proofs.YtbaokjfhigjpdaaGreatDoorW.PrintWords
def txt (l:List Int):Value:=.string (strOfNums l)
set_option maxRecDepth 100000 in
set_option maxHeartbeats 8000000 in
theorem name_c {w:World} {p:Nat} {bs:List Int} {tk a:Nat} (h:PB w p bs tk a) (htk:tk ≤ 1099511627776) :
    Calls Tryz.prog 153 #[.pointer (some ⟨p,0,none⟩)] w (OutM w p ((nameS bs tk a).map fun x=>(txt x.1,x.2))):=by
  have hpk:=peek_c h
  have h5:=h.here
  have hlt:=h.lt
  have hle:=h.le
  have hsm:=h.small
  generalize hR:nameS bs tk a = R
  unfold nameS at hR
  go_enter Tryz.func153,Tryz.ntmps153
  cases hq:peekS bs a with
  | error f=>
   rw [hq] at hpk hR
   subst hR
   go_wp2_with (go_at_call 150;refine hpk.mono ?_;rintro e w5 ⟨rfl,hb5⟩)
   exact ⟨rfl,rfl,a,Mv.of_below hb5 hlt h5⟩
  | ok r=>
   rw [hq] at hpk hR
   simp only at hR
   have hst:=fun w'=>start_c r w'
   cases hs:startB r with
   | false=>
    rw [if_neg (by rw [hs];decide)] at hR
    rw [hs] at hst
    subst hR
    go_wp2_with (first | (go_at_call 150;refine hpk.mono ?_;rintro e w5 ⟨rfl,hb5⟩) | (go_at_call 107;refine (hst _).mono ?_;rintro e w6 ⟨rfl,hb6⟩;have hP6:=(h.below hb5).below hb6) | (go_at_call 82;refine (odd_c hP6).mono ?_;rintro e w7 ⟨rfl,hb7⟩))
    exact ⟨rfl,rfl,a,((Mv.of_below hb5 hlt h5).then (h.below hb5).lt hb6).then hP6.lt hb7⟩
   | true=>
    rw [if_pos hs] at hR
    rw [hs] at hst
    go_wp2_with (first | (go_at_call 150;refine hpk.mono ?_;rintro e w5 ⟨rfl,hb5⟩) | (go_at_call 107;refine (hst _).mono ?_;rintro e w6 ⟨rfl,hb6⟩))
    have hm6:=(Mv.of_below hb5 hlt h5).then (h.below hb5).lt hb6
    generalize hRL:nameL bs tk a (bs.length + 1) a = RL at hR
    go_loopw [14] (fun _ wr=>∃ (a' k:Nat),Mv w wr p a' ∧ a ≤ a' ∧ a' ≤ bs.length ∧ bs.length < k + a' ∧ nameL bs tk a k a' = RL) (fun _ wr=>bs.length - atOf p wr)
    case atStart=>exact ⟨a,_,hm6,Nat.le_refl _,hle,by omega,hRL⟩
    case round=>
     rename World=>wq
     obtain ⟨a',k,hm,h1,h2,h3,hL⟩:=hrel
     have hP:=h.moved hm h2
     have hpq:=peek_c hP
     obtain ⟨k',rfl⟩:∃ k',k = k' + 1:=⟨k - 1,by omega⟩
     unfold nameL at hL
     cases hq2:peekS bs a' with
     | error f=>
      rw [hq2] at hL hpq
      subst hL
      subst hR
      go_wp2_with (go_at_call 150;refine hpq.mono ?_;rintro e w7 ⟨rfl,hb7⟩)
      exact ⟨rfl,rfl,a',hm.then hP.lt hb7⟩
     | ok r2=>
      rw [hq2] at hL hpq
      simp only at hL
      have hpt:=fun w'=>part_c r2 w'
      cases hp2:partB r2 with
      | false=>
       rw [if_neg (by rw [hp2];decide)] at hL
       rw [hp2] at hpt
       subst hL
       subst hR
       have hxb:Bytes (cutS bs a a'):=(h.bytes.drop a).take _
       have hxl:(cutS bs a a').length = a' - a:=by unfold cutS;rw [List.length_take,List.length_drop];omega
       go_wp2_with (first | (go_at_call 150;refine hpq.mono ?_;rintro e w7 ⟨rfl,hb7⟩) | (go_at_call 144;refine (hpt _).mono ?_;rintro e w8 ⟨rfl,hb8⟩))
       have hm8:=(hm.then hP.lt hb7).then (hP.below hb7).lt hb8
       have hP8:=h.moved hm8 h2
       have h78:=hP8.here
       obtain ⟨ba,cap,hrow,hcap,hcells⟩:=hP8.row
       have hcut:∀ j x,(cutS bs a a')[j]? = some x → ∃ y,ba.map (fun x=>x.add a) = some y ∧ w8.drew.cell? (y.add j) = some (.int .u8 x):=by
        intro j x hj
        unfold cutS at hj
        rw [List.getElem?_take] at hj
        split at hj
        ·rw [List.getElem?_drop] at hj
         obtain ⟨hl,rfl⟩:=List.getElem?_eq_some_iff.1 hj
         obtain ⟨g',rfl,_,hc⟩:=hcells (a + j) hl
         exact ⟨_,rfl,by show w8.drew.cell? (((⟨g',0,none⟩:Addr).add a).add j) = _;rw [plain_add,plain_add,Nat.zero_add];exact hc⟩
        · cases hj
       have hm9:=hm8.then hP8.lt (Below.refl _ w8).drew
       obtain ⟨xs,hxs⟩:∃ xs,cutS bs a a' = xs:=⟨_,rfl⟩
       rw [hxs] at hxb hxl hcut
       by_cases hz:cap - a = 0
       ·obtain rfl:xs = []:=List.length_eq_zero_iff.1 (by omega)
        have hcv:=fun c=>conv_any w8.drew ba [] c _ hxl hxb (fun j x hj=>by simp at hj)
        go_region
        go_wp2
        go_ret
        exact ⟨rfl,hm9⟩
       ·have hcv:=fun c=>conv_any w8.drew _ xs c _ hxl hxb hcut
        go_region
        go_wp2
        go_ret
        exact ⟨rfl,hm9⟩
      | true=>
       have hr:r2 ≠ -1:=fun e=>by rw [e] at hp2;revert hp2;decide
       have hgt:=step_gt hq2 hr
       obtain ⟨hs1,_,_⟩:=peek_step h.bytes h2 hq2
       rw [if_pos hp2] at hL
       rw [hp2] at hpt
       go_wp2_with (first | (go_at_call 150;refine hpq.mono ?_;rintro e w7 ⟨rfl,hb7⟩) | (go_at_call 144;refine (hpt _).mono ?_;rintro e w8 ⟨rfl,hb8⟩;have hP8:=(hP.below hb7).below hb8;have hm8:=(hm.then hP.lt hb7).then (hP.below hb7).lt hb8) | (go_at_call 106;refine (next_ok hP8 hq2).mono ?_;rintro e w9 ⟨rfl,hm9⟩))
       have hm10:=hm8.trans hm9
       have hP9:=h.moved hm10 hs1
       have h79:=hP9.here
       have ht9:=hP9.tok
       generalize stepS r2 a' = a2 at *
       have hsub:IntKind.i64.wrap ((a2:Int) - (a:Int)) = (a2:Int) - (a:Int):=IntWalk.i64_in _ (by omega)
       go_region
       by_cases hc:tk < a2 - a
       ·rw [if_pos hc] at hL
        subst hL
        subst hR
        have hd:decide ((tk:Int) < (a2:Int) - (a:Int)) = true:=by rw [decide_eq_true_eq];omega
        go_wp2_with (go_at_call 102;refine (fail_c _ _ _).mono ?_;rintro e w10 ⟨rfl,hb10⟩)
        exact ⟨rfl,rfl,a2,hm10.then hP9.lt ((Below.refl _ w9).drew.trans hb10)⟩
       ·rw [if_neg hc] at hL
        have hd:decide ((tk:Int) < (a2:Int) - (a:Int)) = false:=by rw [decide_eq_false_iff_not];omega
        go_wp2
        have hm11:=hm10.then hP9.lt (Below.refl _ w9).drew
        exact ⟨⟨a2,k',hm11,by omega,hs1,by omega,hL⟩,by rw [hm11.atOf,hm.atOf];omega⟩
end Go.Proofs.YtbaokjfhigjpdaaGreatDoorX
end
section
set_option linter.unusedVariables false
namespace Go.Proofs.YtbaokjfhigjpdaaGreatDoorX
open Go.RowKit Go.Shelf Go.Proofs.YtbaokjfhigjpdaaGreatDoor.PXmlBase Go.Proofs.YtbaokjfhigjpdaaGreatDoorW.PrintWords
def OutE (r:Option Flt) (e:Ending):Prop:=match r with
 | none=>e = .returned (.tuple #[])
 | some f=>e = .panicked (fltV f)
theorem take_snoc {α:Type} (L:List α) (k:Nat) (hk:k < L.length):L.take (k + 1) = L.take k ++ [L[k]]:=by
 rw [List.take_add_one,List.getElem?_eq_getElem hk]
 rfl
set_option maxRecDepth 100000 in
set_option maxHeartbeats 4000000 in
theorem early_c {w:World} {p:Nat} {bs:List Int} {tk a:Nat} (h:PB w p bs tk a) (g c:Nat) (ws:List ByteArray) (hws:∀ x ∈ ws,x.size ≤ 1099511627776) (hc:∀ j (hj:j < ws.length),w.cell? ⟨g,j,none⟩ = some (.string ws[j])) (hn:ws.length ≤ 100) :
    Calls Tryz.prog 117 #[.pointer (some ⟨p,0,none⟩),.slice (some ⟨g,0,none⟩) ws.length c] w fun e W'=>OutE (earlyS bs (ws.map bytesOf) a) e ∧ Below w.heap.size w W':=by
  have hlt:=h.lt
  generalize hR:earlyS bs (ws.map bytesOf) a = R
  unfold earlyS at hR
  go_enter Tryz.func117,Tryz.ntmps117
  go_wp2
  go_loopw [10] (fun i wr=>∃ k:Nat,k ≤ ws.length ∧ i = .int .i64 k ∧ Below w.heap.size w wr ∧ ∀ x ∈ ws.take k,(hasS bs (bytesOf x) a).2 = false)
    (fun i _=>ws.length - (intOf i).toNat)
  case atStart=>exact ⟨0,Nat.zero_le _,rfl,Below.refl _ _,fun x hx=>by simp at hx⟩
  case round=>
   rename World=>wq
   obtain ⟨k,hk,rfl,hB,hno⟩:=hrel
   have hP:=h.below hB
   by_cases hlt2:k < ws.length
   ·have hck:=cellB hB (hc k hlt2) (lt_of_cell (hc k hlt2))
    have hsz:=hws ws[k] (List.getElem_mem hlt2)
    have hhas:=has_c hP ws[k] hsz
    have htk:=take_snoc ws k hlt2
    have hmem:ws[k] ∈ ws:=List.getElem_mem hlt2
    generalize ws[k] = x at *
    cases hcut:(hasS bs (bytesOf x) a).2 with
    | true=>
     have hany:(ws.map bytesOf).any (fun w=>(hasS bs w a).2) = true:=List.any_eq_true.2 ⟨bytesOf x,List.mem_map_of_mem hmem,hcut⟩
     rw [if_pos hany] at hR
     rw [hcut] at hhas
     subst hR
     obtain ⟨ba,cap,hrow,_,_⟩:=hP.row
     go_wp2_with (first | (go_at_call 103;refine hhas.mono ?_;rintro e w5 ⟨rfl,hb5⟩;have hr5:=cellB hb5 hrow (lt_of_cell hrow)) | (go_at_call 102;refine (fail_c _ _ _).mono ?_;rintro e w6 ⟨rfl,hb6⟩))
     have hB5:=hB.trans (hb5.mono hB.size)
     exact ⟨rfl,rfl,hB5.trans (hb6.mono hB5.size)⟩
    | false=>
     rw [hcut] at hhas
     go_wp2_with (go_at_call 103;refine hhas.mono ?_;rintro e w5 ⟨rfl,hb5⟩)
     refine ⟨⟨k + 1,by omega,by simp,hB.trans (hb5.mono hB.size),fun y hy=>?_⟩,by simp [intOf];omega⟩
     rw [htk] at hy
     rcases List.mem_append.1 hy with hy | hy
     · exact hno y hy
     ·simp at hy
      rw [hy]
      exact hcut
   ·obtain rfl:k = ws.length:=by omega
    rw [List.take_length] at hno
    have hany:¬ (ws.map bytesOf).any (fun w=>(hasS bs w a).2) = true:=fun hh=>by
     obtain ⟨y,hy,h1⟩:=List.any_eq_true.1 hh
     obtain ⟨x,hx,rfl⟩:=List.mem_map.1 hy
     rw [hno x hx] at h1
     cases h1
    rw [if_neg hany] at hR
    subst hR
    go_wp2
    go_end0
    exact ⟨rfl,hB⟩
set_option maxRecDepth 100000 in
set_option maxHeartbeats 4000000 in
theorem want_c {w:World} {p:Nat} {bs:List Int} {tk a:Nat} (h:PB w p bs tk a) (wd:ByteArray) (hwd:wd.size ≤ 1099511627776) :
    Calls Tryz.prog 146 #[.pointer (some ⟨p,0,none⟩),.string wd] w (OutM w p ((wantS bs (bytesOf wd) a).map fun x=>(Value.tuple #[],x))):=by
  have ht:=takes_c h wd hwd
  have hlt:=h.lt
  have h5:=h.here
  unfold takesS at ht
  generalize hR:wantS bs (bytesOf wd) a = R
  unfold wantS at hR
  go_enter Tryz.func146,Tryz.ntmps146
  cases hb:(hasS bs (bytesOf wd) a).1 with
  | true=>
   rw [if_pos hb] at hR ht
   subst hR
   go_wp2_with (go_at_call 114;refine ht.mono ?_;rintro e w5 ⟨rfl,hm5⟩)
   go_end0
   exact ⟨rfl,hm5⟩
  | false=>
   rw [if_neg (by rw [hb];decide)] at hR ht
   have hea:∀ w':World,PB w' p bs tk a → Calls Tryz.prog 117 #[.pointer (some ⟨p,0,none⟩),.slice (some ⟨w'.heap.size,0,none⟩) 1 1] (w'.alloc (.cells #[.string wd] 9)) fun e W'=>OutE (earlyS bs [bytesOf wd] a) e ∧ Below (w'.alloc (.cells #[.string wd] 9)).heap.size (w'.alloc (.cells #[.string wd] 9)) W':=by
    intro w' hw'
    refine early_c (hw'.below ((Below.refl _ w').alloc (Nat.le_refl _) _)) w'.heap.size 1 [wd] (by simpa using hwd) (fun j hj=>?_) (by simp)
    obtain rfl:j = 0:=by simpa using hj
    unfold World.cell?
    rw [heap_alloc_new]
    rfl
   cases hr:earlyS bs [bytesOf wd] a with
   | some f=>
    rw [hr] at hR hea
    subst hR
    go_wp2_with (first | (go_at_call 114;refine ht.mono ?_;rintro e w5 ⟨rfl,hm5⟩;have hP5:=h.moved hm5 h.le) | (go_at_call 117;refine (hea _ hP5).mono ?_;rintro e w6 ⟨rfl,hb6⟩))
    exact ⟨rfl,rfl,a,hm5.then hP5.lt (((Below.refl _ w5).alloc (Nat.le_refl _) _).trans (hb6.mono (by simp)))⟩
   | none=>
    rw [hr] at hR hea
    subst hR
    go_wp2_with (first | (go_at_call 114;refine ht.mono ?_;rintro e w5 ⟨rfl,hm5⟩;have hP5:=h.moved hm5 h.le) | (go_at_call 117;refine (hea _ hP5).mono ?_;rintro e w6 ⟨rfl,hb6⟩;have hb56:=((Below.refl w5.heap.size w5).alloc (Nat.le_refl _) (.cells #[.string wd] 9)).trans (hb6.mono (by simp));have hP6:=hP5.below hb56) | (go_at_call 82;refine (odd_c hP6).mono ?_;rintro e w7 ⟨rfl,hb7⟩))
    exact ⟨rfl,rfl,a,(hm5.then hP5.lt hb56).then hP6.lt hb7⟩
end Go.Proofs.YtbaokjfhigjpdaaGreatDoorX
end
section
set_option linter.unusedVariables false
namespace Go.Proofs.YtbaokjfhigjpdaaGreatDoorX
open Go.RowKit Go.Shelf Go.Proofs.YtbaokjfhigjpdaaGreatDoor.PXmlBase Go.Proofs.YtbaokjfhigjpdaaGreatDoorW.PrintWords
theorem must_ok {bs:List Int} {a:Nat} {r:Int} (h:mustS bs a = .ok r):peekS bs a = .ok r ∧ a ≠ bs.length:=by
 unfold mustS at h
 split at h
 · cases h
 ·rename_i hne
  exact ⟨h,hne⟩
theorem must_real {bs:List Int} {a:Nat} {r:Int} (h:mustS bs a = .ok r):r ≠ -1:=by
 obtain ⟨h1,h2⟩:=must_ok h
 unfold peekS at h1
 rw [if_neg h2] at h1
 split at h1
 ·rename_i hc
  cases h1
  intro e
  rw [e] at hc
  cases hc
 · cases h1
theorem whiteL_le {bs:List Int} (hb:Bytes bs):∀ (k a e:Nat),a ≤ bs.length → whiteL bs k a = .ok e → a ≤ e ∧ e ≤ bs.length
  | 0,a,e,hle,h=>by
   cases h
   exact ⟨Nat.le_refl _,hle⟩
  | k + 1,a,e,hle,h=>by
   unfold whiteL at h
   cases hq:peekS bs a with
   | error f=>
    rw [hq] at h
    cases h
   | ok r=>
    rw [hq] at h
    simp only at h
    obtain ⟨hs,_,_⟩:=peek_step hb hle hq
    split at h
    ·obtain ⟨h1,h2⟩:=whiteL_le hb k _ _ hs h
     exact ⟨by unfold stepS at h1;omega,h2⟩
    ·cases h
     exact ⟨Nat.le_refl _,hle⟩
set_option maxRecDepth 100000 in
set_option maxHeartbeats 4000000 in
theorem eq_c {w:World} {p:Nat} {bs:List Int} {tk a:Nat} (h:PB w p bs tk a) :
    Calls Tryz.prog 147 #[.pointer (some ⟨p,0,none⟩)] w (OutM w p ((eqS bs a).map fun x=>(Value.tuple #[],x))):=by
  have hbl:=blanks_c h
  generalize hR:eqS bs a = R
  unfold eqS at hR
  go_enter Tryz.func147,Tryz.ntmps147
  cases hw:whiteS bs a with
  | error f=>
   rw [hw] at hbl hR
   subst hR
   go_wp2_with (go_at_call 113;refine hbl.mono ?_;rintro e w5 ⟨rfl,a5,hm5⟩)
   exact ⟨rfl,rfl,a5,hm5⟩
  | ok a1=>
   rw [hw] at hbl hR
   simp only at hR
   obtain ⟨l1,l2⟩:=whiteL_le h.bytes _ _ _ h.le hw
   cases hmu:mustS bs a1 with
   | error f=>
    rw [hmu] at hR
    subst hR
    go_wp2_with (first | (go_at_call 113;refine hbl.mono ?_;rintro e w5 ⟨rfl,hm5⟩;have hP5:=h.moved hm5 l2;have hu5:=must_c hP5;rw [hmu] at hu5) | (have _t:=hu5;go_at_call 105;refine hu5.mono ?_;clear hu5;rintro e w6 ⟨rfl,hb6⟩))
    exact ⟨rfl,rfl,a1,hm5.then hP5.lt hb6⟩
   | ok r=>
    rw [hmu] at hR
    simp only at hR
    obtain ⟨hq,hne⟩:=must_ok hmu
    obtain ⟨hs1,_,_⟩:=peek_step h.bytes l2 hq
    by_cases hr:r ≠ 61
    ·rw [if_pos hr] at hR
     subst hR
     have q1:(r != 61) = true:=by rw [bne_iff_ne];exact hr
     go_wp2_with (first | (go_at_call 113;refine hbl.mono ?_;rintro e w5 ⟨rfl,hm5⟩;have hP5:=h.moved hm5 l2;have hu5:=must_c hP5;rw [hmu] at hu5) | (have _t:=hu5;go_at_call 105;refine hu5.mono ?_;clear hu5;rintro e w6 ⟨rfl,hb6⟩;have hP6:=hP5.below hb6;have hm6:=hm5.then hP5.lt hb6) | (go_at_call 82;refine (odd_c hP6).mono ?_;rintro e w7 ⟨rfl,hb7⟩))
     exact ⟨rfl,rfl,a1,hm6.then hP6.lt hb7⟩
    ·rw [if_neg hr] at hR
     obtain rfl:r = 61:=by omega
     cases hw2:whiteS bs (stepS 61 a1) with
     | error f=>
      rw [hw2] at hR
      subst hR
      go_wp2_with (first | (have _t:=hbl;go_at_call 113;refine hbl.mono ?_;clear hbl;rintro e w5 ⟨rfl,hm5⟩;have hP5:=h.moved hm5 l2;have hu5:=must_c hP5;rw [hmu] at hu5) | (have _t:=hu5;go_at_call 105;refine hu5.mono ?_;clear hu5;rintro e w6 ⟨rfl,hb6⟩;have hP6:=hP5.below hb6;have hm6:=hm5.then hP5.lt hb6) | (go_at_call 106;refine (next_ok hP6 hq).mono ?_;rintro e w7 ⟨rfl,hm7⟩;have hP7:=hP6.moved hm7 hs1;have hb2:=blanks_c hP7;rw [hw2] at hb2) | (have _t:=hb2;go_at_call 113;refine hb2.mono ?_;clear hb2;rintro e w8 ⟨rfl,a8,hm8⟩))
      exact ⟨rfl,rfl,a8,(hm6.trans hm7).trans hm8⟩
     | ok a2=>
      rw [hw2] at hR
      subst hR
      go_wp2_with (first | (have _t:=hbl;go_at_call 113;refine hbl.mono ?_;clear hbl;rintro e w5 ⟨rfl,hm5⟩;have hP5:=h.moved hm5 l2;have hu5:=must_c hP5;rw [hmu] at hu5) | (have _t:=hu5;go_at_call 105;refine hu5.mono ?_;clear hu5;rintro e w6 ⟨rfl,hb6⟩;have hP6:=hP5.below hb6;have hm6:=hm5.then hP5.lt hb6) | (go_at_call 106;refine (next_ok hP6 hq).mono ?_;rintro e w7 ⟨rfl,hm7⟩;have hP7:=hP6.moved hm7 hs1;have hb2:=blanks_c hP7;rw [hw2] at hb2) | (have _t:=hb2;go_at_call 113;refine hb2.mono ?_;clear hb2;rintro e w8 ⟨rfl,hm8⟩))
      go_end0
      exact ⟨rfl,(hm6.trans hm7).trans hm8⟩
end Go.Proofs.YtbaokjfhigjpdaaGreatDoorX
end
section
set_option linter.unusedVariables false
namespace Go.Proofs.YtbaokjfhigjpdaaGreatDoorX
open Go.RowKit Go.Shelf Go.Proofs.YtbaokjfhigjpdaaGreatDoor.PXmlBase Go.Proofs.YtbaokjfhigjpdaaGreatDoorW.PrintWords
set_option maxRecDepth 100000 in
set_option maxHeartbeats 4000000 in
theorem note_c {w:World} {p:Nat} {bs:List Int} {tk a:Nat} (h:PB w p bs tk a) :
    Calls Tryz.prog 115 #[.pointer (some ⟨p,0,none⟩)] w (OutM w p ((noteS bs a).map fun x=>(Value.tuple #[],x))):=by
  have h5:=h.here
  have hlt:=h.lt
  have hle:=h.le
  have hwd:bytesOf ⟨#[45,45]⟩ = [45,45]:=rfl
  generalize hR:noteS bs a = R
  unfold noteS at hR
  go_enter Tryz.func115,Tryz.ntmps115
  go_wp2
  go_loopw [3] (fun _ wr=>∃ (a' k:Nat),Mv w wr p a' ∧ a' ≤ bs.length ∧ bs.length < k + a' ∧ noteL bs k a' = R) (fun _ wr=>bs.length - atOf p wr)
  case atStart=>exact ⟨a,_,Mv.of_below (Below.refl _ _) hlt h5,hle,by omega,hR⟩
  case round=>
   rename World=>wq
   obtain ⟨a',k,hm,h2,h3,hL⟩:=hrel
   have hP:=h.moved hm h2
   have hmu:=must_c hP
   obtain ⟨k',rfl⟩:∃ k',k = k' + 1:=⟨k - 1,by omega⟩
   unfold noteL at hL
   cases hq:mustS bs a' with
   | error f=>
    rw [hq] at hL hmu
    subst hL
    go_wp2_with (go_at_call 105;refine hmu.mono ?_;rintro e w5 ⟨rfl,hb5⟩)
    exact ⟨rfl,rfl,a',hm.then hP.lt hb5⟩
   | ok r=>
    rw [hq] at hL hmu
    simp only at hL
    obtain ⟨hpk,hne⟩:=must_ok hq
    obtain ⟨hs1,_,_⟩:=peek_step h.bytes h2 hpk
    have hgt:=step_gt hpk (must_real hq)
    have htk:=fun w' (hP':PB w' p bs tk a')=>takes_c hP' ⟨#[45,45]⟩ (by decide)
    unfold takesS at htk
    rw [hwd] at htk
    cases hh:(hasS bs [45,45] a').1 with
    | false=>
     rw [if_neg (by rw [hh];decide)] at hL htk
     unfold nextS at hL
     rw [hpk] at hL
     simp only at hL
     go_wp2_with (first | (have _t:=hmu;go_at_call 105;refine hmu.mono ?_;clear hmu;rintro e w5 ⟨rfl,hb5⟩;have hP5:=hP.below hb5;have hm5:=hm.then hP.lt hb5;have h55:=hP5.here) | (go_at_call 114;refine (htk _ hP5).mono ?_;rintro e w6 ⟨rfl,hm6⟩;have hP6:=hP5.moved hm6 h2) | (go_at_call 106;refine (next_ok hP6 hpk).mono ?_;rintro e w7 ⟨rfl,hm7⟩))
     have hm8:=(hm5.trans hm6).trans hm7
     exact ⟨⟨stepS r a',k',hm8,hs1,by omega,hL⟩,by rw [hm8.atOf,hm.atOf];omega⟩
    | true=>
     have hl2:=has_le h2 hh
     rw [if_pos hh] at hL htk
     change a' + 2 ≤ bs.length at hl2
     cases hq2:mustS bs (a' + 2) with
     | error f=>
      rw [hq2] at hL
      subst hL
      go_wp2_with (first | (have _t:=hmu;go_at_call 105;refine hmu.mono ?_;clear hmu;rintro e w5 ⟨rfl,hb5⟩;have hP5:=hP.below hb5;have hm5:=hm.then hP.lt hb5;have h55:=hP5.here) | (go_at_call 114;refine (htk _ hP5).mono ?_;rintro e w6 ⟨rfl,hm6'⟩;have hm6:Mv w5 w6 p (a' + 2):=hm6';have hP6:=hP5.moved hm6 hl2;have hu6:=must_c hP6;rw [hq2] at hu6) | (have _t:=hu6;go_at_call 105;refine hu6.mono ?_;clear hu6;rintro e w7 ⟨rfl,hb7⟩))
      exact ⟨rfl,rfl,_,(hm5.trans hm6).then hP6.lt hb7⟩
     | ok r2=>
      rw [hq2] at hL
      simp only at hL
      obtain ⟨hpk2,_⟩:=must_ok hq2
      by_cases hr:r2 ≠ 62
      ·rw [if_pos hr] at hL
       subst hL
       have q1:(r2 != 62) = true:=by rw [bne_iff_ne];exact hr
       go_wp2_with (first | (have _t:=hmu;go_at_call 105;refine hmu.mono ?_;clear hmu;rintro e w5 ⟨rfl,hb5⟩;have hP5:=hP.below hb5;have hm5:=hm.then hP.lt hb5;have h55:=hP5.here) | (go_at_call 114;refine (htk _ hP5).mono ?_;rintro e w6 ⟨rfl,hm6'⟩;have hm6:Mv w5 w6 p (a' + 2):=hm6';have hP6:=hP5.moved hm6 hl2;have hu6:=must_c hP6;rw [hq2] at hu6) | (have _t:=hu6;go_at_call 105;refine hu6.mono ?_;clear hu6;rintro e w7 ⟨rfl,hb7⟩;have hP7:=hP6.below hb7) | (go_at_call 118;refine (refuse_c hP7 a').mono ?_;rintro e w8 ⟨rfl,hb8⟩))
       exact ⟨rfl,rfl,_,((hm5.trans hm6).then hP6.lt hb7).then hP7.lt hb8⟩
      ·rw [if_neg hr] at hL
       obtain rfl:r2 = 62:=by omega
       subst hL
       go_wp2_with (first | (have _t:=hmu;go_at_call 105;refine hmu.mono ?_;clear hmu;rintro e w5 ⟨rfl,hb5⟩;have hP5:=hP.below hb5;have hm5:=hm.then hP.lt hb5;have h55:=hP5.here) | (go_at_call 114;refine (htk _ hP5).mono ?_;rintro e w6 ⟨rfl,hm6'⟩;have hm6:Mv w5 w6 p (a' + 2):=hm6';have hP6:=hP5.moved hm6 hl2;have hu6:=must_c hP6;rw [hq2] at hu6) | (have _t:=hu6;go_at_call 105;refine hu6.mono ?_;clear hu6;rintro e w7 ⟨rfl,hb7⟩;have hP7:=hP6.below hb7) | (go_at_call 106;refine (next_ok hP7 hpk2).mono ?_;rintro e w8 ⟨rfl,hm8⟩))
       go_end0
       exact ⟨rfl,((hm5.trans hm6).then hP6.lt hb7).trans hm8⟩
end Go.Proofs.YtbaokjfhigjpdaaGreatDoorX
end
section
set_option linter.unusedVariables false
namespace Go.Proofs.YtbaokjfhigjpdaaGreatDoorX
open Go.RowKit Go.Shelf Go.Proofs.YtbaokjfhigjpdaaGreatDoor.PXmlBase Go.Proofs.YtbaokjfhigjpdaaGreatDoorW.PrintWords
theorem digit_dec (r base:Int) (h0:48 ≤ r) (h1:r ≤ 57):xml_digit.f 3 r base = some (digitS r base):=by
 have e:wrap64 (wrap32 (r - 48)) = r - 48:=by
  rw [show wrap32 (r - 48) = r - 48 by unfold wrap32;omega]
  unfold wrap64
  omega
 unfold xml_digit.f digitS
 rw [if_pos h0,decide_eq_true h1]
 change xml_digit.j0 (2 + 1) _ _ _ _ = _
 rw [xml_digit.j0,if_pos rfl,e,if_pos (show 48 ≤ r ∧ r ≤ 57 from ⟨h0,h1⟩)]
 split <;> rfl
theorem digit_none (r base:Int) (h:¬ (48 ≤ r ∧ r ≤ 57)) (h1:¬ (97 ≤ r ∧ r ≤ 102)) (h2:¬ (65 ≤ r ∧ r ≤ 70)):xml_digit.f 3 r base = some (digitS r base):=by
 have j2:∀ k,xml_digit.j2 (k + 1) r base (-1) false = some (digitS r base):=by
  intro k
  rw [xml_digit.j2]
  unfold digitS
  rw [if_neg Bool.false_ne_true,if_neg h,if_neg h1,if_neg h2]
  split <;> rfl
 have j1:∀ k,xml_digit.j1 (k + 2) r base (-1) false = some (digitS r base):=by
  intro k
  change xml_digit.j1 (k + 1 + 1) _ _ _ _ = _
  rw [xml_digit.j1,if_neg Bool.false_ne_true]
  split
  ·rw [decide_eq_false (by omega)]
   exact j2 k
  · exact j2 k
 have j0:xml_digit.j0 3 r base (-1) false = some (digitS r base):=by
  change xml_digit.j0 (2 + 1) _ _ _ _ = _
  rw [xml_digit.j0,if_neg Bool.false_ne_true]
  split
  ·rw [decide_eq_false (by omega)]
   exact j1 0
  · exact j1 0
 unfold xml_digit.f
 split
 ·rw [decide_eq_false (by omega)]
  exact j0
 · exact j0
theorem digit_let (r base x:Int) (h0:r ≥ 48) (hn:¬ r ≤ 57) (hv:wrap64 ((wrap64 (wrap32 ((Go.bits .or .i32 r 32) - 97))) + 10) = x) (hr:(97 ≤ r ∧ r ≤ 102) ∨ (65 ≤ r ∧ r ≤ 70 ∧ ¬ r ≥ 97)) (hd:digitS r base = if x ≥ base then -1 else x):xml_digit.f 3 r base = some (digitS r base):=by
 have j2:xml_digit.j2 (0 + 1) r base (-1) true = some (digitS r base):=by
  rw [xml_digit.j2,if_pos rfl,hv,hd]
  split <;> rfl
 unfold xml_digit.f
 rw [if_pos h0,decide_eq_false hn]
 change xml_digit.j0 (1 + 1 + 1) _ _ _ _ = _
 rw [xml_digit.j0,if_neg Bool.false_ne_true]
 rcases hr with ⟨a1,a2⟩ | ⟨a1,a2,a3⟩
 ·rw [if_pos a1,decide_eq_true a2,xml_digit.j1,if_pos rfl]
  exact j2
 ·rw [if_neg a3,xml_digit.j1,if_neg Bool.false_ne_true,if_pos a1,decide_eq_true a2]
  exact j2
theorem digit_eq (r base:Int):xml_digit.f 3 r base = some (digitS r base):=by
 by_cases h:48 ≤ r ∧ r ≤ 57
 · exact digit_dec r base h.1 h.2
 ·by_cases h1:97 ≤ r ∧ r ≤ 102
  ·obtain rfl | rfl | rfl | rfl | rfl | rfl:r = 97 ∨ r = 98 ∨ r = 99 ∨ r = 100 ∨ r = 101 ∨ r = 102:=by omega
   · exact digit_let _ base 10 (by decide) (by decide) (by decide +kernel) (.inl (by decide)) (by simp [digitS])
   · exact digit_let _ base 11 (by decide) (by decide) (by decide +kernel) (.inl (by decide)) (by simp [digitS])
   · exact digit_let _ base 12 (by decide) (by decide) (by decide +kernel) (.inl (by decide)) (by simp [digitS])
   · exact digit_let _ base 13 (by decide) (by decide) (by decide +kernel) (.inl (by decide)) (by simp [digitS])
   · exact digit_let _ base 14 (by decide) (by decide) (by decide +kernel) (.inl (by decide)) (by simp [digitS])
   · exact digit_let _ base 15 (by decide) (by decide) (by decide +kernel) (.inl (by decide)) (by simp [digitS])
  ·by_cases h2:65 ≤ r ∧ r ≤ 70
   ·obtain rfl | rfl | rfl | rfl | rfl | rfl:r = 65 ∨ r = 66 ∨ r = 67 ∨ r = 68 ∨ r = 69 ∨ r = 70:=by omega
    · exact digit_let _ base 10 (by decide) (by decide) (by decide +kernel) (.inr (by decide)) (by simp [digitS])
    · exact digit_let _ base 11 (by decide) (by decide) (by decide +kernel) (.inr (by decide)) (by simp [digitS])
    · exact digit_let _ base 12 (by decide) (by decide) (by decide +kernel) (.inr (by decide)) (by simp [digitS])
    · exact digit_let _ base 13 (by decide) (by decide) (by decide +kernel) (.inr (by decide)) (by simp [digitS])
    · exact digit_let _ base 14 (by decide) (by decide) (by decide +kernel) (.inr (by decide)) (by simp [digitS])
    · exact digit_let _ base 15 (by decide) (by decide) (by decide +kernel) (.inr (by decide)) (by simp [digitS])
   · exact digit_none r base h h1 h2
theorem digit_c (r base:Int) (w:World):Calls Tryz.prog 203 #[.int .i32 r,.int .i64 base] w fun e w'=>e = .returned (.int .i64 (digitS r base)) ∧ Below w.heap.size w w' :=
  (xml_digit.calls 3 r base _ w (digit_eq r base)).mono fun e w' hh=>⟨hh.1,hh.2.below⟩
def strayS (bs:List Int) (a:Nat):Option Flt:=if (hasS bs [60,33] a).1 = true then some (a,2) else none
set_option maxRecDepth 100000 in
set_option maxHeartbeats 4000000 in
theorem stray_c {w:World} {p:Nat} {bs:List Int} {tk a:Nat} (h:PB w p bs tk a) :
    Calls Tryz.prog 81 #[.pointer (some ⟨p,0,none⟩)] w fun e W'=>OutE (strayS bs a) e ∧ Below w.heap.size w W':=by
  have hh:=has_c h ⟨#[60,33]⟩ (by decide)
  rw [show bytesOf ⟨#[60,33]⟩ = [60,33] from rfl] at hh
  have h5:=h.here
  unfold strayS
  go_enter Tryz.func81,Tryz.ntmps81
  cases hb:(hasS bs [60,33] a).1 with
  | true=>
   rw [hb] at hh
   rw [if_pos rfl]
   go_wp2_with (first | (go_at_call 103;refine hh.mono ?_;rintro e w5 ⟨rfl,hb5⟩;have h55:=cellB hb5 h5 (lt_of_cell h5)) | (go_at_call 102;refine (fail_c _ _ _).mono ?_;rintro e w6 ⟨rfl,hb6⟩))
   exact ⟨rfl,rfl,hb5.trans (hb6.mono hb5.size)⟩
  | false=>
   rw [hb] at hh
   rw [if_neg (by decide)]
   go_wp2_with (go_at_call 103;refine hh.mono ?_;rintro e w5 ⟨rfl,hb5⟩)
   go_end0
   exact ⟨rfl,hb5⟩
end Go.Proofs.YtbaokjfhigjpdaaGreatDoorX
end
section
set_option linter.unusedVariables false
namespace Go.Proofs.YtbaokjfhigjpdaaGreatDoorX
open Go.RowKit Go.Shelf Go.Proofs.YtbaokjfhigjpdaaGreatDoor.PXmlBase Go.Proofs.YtbaokjfhigjpdaaGreatDoorW.PrintWords
theorem numberL_le {bs:List Int} {base:Int} (hb:Bytes bs):∀ (k a:Nat) (v v':Int) (e:Nat),a ≤ bs.length → numberL bs base k v a = .ok (v',e) → a ≤ e ∧ e ≤ bs.length
  | 0,a,v,v',e,hle,h=>by
   cases h
   exact ⟨Nat.le_refl _,hle⟩
  | k + 1,a,v,v',e,hle,h=>by
   unfold numberL at h
   cases hq:peekS bs a with
   | error f=>
    rw [hq] at h
    cases h
   | ok r=>
    rw [hq] at h
    simp only at h
    obtain ⟨hs,_,_⟩:=peek_step hb hle hq
    split at h
    ·obtain ⟨h1,h2⟩:=numberL_le hb k _ _ _ _ hs h
     exact ⟨by unfold stepS at h1;omega,h2⟩
    ·cases h
     exact ⟨Nat.le_refl _,hle⟩
theorem digit_big (r base:Int):digitS r base ≤ 15 ∧ -1 ≤ digitS r base:=by
 unfold digitS
 repeat' split
 all_goals omega
theorem digit_end (base:Int):¬ digitS (-1) base ≥ 0:=by
 unfold digitS
 repeat' split
 all_goals omega
end Go.Proofs.YtbaokjfhigjpdaaGreatDoorX
end
section
set_option linter.unusedVariables false
namespace Go.Proofs.YtbaokjfhigjpdaaGreatDoorX
open Go.RowKit Go.Shelf Go.Proofs.YtbaokjfhigjpdaaGreatDoor.PXmlBase Go.Proofs.YtbaokjfhigjpdaaGreatDoorW.PrintWords
set_option maxRecDepth 100000 in
set_option maxHeartbeats 8000000 in
theorem number_c {w:World} {p:Nat} {bs:List Int} {tk a:Nat} (h:PB w p bs tk a) (at_:Nat) :
    Calls Tryz.prog 159 #[.pointer (some ⟨p,0,none⟩),.int .i64 at_] w (OutM w p ((numberS bs at_ a).map fun x=>(Value.int .i32 x.1,x.2))):=by
  have hmu:=must_c h
  have h5:=h.here
  have hlt:=h.lt
  generalize hR:numberS bs at_ a = R
  unfold numberS at hR
  go_enter Tryz.func159,Tryz.ntmps159
  cases hq:mustS bs a with
  | error f=>
   rw [hq] at hR hmu
   subst hR
   go_wp2_with (go_at_call 105;refine hmu.mono ?_;rintro e w5 ⟨rfl,hb5⟩)
   exact ⟨rfl,rfl,a,Mv.of_below hb5 hlt h5⟩
  | ok r=>
   rw [hq] at hR hmu
   simp only at hR
   obtain ⟨hpk,hne⟩:=must_ok hq
   obtain ⟨hs1,_,_⟩:=peek_step h.bytes h.le hpk
   by_cases hx:r = 120
   ·subst hx
    rw [if_pos rfl] at hR
    unfold numberB at hR
    go_wp2_with (first | (have _t:=hmu;go_at_call 105;refine hmu.mono ?_;clear hmu;rintro e w5 ⟨rfl,hb5⟩;have hP5:=h.below hb5;have hm5:=Mv.of_below hb5 hlt h5) | (go_at_call 106;refine (next_ok hP5 hpk).mono ?_;rintro e w6 ⟨rfl,hm6⟩;have hP6:=hP5.moved hm6 hs1;have hm66:=hm5.trans hm6))
    generalize stepS 120 a = b at *
    have h66:=hP6.here
    go_region
    have hP6d:=hP6.below (Below.refl _ w6).drew
    have hm6d:=hm66.then hP6.lt (Below.refl _ w6).drew
    have hle0:=hP6d.le
    generalize hRL:numberL bs 16 (bs.length + 1) 0 b = RL at hR
    cases hq0:peekS bs b with
    | error f=>
     unfold numberL at hRL
     rw [hq0] at hRL
     subst hRL
     subst hR
     have hp0:=peek_c hP6d
     rw [hq0] at hp0
     go_wp2_with (go_at_call 150;refine hp0.mono ?_;rintro e w8 ⟨rfl,hb8⟩)
     exact ⟨rfl,rfl,_,hm6d.then hP6d.lt hb8⟩
    | ok r0=>
     have hp0:=peek_c hP6d
     rw [hq0] at hp0
     have hdg:=fun r w'=>digit_c r 16 w'
     go_wp2_with (first | (have _t:=hp0;go_at_call 150;refine hp0.mono ?_;clear hp0;rintro e w8 ⟨rfl,hb8⟩) | (go_at_call 203;refine (hdg _ _).mono ?_;rintro e w9 ⟨rfl,hb9⟩))
     have hm9:=(hm6d.then hP6d.lt hb8).then (hP6d.below hb8).lt hb9
     go_loopw [6,8] (fun vv dv wr=>∃ (a' k:Nat) (v r:Int),vv = .int .i64 v ∧ dv = .int .i64 (digitS r 16) ∧ Mv w wr p a' ∧ a' ≤ bs.length ∧ bs.length < k + a' ∧ peekS bs a' = .ok r ∧ 0 ≤ v ∧ v ≤ 1114112 ∧ numberL bs 16 k v a' = RL)
       (fun _ _ wr=>bs.length - atOf p wr)
     case atStart=>exact ⟨b,_,0,r0,rfl,rfl,hm9,hle0,by omega,hq0,by omega,by omega,hRL⟩
     case round=>
      rename World=>wq
      obtain ⟨a',k,v,rr,rfl,rfl,hm,h2,h3,hpq,hv0,hv1,hL⟩:=hrel
      have hP:=h.moved hm h2
      obtain ⟨k',rfl⟩:∃ k',k = k' + 1:=⟨k - 1,by omega⟩
      unfold numberL at hL
      rw [hpq] at hL
      simp only at hL
      obtain ⟨hd15,hdm⟩:=digit_big rr 16
      by_cases hd:digitS rr 16 ≥ 0
      ·rw [if_pos hd] at hL
       have hrr:rr ≠ -1:=fun e=>by rw [e] at hd;exact digit_end 16 hd
       have hgt:=step_gt hpq hrr
       obtain ⟨hs2,_,_⟩:=peek_step h.bytes h2 hpq
       have hmin:min (v * 16 + digitS rr 16) 1114112 ≤ 1114112 ∧ 0 ≤ min (v * 16 + digitS rr 16) 1114112:=by omega
       cases hq2:peekS bs (stepS rr a') with
       | error f=>
        obtain ⟨k2,rfl⟩:∃ k2,k' = k2 + 1:=⟨k' - 1,by omega⟩
        unfold numberL at hL
        rw [hq2] at hL
        subst hL
        subst hR
        go_wp2_with (first | (have _t:=hP;go_at_call 106;refine (next_ok hP hpq).mono ?_;rintro e w10 ⟨rfl,hm10⟩;have hP10:=hP.moved hm10 hs2;have hp10:=peek_c hP10;rw [hq2] at hp10) | (have _t:=hp10;go_at_call 150;refine hp10.mono ?_;clear hp10;rintro e w11 ⟨rfl,hb11⟩))
        exact ⟨rfl,rfl,_,(hm.trans hm10).then hP10.lt hb11⟩
       | ok r2=>
        go_wp2_with (first | (have _t:=hP;go_at_call 106;refine (next_ok hP hpq).mono ?_;rintro e w10 ⟨rfl,hm10⟩;have hP10:=hP.moved hm10 hs2;have hp10:=peek_c hP10;rw [hq2] at hp10) | (have _t:=hp10;go_at_call 150;refine hp10.mono ?_;clear hp10;rintro e w11 ⟨rfl,hb11⟩) | (go_at_call 203;refine (hdg _ _).mono ?_;rintro e w12 ⟨rfl,hb12⟩))
        have hm12:=((hm.trans hm10).then hP10.lt hb11).then (hP10.below hb11).lt hb12
        exact ⟨⟨stepS rr a',k',_,r2,rfl,rfl,hm12,hs2,by omega,hq2,hmin.2,hmin.1,hL⟩,by rw [hm12.atOf,hm.atOf];omega⟩
      ·rw [if_neg hd] at hL
       subst hL
       simp only at hR
       unfold numberE at hR
       have hmu3:=must_c hP
       cases hq3:mustS bs a' with
       | error f=>
        rw [hq3] at hmu3 hR
        subst hR
        go_wp2_with (go_at_call 105;refine hmu3.mono ?_;rintro e w13 ⟨rfl,hb13⟩)
        exact ⟨rfl,rfl,_,hm.then hP.lt hb13⟩
       | ok r3=>
        rw [hq3] at hmu3 hR
        simp only at hR
        obtain ⟨hpk3,_⟩:=must_ok hq3
        by_cases hc:r3 ≠ 59
        ·rw [if_pos (.inl hc)] at hR
         subst hR
         have q3:(r3 != 59) = true:=by rw [bne_iff_ne];exact hc
         go_wp2_with (first | (go_at_call 105;refine hmu3.mono ?_;rintro e w13 ⟨rfl,hb13⟩;have hP13:=hP.below hb13) | (go_at_call 118;refine (refuse_c hP13 at_).mono ?_;rintro e w14 ⟨rfl,hb14⟩))
         exact ⟨rfl,rfl,_,(hm.then hP.lt hb13).then hP13.lt hb14⟩
        ·obtain rfl:r3 = 59:=by omega
         by_cases hfr:a' = b
         ·rw [if_pos (.inr (.inl hfr)),hfr] at hR
          subst hR
          have q5:((a':Int) == (b:Int)) = true:=by rw [beq_iff_eq];omega
          go_wp2_with (first | (go_at_call 105;refine hmu3.mono ?_;rintro e w13 ⟨rfl,hb13⟩;have hP13:=hP.below hb13;have h13:=hP13.here) | (go_at_call 118;refine (refuse_c hP13 at_).mono ?_;rintro e w14 ⟨rfl,hb14⟩))
          exact ⟨rfl,rfl,_,(hm.then hP.lt hb13).then hP13.lt hb14⟩
         ·have q5:((a':Int) == (b:Int)) = false:=by rw [beq_eq_false_iff_ne];omega
          have hw32:wrap32 v = v:=by unfold wrap32;omega
          have hch:=fun w'=>char_c v w'
          cases hcv:charB v with
          | false=>
           rw [if_pos (.inr (.inr hcv))] at hR
           rw [hcv] at hch
           subst hR
           go_wp2_with (first | (go_at_call 105;refine hmu3.mono ?_;rintro e w13 ⟨rfl,hb13⟩;have hP13:=hP.below hb13;have h13:=hP13.here) | (go_at_call 152;refine (hch _).mono ?_;rintro e w14 ⟨rfl,hb14⟩;have hP14:=hP13.below hb14) | (go_at_call 118;refine (refuse_c hP14 at_).mono ?_;rintro e w15 ⟨rfl,hb15⟩))
           exact ⟨rfl,rfl,_,((hm.then hP.lt hb13).then hP13.lt hb14).then hP14.lt hb15⟩
          | true=>
           rw [if_neg (by rw [hcv];simp [hfr])] at hR
           rw [hcv] at hch
           subst hR
           go_wp2_with (first | (go_at_call 105;refine hmu3.mono ?_;rintro e w13 ⟨rfl,hb13⟩;have hP13:=hP.below hb13;have h13:=hP13.here) | (go_at_call 152;refine (hch _).mono ?_;rintro e w14 ⟨rfl,hb14⟩;have hP14:=hP13.below hb14) | (go_at_call 106;refine (next_ok hP14 hpk3).mono ?_;rintro e w15 ⟨rfl,hm15⟩))
           go_ret
           exact ⟨rfl,((hm.then hP.lt hb13).then hP13.lt hb14).trans hm15⟩
   ·rw [if_neg hx] at hR
    have q1:(r == 120) = false:=by rw [beq_eq_false_iff_ne];exact hx
    unfold numberB at hR
    go_wp2_with (first | (have _t:=hmu;go_at_call 105;refine hmu.mono ?_;clear hmu;rintro e w5 ⟨rfl,hb5⟩;have hP5:=h.below hb5;have hm5:=Mv.of_below hb5 hlt h5))
    have h55:=hP5.here
    go_region
    have hP5d:=hP5.below (Below.refl _ w5).drew
    have hm5d:=hm5.then hP5.lt (Below.refl _ w5).drew
    have hle0:=hP5d.le
    generalize hRL:numberL bs 10 (bs.length + 1) 0 a = RL at hR
    cases hq0:peekS bs a with
    | error f=>
     unfold numberL at hRL
     rw [hq0] at hRL
     subst hRL
     subst hR
     have hp0:=peek_c hP5d
     rw [hq0] at hp0
     go_wp2_with (go_at_call 150;refine hp0.mono ?_;rintro e w8 ⟨rfl,hb8⟩)
     exact ⟨rfl,rfl,_,hm5d.then hP5d.lt hb8⟩
    | ok r0=>
     have hp0:=peek_c hP5d
     rw [hq0] at hp0
     have hdg:=fun r w'=>digit_c r 10 w'
     go_wp2_with (first | (have _t:=hp0;go_at_call 150;refine hp0.mono ?_;clear hp0;rintro e w8 ⟨rfl,hb8⟩) | (go_at_call 203;refine (hdg _ _).mono ?_;rintro e w9 ⟨rfl,hb9⟩))
     have hm9:=(hm5d.then hP5d.lt hb8).then (hP5d.below hb8).lt hb9
     go_loopw [6,8] (fun vv dv wr=>∃ (a' k:Nat) (v r:Int),vv = .int .i64 v ∧ dv = .int .i64 (digitS r 10) ∧ Mv w wr p a' ∧ a' ≤ bs.length ∧ bs.length < k + a' ∧ peekS bs a' = .ok r ∧ 0 ≤ v ∧ v ≤ 1114112 ∧ numberL bs 10 k v a' = RL)
       (fun _ _ wr=>bs.length - atOf p wr)
     case atStart=>exact ⟨a,_,0,r0,rfl,rfl,hm9,hle0,by omega,hq0,by omega,by omega,hRL⟩
     case round=>
      rename World=>wq
      obtain ⟨a',k,v,rr,rfl,rfl,hm,h2,h3,hpq,hv0,hv1,hL⟩:=hrel
      have hP:=h.moved hm h2
      obtain ⟨k',rfl⟩:∃ k',k = k' + 1:=⟨k - 1,by omega⟩
      unfold numberL at hL
      rw [hpq] at hL
      simp only at hL
      obtain ⟨hd15,hdm⟩:=digit_big rr 10
      by_cases hd:digitS rr 10 ≥ 0
      ·rw [if_pos hd] at hL
       have hrr:rr ≠ -1:=fun e=>by rw [e] at hd;exact digit_end 10 hd
       have hgt:=step_gt hpq hrr
       obtain ⟨hs2,_,_⟩:=peek_step h.bytes h2 hpq
       have hmin:min (v * 10 + digitS rr 10) 1114112 ≤ 1114112 ∧ 0 ≤ min (v * 10 + digitS rr 10) 1114112:=by omega
       cases hq2:peekS bs (stepS rr a') with
       | error f=>
        obtain ⟨k2,rfl⟩:∃ k2,k' = k2 + 1:=⟨k' - 1,by omega⟩
        unfold numberL at hL
        rw [hq2] at hL
        subst hL
        subst hR
        go_wp2_with (first | (have _t:=hP;go_at_call 106;refine (next_ok hP hpq).mono ?_;rintro e w10 ⟨rfl,hm10⟩;have hP10:=hP.moved hm10 hs2;have hp10:=peek_c hP10;rw [hq2] at hp10) | (have _t:=hp10;go_at_call 150;refine hp10.mono ?_;clear hp10;rintro e w11 ⟨rfl,hb11⟩))
        exact ⟨rfl,rfl,_,(hm.trans hm10).then hP10.lt hb11⟩
       | ok r2=>
        go_wp2_with (first | (have _t:=hP;go_at_call 106;refine (next_ok hP hpq).mono ?_;rintro e w10 ⟨rfl,hm10⟩;have hP10:=hP.moved hm10 hs2;have hp10:=peek_c hP10;rw [hq2] at hp10) | (have _t:=hp10;go_at_call 150;refine hp10.mono ?_;clear hp10;rintro e w11 ⟨rfl,hb11⟩) | (go_at_call 203;refine (hdg _ _).mono ?_;rintro e w12 ⟨rfl,hb12⟩))
        have hm12:=((hm.trans hm10).then hP10.lt hb11).then (hP10.below hb11).lt hb12
        exact ⟨⟨stepS rr a',k',_,r2,rfl,rfl,hm12,hs2,by omega,hq2,hmin.2,hmin.1,hL⟩,by rw [hm12.atOf,hm.atOf];omega⟩
      ·rw [if_neg hd] at hL
       subst hL
       simp only at hR
       unfold numberE at hR
       have hmu3:=must_c hP
       cases hq3:mustS bs a' with
       | error f=>
        rw [hq3] at hmu3 hR
        subst hR
        go_wp2_with (go_at_call 105;refine hmu3.mono ?_;rintro e w13 ⟨rfl,hb13⟩)
        exact ⟨rfl,rfl,_,hm.then hP.lt hb13⟩
       | ok r3=>
        rw [hq3] at hmu3 hR
        simp only at hR
        obtain ⟨hpk3,_⟩:=must_ok hq3
        by_cases hc:r3 ≠ 59
        ·rw [if_pos (.inl hc)] at hR
         subst hR
         have q3:(r3 != 59) = true:=by rw [bne_iff_ne];exact hc
         go_wp2_with (first | (go_at_call 105;refine hmu3.mono ?_;rintro e w13 ⟨rfl,hb13⟩;have hP13:=hP.below hb13) | (go_at_call 118;refine (refuse_c hP13 at_).mono ?_;rintro e w14 ⟨rfl,hb14⟩))
         exact ⟨rfl,rfl,_,(hm.then hP.lt hb13).then hP13.lt hb14⟩
        ·obtain rfl:r3 = 59:=by omega
         by_cases hfr:a' = a
         ·rw [if_pos (.inr (.inl hfr)),hfr] at hR
          subst hR
          have q5:((a':Int) == (a:Int)) = true:=by rw [beq_iff_eq];omega
          go_wp2_with (first | (go_at_call 105;refine hmu3.mono ?_;rintro e w13 ⟨rfl,hb13⟩;have hP13:=hP.below hb13;have h13:=hP13.here) | (go_at_call 118;refine (refuse_c hP13 at_).mono ?_;rintro e w14 ⟨rfl,hb14⟩))
          exact ⟨rfl,rfl,_,(hm.then hP.lt hb13).then hP13.lt hb14⟩
         ·have q5:((a':Int) == (a:Int)) = false:=by rw [beq_eq_false_iff_ne];omega
          have hw32:wrap32 v = v:=by unfold wrap32;omega
          have hch:=fun w'=>char_c v w'
          cases hcv:charB v with
          | false=>
           rw [if_pos (.inr (.inr hcv))] at hR
           rw [hcv] at hch
           subst hR
           go_wp2_with (first | (go_at_call 105;refine hmu3.mono ?_;rintro e w13 ⟨rfl,hb13⟩;have hP13:=hP.below hb13;have h13:=hP13.here) | (go_at_call 152;refine (hch _).mono ?_;rintro e w14 ⟨rfl,hb14⟩;have hP14:=hP13.below hb14) | (go_at_call 118;refine (refuse_c hP14 at_).mono ?_;rintro e w15 ⟨rfl,hb15⟩))
           exact ⟨rfl,rfl,_,((hm.then hP.lt hb13).then hP13.lt hb14).then hP14.lt hb15⟩
          | true=>
           rw [if_neg (by rw [hcv];simp [hfr])] at hR
           rw [hcv] at hch
           subst hR
           go_wp2_with (first | (go_at_call 105;refine hmu3.mono ?_;rintro e w13 ⟨rfl,hb13⟩;have hP13:=hP.below hb13;have h13:=hP13.here) | (go_at_call 152;refine (hch _).mono ?_;rintro e w14 ⟨rfl,hb14⟩;have hP14:=hP13.below hb14) | (go_at_call 106;refine (next_ok hP14 hpk3).mono ?_;rintro e w15 ⟨rfl,hm15⟩))
           go_ret
           exact ⟨rfl,((hm.then hP.lt hb13).then hP13.lt hb14).trans hm15⟩
end Go.Proofs.YtbaokjfhigjpdaaGreatDoorX
end
section
set_option linter.unusedVariables false
namespace Go.Proofs.YtbaokjfhigjpdaaGreatDoorX
open Go.RowKit Go.Shelf Go.Proofs.YtbaokjfhigjpdaaGreatDoor.PXmlBase Go.Proofs.YtbaokjfhigjpdaaGreatDoorW.PrintWords
def refL (bs:List Int) (at_ a:Nat):List (List Int × Int) → XR (Int × Nat)
  | []=>match earlyS bs (refWords.map (·.1)) a with
   | some e=>.error e
   | none=>.error (refuseF bs a at_)
  | w :: t=>if (hasS bs w.1 a).1 = true then .ok (w.2,a + w.1.length) else refL bs at_ a t
theorem find_refL (bs:List Int) (at_ a:Nat):∀ l:List (List Int × Int),(match l.find? (fun w=>(hasS bs w.1 a).1) with
    | some w=>Except.ok (w.2,a + w.1.length)
    | none=>match earlyS bs (refWords.map (·.1)) a with
     | some e=>Except.error e
     | none=>Except.error (refuseF bs a at_)) = refL bs at_ a l
  | []=>rfl
  | w :: t=>by
   unfold refL
   cases h:(hasS bs w.1 a).1 with
   | true=>rw [List.find?_cons_of_pos (p:=fun w:List Int × Int=>(hasS bs w.1 a).1) h,if_pos rfl]
   | false=>
    rw [List.find?_cons_of_neg (p:=fun w:List Int × Int=>(hasS bs w.1 a).1) (by simp only [h];decide),if_neg (by decide)]
    exact find_refL bs at_ a t
theorem refS_L (bs:List Int) (at_ a:Nat):refS bs at_ a = refL bs at_ a refWords:=find_refL bs at_ a refWords
def refB:List ByteArray:=[(⟨#[108,116,59]⟩:ByteArray),(⟨#[103,116,59]⟩:ByteArray),(⟨#[97,109,112,59]⟩:ByteArray),(⟨#[113,117,111,116,59]⟩:ByteArray),(⟨#[97,112,111,115,59]⟩:ByteArray)]
set_option maxRecDepth 100000 in
set_option maxHeartbeats 8000000 in
theorem reference_c {w:World} {p:Nat} {bs:List Int} {tk a:Nat} (h:PB w p bs tk a) :
    Calls Tryz.prog 111 #[.pointer (some ⟨p,0,none⟩)] w (OutM w p ((referenceS bs a).map fun x=>(Value.int .i32 x.1,x.2))):=by
  have h5:=h.here
  have hlt:=h.lt
  generalize hR:referenceS bs a = R
  unfold referenceS nextS at hR
  go_enter Tryz.func111,Tryz.ntmps111
  have hm0:=Mv.of_below (Below.refl _ w) hlt h5
  have hP0:=h
  have t0:=True.intro
  go_wp2_with (first
   | (
    have _t:=t0
    go_at_call 106
    clear _t
    have hn:=next_c hP0
    unfold nextS at hn
    refine hn.mono ?_
    clear hn t0
    rintro e w1 he
    rcases hq1:peekS bs (a) with f | r1
    ·rw [hq1] at hR he
     subst hR
     obtain ⟨rfl,a5,hmx⟩:=he
     go_wp2
     exact ⟨rfl,rfl,_,hm0.trans hmx⟩
    rw [hq1] at hR he
    obtain ⟨rfl,hmx⟩:=he
    have hm1:=hm0.trans hmx
    have hle1:=(peek_step h.bytes (h.le) hq1).1
    have hP1:=h.moved hm1 hle1
    clear hmx
    simp only at hR
    have t1:=True.intro)
   | (
    have _t:=t1
    go_at_call 105
    clear _t
    have hn:=must_c hP1
    refine hn.mono ?_
    clear hn t1
    rintro e w2 he
    rcases hq2:mustS bs (stepS r1 a) with f | r2
    ·rw [hq2] at hR he
     subst hR
     obtain ⟨rfl,hbx⟩:=he
     go_wp2
     exact ⟨rfl,rfl,_,hm1.then hP1.lt hbx⟩
    rw [hq2] at hR he
    obtain ⟨rfl,hbx⟩:=he
    have hm2:=hm1.then hP1.lt hbx
    have hP2:=hP1.below hbx
    clear hbx
    simp only at hR
    have hpk2:=(must_ok hq2).1
    have hrl2:=must_real hq2
    by_cases hx:r2 = 35
    ·subst hx
     rw [if_pos rfl] at hR
     have t2:=True.intro
     go_wp2_with (first
      | (
       have _t:=t2
       go_at_call 106
       clear _t
       refine (next_ok hP2 (hpk2)).mono ?_
       clear t2
       rintro e w3 ⟨rfl,hmx⟩
       have hm3:=hm2.trans hmx
       have hle3:=(peek_step h.bytes (hle1) (hpk2)).1
       have hP3:=h.moved hm3 hle3
       clear hmx
       have t3:=True.intro)
      | (
       have _t:=t3
       go_at_call 159
       clear _t
       refine (number_c hP3 a).mono ?_
       clear t3
       rintro e w4 he
       rcases hq4:numberS bs a (stepS 35 (stepS r1 a)) with f | ⟨v,a4⟩
       ·rw [hq4] at hR he
        subst hR
        obtain ⟨rfl,a5,hmx⟩:=he
        go_wp2
        exact ⟨rfl,rfl,_,hm3.trans hmx⟩
       rw [hq4] at hR he
       subst hR
       obtain ⟨rfl,hmx⟩:=he
       go_wp2
       go_ret
       exact ⟨rfl,hm3.trans hmx⟩))
    have q1:(r2 == 35) = false:=by rw [beq_eq_false_iff_ne];exact hx
    rw [if_neg hx] at hR))
  rw [refS_L] at hR
  generalize stepS r1 a = b at *
  have hgp:w2.heap.size ≠ p:=fun e=>absurd hP2.lt (by omega)
  have hcw:∀ j (hj:j < 5),(w2.alloc (.cells #[.string (⟨#[108,116,59]⟩:ByteArray),.string (⟨#[103,116,59]⟩:ByteArray),.string (⟨#[97,109,112,59]⟩:ByteArray),.string (⟨#[113,117,111,116,59]⟩:ByteArray),.string (⟨#[97,112,111,115,59]⟩:ByteArray)] 9)).cell? ⟨w2.heap.size,j,none⟩ = some (.string (refB[j]'hj)):=by
   intro j hj
   unfold World.cell?
   rw [heap_alloc_new]
   match j,hj with
   | 0,_=>rfl
   | 1,_=>rfl
   | 2,_=>rfl
   | 3,_=>rfl
   | 4,_=>rfl
  have hm3:=hm2.then hP2.lt ((Below.refl w2.heap.size w2).alloc (Nat.le_refl _) (.cells #[.string (⟨#[108,116,59]⟩:ByteArray),.string (⟨#[103,116,59]⟩:ByteArray),.string (⟨#[97,109,112,59]⟩:ByteArray),.string (⟨#[113,117,111,116,59]⟩:ByteArray),.string (⟨#[97,112,111,115,59]⟩:ByteArray)] 9))
  have hP3:=h.moved hm3 hle1
  have hsz:w2.heap.size < (w2.alloc (.cells #[.string (⟨#[108,116,59]⟩:ByteArray),.string (⟨#[103,116,59]⟩:ByteArray),.string (⟨#[97,109,112,59]⟩:ByteArray),.string (⟨#[113,117,111,116,59]⟩:ByteArray),.string (⟨#[97,112,111,115,59]⟩:ByteArray)] 9)).heap.size:=by simp
  generalize (w2.alloc (.cells #[.string (⟨#[108,116,59]⟩:ByteArray),.string (⟨#[103,116,59]⟩:ByteArray),.string (⟨#[97,109,112,59]⟩:ByteArray),.string (⟨#[113,117,111,116,59]⟩:ByteArray),.string (⟨#[97,112,111,115,59]⟩:ByteArray)] 9)) = w3 at *
  go_loopw [24] (fun i wr=>∃ k:Nat,k ≤ 5 ∧ i = .int .i64 k ∧ Mv w3 wr p b ∧ refL bs a b (refWords.drop k) = R) (fun i _=>5 - (intOf i).toNat)
  case atStart=>exact ⟨0,by omega,rfl,Mv.of_below (Below.refl _ w3) hP3.lt hP3.here,hR⟩
  case round=>
   rename World=>wq
   obtain ⟨k,hk,rfl,hmq,hL⟩:=hrel
   have hPq:=hP3.moved hmq hle1
   have hcq:∀ j (hj:j < 5),wq.cell? ⟨w2.heap.size,j,none⟩ = some (.string (refB[j]'hj)):=fun j hj=>(World.cell?_of_block (hmq.block _ hsz hgp)).trans (hcw j hj)
   obtain rfl | rfl | rfl | rfl | rfl | rfl:k = 0 ∨ k = 1 ∨ k = 2 ∨ k = 3 ∨ k = 4 ∨ k = 5:=by omega
   ·have hck:wq.cell? ⟨w2.heap.size,0,none⟩ = some (.string (⟨#[108,116,59]⟩:ByteArray)):=hcq 0 (by decide)
    have htk:=takes_c hPq (⟨#[108,116,59]⟩:ByteArray) (by decide)
    rw [show bytesOf (⟨#[108,116,59]⟩:ByteArray) = [108,116,59] from rfl] at htk
    unfold takesS at htk
    change refL bs a b (([108,116,59],60) :: refWords.drop 1) = R at hL
    unfold refL at hL
    cases hh:(hasS bs [108,116,59] b).1 with
    | true=>
     rw [if_pos hh] at htk hL
     subst hL
     go_wp2_with (go_at_call 114;refine htk.mono ?_;rintro e w5 ⟨rfl,hmx⟩)
     go_ret
     exact ⟨congrArg (fun z=>Ending.returned (.int .i32 z)) (show wrap32 60 = 60 by decide +kernel),(hm3.trans hmq).trans hmx⟩
    | false=>
     rw [if_neg (by rw [hh];decide)] at htk hL
     go_wp2_with (go_at_call 114;refine htk.mono ?_;rintro e w5 ⟨rfl,hmx⟩)
     exact ⟨⟨1,by omega,rfl,hmq.trans hmx,hL⟩,by simp [intOf]⟩
   ·have hck:wq.cell? ⟨w2.heap.size,1,none⟩ = some (.string (⟨#[103,116,59]⟩:ByteArray)):=hcq 1 (by decide)
    have htk:=takes_c hPq (⟨#[103,116,59]⟩:ByteArray) (by decide)
    rw [show bytesOf (⟨#[103,116,59]⟩:ByteArray) = [103,116,59] from rfl] at htk
    unfold takesS at htk
    change refL bs a b (([103,116,59],62) :: refWords.drop 2) = R at hL
    unfold refL at hL
    cases hh:(hasS bs [103,116,59] b).1 with
    | true=>
     rw [if_pos hh] at htk hL
     subst hL
     go_wp2_with (go_at_call 114;refine htk.mono ?_;rintro e w5 ⟨rfl,hmx⟩)
     go_ret
     exact ⟨congrArg (fun z=>Ending.returned (.int .i32 z)) (show wrap32 62 = 62 by decide +kernel),(hm3.trans hmq).trans hmx⟩
    | false=>
     rw [if_neg (by rw [hh];decide)] at htk hL
     go_wp2_with (go_at_call 114;refine htk.mono ?_;rintro e w5 ⟨rfl,hmx⟩)
     exact ⟨⟨2,by omega,rfl,hmq.trans hmx,hL⟩,by simp [intOf]⟩
   ·have hck:wq.cell? ⟨w2.heap.size,2,none⟩ = some (.string (⟨#[97,109,112,59]⟩:ByteArray)):=hcq 2 (by decide)
    have htk:=takes_c hPq (⟨#[97,109,112,59]⟩:ByteArray) (by decide)
    rw [show bytesOf (⟨#[97,109,112,59]⟩:ByteArray) = [97,109,112,59] from rfl] at htk
    unfold takesS at htk
    change refL bs a b (([97,109,112,59],38) :: refWords.drop 3) = R at hL
    unfold refL at hL
    cases hh:(hasS bs [97,109,112,59] b).1 with
    | true=>
     rw [if_pos hh] at htk hL
     subst hL
     go_wp2_with (go_at_call 114;refine htk.mono ?_;rintro e w5 ⟨rfl,hmx⟩)
     go_ret
     exact ⟨congrArg (fun z=>Ending.returned (.int .i32 z)) (show wrap32 38 = 38 by decide +kernel),(hm3.trans hmq).trans hmx⟩
    | false=>
     rw [if_neg (by rw [hh];decide)] at htk hL
     go_wp2_with (go_at_call 114;refine htk.mono ?_;rintro e w5 ⟨rfl,hmx⟩)
     exact ⟨⟨3,by omega,rfl,hmq.trans hmx,hL⟩,by simp [intOf]⟩
   ·have hck:wq.cell? ⟨w2.heap.size,3,none⟩ = some (.string (⟨#[113,117,111,116,59]⟩:ByteArray)):=hcq 3 (by decide)
    have htk:=takes_c hPq (⟨#[113,117,111,116,59]⟩:ByteArray) (by decide)
    rw [show bytesOf (⟨#[113,117,111,116,59]⟩:ByteArray) = [113,117,111,116,59] from rfl] at htk
    unfold takesS at htk
    change refL bs a b (([113,117,111,116,59],34) :: refWords.drop 4) = R at hL
    unfold refL at hL
    cases hh:(hasS bs [113,117,111,116,59] b).1 with
    | true=>
     rw [if_pos hh] at htk hL
     subst hL
     go_wp2_with (go_at_call 114;refine htk.mono ?_;rintro e w5 ⟨rfl,hmx⟩)
     go_ret
     exact ⟨congrArg (fun z=>Ending.returned (.int .i32 z)) (show wrap32 34 = 34 by decide +kernel),(hm3.trans hmq).trans hmx⟩
    | false=>
     rw [if_neg (by rw [hh];decide)] at htk hL
     go_wp2_with (go_at_call 114;refine htk.mono ?_;rintro e w5 ⟨rfl,hmx⟩)
     exact ⟨⟨4,by omega,rfl,hmq.trans hmx,hL⟩,by simp [intOf]⟩
   ·have hck:wq.cell? ⟨w2.heap.size,4,none⟩ = some (.string (⟨#[97,112,111,115,59]⟩:ByteArray)):=hcq 4 (by decide)
    have htk:=takes_c hPq (⟨#[97,112,111,115,59]⟩:ByteArray) (by decide)
    rw [show bytesOf (⟨#[97,112,111,115,59]⟩:ByteArray) = [97,112,111,115,59] from rfl] at htk
    unfold takesS at htk
    change refL bs a b (([97,112,111,115,59],39) :: refWords.drop 5) = R at hL
    unfold refL at hL
    cases hh:(hasS bs [97,112,111,115,59] b).1 with
    | true=>
     rw [if_pos hh] at htk hL
     subst hL
     go_wp2_with (go_at_call 114;refine htk.mono ?_;rintro e w5 ⟨rfl,hmx⟩)
     go_ret
     exact ⟨congrArg (fun z=>Ending.returned (.int .i32 z)) (show wrap32 39 = 39 by decide +kernel),(hm3.trans hmq).trans hmx⟩
    | false=>
     rw [if_neg (by rw [hh];decide)] at htk hL
     go_wp2_with (go_at_call 114;refine htk.mono ?_;rintro e w5 ⟨rfl,hmx⟩)
     exact ⟨⟨5,by omega,rfl,hmq.trans hmx,hL⟩,by simp [intOf]⟩
   · have hea:Calls Tryz.prog 117 #[.pointer (some ⟨p,0,none⟩),.slice (some ⟨w2.heap.size,0,none⟩) 5 5] wq fun e W'=>OutE (earlyS bs [[108,116,59],[103,116,59],[97,109,112,59],[113,117,111,116,59],[97,112,111,115,59]] b) e ∧ Below wq.heap.size wq W' :=
       early_c hPq w2.heap.size 5 refB (by decide) hcq (by decide)
     change (match earlyS bs [[108,116,59],[103,116,59],[97,109,112,59],[113,117,111,116,59],[97,112,111,115,59]] b with
      | some e=>Except.error e
      | none=>Except.error (refuseF bs b a)) = R at hL
     cases he:earlyS bs [[108,116,59],[103,116,59],[97,109,112,59],[113,117,111,116,59],[97,112,111,115,59]] b with
     | some f=>
      rw [he] at hL hea
      subst hL
      go_wp2_with (go_at_call 117;refine hea.mono ?_;rintro e w5 ⟨rfl,hbx⟩)
      exact ⟨rfl,rfl,_,(hm3.trans hmq).then hPq.lt hbx⟩
     | none=>
      rw [he] at hL hea
      subst hL
      go_wp2_with (first | (go_at_call 117;refine hea.mono ?_;rintro e w5 ⟨rfl,hbx⟩;have hPx:=hPq.below hbx) | (go_at_call 118;refine (refuse_c hPx a).mono ?_;rintro e w6 ⟨rfl,hby⟩))
      exact ⟨rfl,rfl,_,((hm3.trans hmq).then hPq.lt hbx).then hPx.lt hby⟩
end Go.Proofs.YtbaokjfhigjpdaaGreatDoorX
end
section
set_option linter.unusedVariables false
namespace Go.Proofs.YtbaokjfhigjpdaaGreatDoorX
open Go.RowKit Go.Shelf Go.Proofs.YtbaokjfhigjpdaaGreatDoor.PXmlBase Go.Proofs.YtbaokjfhigjpdaaGreatDoorW.PrintWords
theorem step_ge (r:Int) (a:Nat):a ≤ stepS r a:=Nat.le_add_right _ _
theorem must_step {bs:List Int} {a:Nat} {r:Int} (hb:Bytes bs) (hle:a ≤ bs.length) (h:mustS bs a = .ok r):a < stepS r a ∧ stepS r a ≤ bs.length :=
  ⟨step_gt (must_ok h).1 (must_real h),(peek_step hb hle (must_ok h).1).1⟩
theorem next_le {bs:List Int} {a:Nat} {x:Int × Nat} (hb:Bytes bs) (hle:a ≤ bs.length) (h:nextS bs a = .ok x):a ≤ x.2 ∧ x.2 ≤ bs.length:=by
 unfold nextS at h
 split at h
 · cases h
 ·rename_i r hq
  cases h
  exact ⟨step_ge _ _,(peek_step hb hle hq).1⟩
theorem white_le {bs:List Int} {a e:Nat} (hb:Bytes bs) (hle:a ≤ bs.length) (h:whiteS bs a = .ok e):a ≤ e ∧ e ≤ bs.length:=whiteL_le hb _ _ _ hle h
theorem nameL_le {bs:List Int} {tk a0:Nat} (hb:Bytes bs):∀ (k a e:Nat),a ≤ bs.length → nameL bs tk a0 k a = .ok e → a ≤ e ∧ e ≤ bs.length
  | 0,a,e,hle,h=>by
   cases h
   exact ⟨Nat.le_refl _,hle⟩
  | k + 1,a,e,hle,h=>by
   unfold nameL at h
   cases hq:peekS bs a with
   | error f=>
    rw [hq] at h
    cases h
   | ok r=>
    rw [hq] at h
    simp only at h
    obtain ⟨hs,_,_⟩:=peek_step hb hle hq
    split at h
    ·split at h
     · cases h
     ·obtain ⟨h1,h2⟩:=nameL_le hb k _ _ hs h
      exact ⟨by have:=step_ge r a;omega,h2⟩
    ·cases h
     exact ⟨Nat.le_refl _,hle⟩
theorem name_le {bs:List Int} {tk a:Nat} {x:List Int × Nat} (hb:Bytes bs) (hle:a ≤ bs.length) (h:nameS bs tk a = .ok x):a ≤ x.2 ∧ x.2 ≤ bs.length:=by
 unfold nameS at h
 split at h
 · cases h
 ·split at h
  ·split at h
   · cases h
   ·rename_i e he
    cases h
    exact nameL_le hb _ _ _ hle he
  · cases h
theorem numberE_le {bs:List Int} {at_ fr a:Nat} {v:Int} {x:Int × Nat} (hb:Bytes bs) (hle:a ≤ bs.length) (h:numberE bs at_ fr v a = .ok x):a < x.2 ∧ x.2 ≤ bs.length ∧ charB x.1 = true:=by
 unfold numberE at h
 split at h
 · cases h
 ·rename_i r hq
  split at h
  · cases h
  ·rename_i hn
   cases h
   refine ⟨(must_step hb hle hq).1,(must_step hb hle hq).2,?_⟩
   cases hc:charB v with
   | true=>rfl
   | false=>exact absurd (.inr (.inr hc)) hn
theorem numberB_le {bs:List Int} {at_ a:Nat} {base:Int} {x:Int × Nat} (hb:Bytes bs) (hle:a ≤ bs.length) (h:numberB bs at_ base a = .ok x):a < x.2 ∧ x.2 ≤ bs.length ∧ charB x.1 = true:=by
 unfold numberB at h
 split at h
 · cases h
 ·rename_i v e hn
  obtain ⟨h1,h2⟩:=numberL_le hb _ _ _ _ _ hle hn
  obtain ⟨h3,h4,h5⟩:=numberE_le hb h2 h
  exact ⟨by omega,h4,h5⟩
theorem number_le {bs:List Int} {at_ a:Nat} {x:Int × Nat} (hb:Bytes bs) (hle:a ≤ bs.length) (h:numberS bs at_ a = .ok x):a < x.2 ∧ x.2 ≤ bs.length ∧ charB x.1 = true:=by
 unfold numberS at h
 split at h
 · cases h
 ·rename_i r hq
  split at h
  ·obtain ⟨h1,h2⟩:=must_step hb hle hq
   obtain ⟨h3,h4,h5⟩:=numberB_le hb h2 h
   exact ⟨by omega,h4,h5⟩
  · exact numberB_le hb hle h
theorem ref_le {bs:List Int} {at_ a:Nat} {x:Int × Nat} (hb:Bytes bs) (hle:a ≤ bs.length) (h:refS bs at_ a = .ok x):a < x.2 ∧ x.2 ≤ bs.length ∧ charB x.1 = true:=by
 unfold refS at h
 split at h
 ·rename_i w hf
  cases h
  have hm:=List.mem_of_find?_eq_some hf
  have hp:=List.find?_some hf
  have hl:=has_le hle hp
  simp only [refWords,List.mem_cons,List.not_mem_nil,or_false] at hm
  rcases hm with rfl | rfl | rfl | rfl | rfl
  all_goals (refine ⟨by simp,hl,?_⟩;show charB _ = true;dsimp only;decide)
 · split at h <;> cases h
theorem reference_le {bs:List Int} {a:Nat} {x:Int × Nat} (hb:Bytes bs) (hle:a ≤ bs.length) (h:referenceS bs a = .ok x):a < x.2 ∧ x.2 ≤ bs.length ∧ charB x.1 = true:=by
 unfold referenceS at h
 split at h
 · cases h
 ·rename_i r1 a1 h1
  obtain ⟨h2,h3⟩:=next_le hb hle h1
  split at h
  · cases h
  ·rename_i r hq
   split at h
   ·obtain ⟨h4,h5⟩:=must_step hb h3 hq
    obtain ⟨h6,h7,h8⟩:=number_le hb h5 h
    exact ⟨by simp only at *;omega,h7,h8⟩
   ·obtain ⟨h6,h7,h8⟩:=ref_le hb h3 h
    exact ⟨by simp only at *;omega,h7,h8⟩
theorem quote_le {bs:List Int} {a:Nat} {x:Int × Nat} (hb:Bytes bs) (hle:a ≤ bs.length) (h:quoteS bs a = .ok x):a ≤ x.2 ∧ x.2 ≤ bs.length ∧ peekS bs a = .ok x.1 ∧ (x.1 = 34 ∨ x.1 = 39):=by
 unfold quoteS at h
 split at h
 · cases h
 ·rename_i r hq
  split at h
  · cases h
  ·rename_i hn
   cases h
   exact ⟨step_ge _ _,(peek_step hb hle hq).1,hq,by omega⟩
theorem cr_le {bs:List Int} {r:Int} {a e:Nat} (hb:Bytes bs) (hle:a ≤ bs.length) (h:crS bs r a = .ok e):a ≤ e ∧ e ≤ bs.length:=by
 unfold crS at h
 split at h
 ·split at h
  · cases h
  ·rename_i r2 hq
   split at h
   ·cases h
    exact ⟨step_ge _ _,(peek_step hb hle hq).1⟩
   ·cases h
    exact ⟨Nat.le_refl _,hle⟩
 ·cases h
  exact ⟨Nat.le_refl _,hle⟩
theorem valueStep_le {bs:List Int} {q:Int} {a:Nat} {x:Option Int × Nat} (hb:Bytes bs) (hle:a ≤ bs.length) (h:valueStep bs q a = .ok x):a < x.2 ∧ x.2 ≤ bs.length:=by
 unfold valueStep at h
 split at h
 · cases h
 ·rename_i r hq
  obtain ⟨h4,h5⟩:=must_step hb hle hq
  split at h
  ·cases h
   exact ⟨h4,h5⟩
  ·split at h
   · cases h
   ·split at h
    ·split at h
     · cases h
     ·rename_i hr
      cases h
      obtain ⟨h6,h7,_⟩:=reference_le hb hle hr
      exact ⟨h6,h7⟩
    ·split at h
     · cases h
     ·rename_i hr
      cases h
      obtain ⟨h6,h7⟩:=cr_le hb h5 hr
      exact ⟨by simp only;omega,h7⟩
theorem valueL_le {bs:List Int} {tk a0:Nat} {q:Int} (hb:Bytes bs):∀ (k:Nat) (out:List Int) (a:Nat) (x:List Int × Nat),a ≤ bs.length → valueL bs tk a0 q k out a = .ok x → a ≤ x.2 ∧ x.2 ≤ bs.length
  | 0,out,a,x,hle,h=>by
   cases h
   exact ⟨Nat.le_refl _,hle⟩
  | k + 1,out,a,x,hle,h=>by
   unfold valueL at h
   split at h
   · cases h
   ·rename_i a1 hs
    cases h
    obtain ⟨h1,h2⟩:=valueStep_le hb hle hs
    exact ⟨by simp only at *;omega,h2⟩
   ·rename_i c a1 hs
    obtain ⟨h1,h2⟩:=valueStep_le hb hle hs
    split at h
    · cases h
    ·obtain ⟨h3,h4⟩:=valueL_le hb k _ _ _ h2 h
     exact ⟨by simp only at *;omega,h4⟩
theorem value_le {bs:List Int} {tk a:Nat} {x:List Int × Nat} (hb:Bytes bs) (hle:a ≤ bs.length) (h:valueS bs tk a = .ok x):a ≤ x.2 ∧ x.2 ≤ bs.length:=by
 unfold valueS at h
 split at h
 · cases h
 ·rename_i q a1 hq
  obtain ⟨h1,h2,_⟩:=quote_le hb hle hq
  obtain ⟨h3,h4⟩:=valueL_le hb _ _ _ _ h2 h
  exact ⟨by simp only at *;omega,h4⟩
theorem eq_le {bs:List Int} {a e:Nat} (hb:Bytes bs) (hle:a ≤ bs.length) (h:eqS bs a = .ok e):a < e ∧ e ≤ bs.length:=by
 unfold eqS at h
 split at h
 · cases h
 ·rename_i a1 h1
  obtain ⟨h2,h3⟩:=white_le hb hle h1
  split at h
  · cases h
  ·rename_i r hq
   obtain ⟨h4,h5⟩:=must_step hb h3 hq
   split at h
   · cases h
   ·obtain ⟨h6,h7⟩:=white_le hb h5 h
    exact ⟨by omega,h7⟩
theorem want_le {bs w:List Int} {a e:Nat} (hle:a ≤ bs.length) (h:wantS bs w a = .ok e):a ≤ e ∧ e ≤ bs.length:=by
 unfold wantS at h
 split at h
 ·rename_i hh
  cases h
  exact ⟨Nat.le_add_right _ _,has_le hle hh⟩
 · split at h <;> cases h
theorem noteL_le {bs:List Int} (hb:Bytes bs):∀ (k a e:Nat),a ≤ bs.length → noteL bs k a = .ok e → a ≤ e ∧ e ≤ bs.length
  | 0,a,e,hle,h=>by
   cases h
   exact ⟨Nat.le_refl _,hle⟩
  | k + 1,a,e,hle,h=>by
   unfold noteL at h
   split at h
   · cases h
   ·split at h
    ·rename_i hh
     have h2:a + 2 ≤ bs.length:=has_le hle hh
     split at h
     · cases h
     ·rename_i r hq
      obtain ⟨h4,h5⟩:=must_step hb h2 hq
      split at h
      · cases h
      ·cases h
       exact ⟨by omega,h5⟩
    ·split at h
     · cases h
     ·rename_i x a1 hx
      obtain ⟨h4,h5⟩:=next_le hb hle hx
      obtain ⟨h6,h7⟩:=noteL_le hb k _ _ h5 h
      exact ⟨by simp only at *;omega,h7⟩
theorem note_le {bs:List Int} {a e:Nat} (hb:Bytes bs) (hle:a ≤ bs.length) (h:noteS bs a = .ok e):a ≤ e ∧ e ≤ bs.length:=noteL_le hb _ _ _ hle h
theorem untilL_le {bs w:List Int} (hb:Bytes bs):∀ (k a e:Nat),a ≤ bs.length → untilL bs w k a = .ok e → a ≤ e ∧ e ≤ bs.length
  | 0,a,e,hle,h=>by
   cases h
   exact ⟨Nat.le_refl _,hle⟩
  | k + 1,a,e,hle,h=>by
   unfold untilL at h
   split at h
   ·rename_i hh
    cases h
    exact ⟨Nat.le_add_right _ _,has_le hle hh⟩
   ·split at h
    · cases h
    ·rename_i r hq
     obtain ⟨h4,h5⟩:=must_step hb hle hq
     obtain ⟨h6,h7⟩:=untilL_le hb k _ _ h5 h
     exact ⟨by omega,h7⟩
theorem instruction_le {bs:List Int} {tk a e:Nat} (hb:Bytes bs) (hle:a ≤ bs.length) (h:instructionS bs tk a = .ok e):a ≤ e ∧ e ≤ bs.length:=by
 unfold instructionS at h
 split at h
 · cases h
 ·split at h
  · cases h
  ·rename_i n a1 hn
   obtain ⟨h1,h2⟩:=name_le hb hle hn
   simp only at h1 h2
   split at h
   · cases h
   ·split at h
    ·rename_i hh
     have:=has_le h2 hh
     cases h
     exact ⟨by omega,this⟩
    ·split at h
     · cases h
     ·split at h
      · cases h
      ·rename_i a2 hw
       obtain ⟨h3,h4⟩:=white_le hb h2 hw
       split at h
       · cases h
       ·obtain ⟨h6,h7⟩:=untilL_le hb _ _ _ h4 h
        exact ⟨by omega,h7⟩
end Go.Proofs.YtbaokjfhigjpdaaGreatDoorX
end
section
set_option linter.unusedVariables false
namespace Go.Proofs.YtbaokjfhigjpdaaGreatDoorX
open Go.RowKit Go.Shelf Go.Proofs.YtbaokjfhigjpdaaGreatDoor.PXmlBase Go.Proofs.YtbaokjfhigjpdaaGreatDoorW.PrintWords
theorem own_mv {w w':World} {p a base n e size:Nat} {v:Value} {xs:List Value} (h:w.ownsRow base e size v n xs) (hm:Mv w w' p a) (hp:p < base):w'.ownsRow base e size v n xs :=
  own_move h (fun k hk=>hm.block k (own_lt h k hk) (by have:=own_base h k hk;omega))
theorem own_below {w w':World} {base n e size:Nat} {v:Value} {xs:List Value} (h:w.ownsRow base e size v n xs) (hb:Below w.heap.size w w'):w'.ownsRow base e size v n xs :=
  own_move h (fun k hk=>hb.block k (own_lt h k hk))
theorem enc_own (r:Int) (w:World):Calls Tryz.prog 151 #[.int .i32 r] w fun e w'=>∃ A c,e = .returned (.slice A (encC r).length c) ∧ ReadsInt w' .u8 A (encC r).length (encC r) ∧ Below w.heap.size w w' :=
  (encode_c r w).mono fun e w' ⟨v,he,hr,hb⟩=>by
   obtain ⟨A,c,rfl,h1⟩:=own_reads (Kd.own_of_R hr)
   exact ⟨A,c,he,h1,hb⟩
theorem Mv.then' {a b c:World} {p x:Nat} (h:Mv a b p x) (hp:p < a.heap.size) (hb:Below a.heap.size b c):Mv a c p x :=
  ⟨hb.os.trans h.os,hb.tape.trans h.tape,hb.output.trans h.output,Nat.le_trans h.size hb.size,fun k hk hkp=>(hb.block k hk).trans (h.block k hk hkp),fun i hi=>(World.cell?_of_block (hb.block p hp)).trans (h.cell i hi),fun i=>(World.frozen?_of_block (hb.block p hp)).trans (h.frz i),(World.cell?_of_block (hb.block p hp)).trans h.here⟩
theorem enc_four (r:Int):(encC r).length ≤ 4:=by
 unfold encC
 repeat' split
 all_goals (simp only [List.length_cons,List.length_nil];omega)
theorem conv_own {w:World} {base n:Nat} {v:Value} {xs:List Int} (h:w.ownsRow base 5 1 v n (nums .u8 xs)):∃ A c,v = .slice A n c ∧ (convert 33 9 (.slice A n c)).run Tryz.prog w = .ok (.string (strOfNums xs)) w:=by
 obtain ⟨A,c,rfl,hr⟩:=own_reads h
 exact ⟨A,c,rfl,string_of_reads Tryz.underlying33 Tryz.underlying5 Tryz.underlying9 hr⟩
theorem own_slice {w:World} {base n:Nat} {v:Value} {xs:List Int} (h:w.ownsRow base 5 1 v n (nums .u8 xs)):∃ A c,v = .slice A n c:=by
 obtain ⟨A,c,rfl,_⟩:=own_reads h
 exact ⟨A,c,rfl⟩
theorem enc_bytes (r:Int):Bytes (encC r):=by
 intro x hx
 unfold encC at hx
 repeat' split at hx
 all_goals
  simp only [List.mem_cons,List.mem_nil_iff,or_false,List.not_mem_nil] at hx
  try omega
set_option maxRecDepth 100000 in
set_option maxHeartbeats 8000000 in
theorem value_c {w:World} {p:Nat} {bs:List Int} {tk a:Nat} (h:PB w p bs tk a) (htk:tk ≤ 1099511627776) :
    Calls Tryz.prog 200 #[.pointer (some ⟨p,0,none⟩)] w (OutM w p ((valueS bs tk a).map fun x=>(Value.string (strOfNums x.1),x.2))):=by
  have h5:=h.here
  have hlt:=h.lt
  generalize hR:valueS bs tk a = R
  unfold valueS at hR
  go_enter Tryz.func200,Tryz.ntmps200
  have hm0:=Mv.of_below (Below.refl _ w) hlt h5
  have hP0:=h
  have t0:=True.intro
  go_wp2_with (first
   | (
    have _t:=t0
    go_at_call 195
    go_loud (
     clear _t
     have hn:=quote_c hP0
     refine hn.mono ?_
     clear hn t0
     rintro e w1 he
     rcases hq1:quoteS bs a with f | ⟨q,a1⟩
     ·rw [hq1] at hR he
      subst hR
      obtain ⟨rfl,a5,hmx⟩:=he
      go_wp2
      exact ⟨rfl,rfl,_,hm0.trans hmx⟩
     rw [hq1] at hR he
     obtain ⟨rfl,hmx⟩:=he
     have hm1:=hm0.trans hmx
     have hle1:=(quote_le h.bytes h.le hq1).2.1
     have hP1:=h.moved hm1 hle1
     clear hmx
     (try simp only at hR)
     have t1:=True.intro)))
  have hO1:w1.ownsRow w.heap.size 5 1 (.slice none 0 0) ([]:List Int).length (nums .u8 []):=World.ownsRow_nil _ _ _ _
  go_loopw [5] (fun v wr=>∃ (a' k:Nat) (out:List Int),Mv w wr p a' ∧ a' ≤ bs.length ∧ bs.length < k + a' ∧ wr.ownsRow w.heap.size 5 1 v out.length (nums .u8 out) ∧ out.length ≤ tk ∧ Bytes out ∧ valueL bs tk a q k out a' = R) (fun _ wr=>bs.length - atOf p wr)
  case atStart=>exact ⟨a1,bs.length + 1,[],hm1,hle1,by omega,hO1,Nat.zero_le _,(by intro x hx;cases hx),hR⟩
  case round=>
   rename World=>wq
   obtain ⟨a',k,out,hm10,hle10,h3,hO10,hol,hob,hR⟩:=hrel
   have hP10:=h.moved hm10 hle10
   obtain ⟨k',rfl⟩:∃ k',k = k' + 1:=⟨k - 1,by omega⟩
   unfold valueL valueStep at hR
   have t10:=True.intro
   go_wp2_with (first
    | (
     have _t:=t10
     go_at_call 105
     go_loud (
      clear _t
      have hn:=must_c hP10
      refine hn.mono ?_
      clear hn t10
      rintro e w11 he
      rcases hq11:mustS bs (a') with f | r11
      ·rw [hq11] at hR he
       subst hR
       obtain ⟨rfl,hbx⟩:=he
       go_wp2
       exact ⟨rfl,rfl,_,hm10.then hP10.lt hbx⟩
      rw [hq11] at hR he
      obtain ⟨rfl,hbx⟩:=he
      have hm11:=hm10.then hP10.lt hbx
      have hP11:=hP10.below hbx
      have hO11:=own_below hO10 hbx
      clear hbx
      (try simp only at hR)
      have hpk11:=(must_ok hq11).1
      have hrl11:=must_real hq11
      obtain ⟨hs11,_,_⟩:=peek_step h.bytes hle10 hpk11
      have hgt:=step_gt hpk11 hrl11
      by_cases hx:r11 = q
      ·subst hx
       rw [if_pos rfl] at hR
       have tQ:=True.intro
       go_wp2_with (first
        | (
         have _t:=tQ
         go_at_call 106
         go_loud (
          clear _t
          refine (next_ok hP11 (hpk11)).mono ?_
          clear tQ
          rintro e w12 ⟨rfl,hmx⟩
          have hm12:=hm11.trans hmx
          have hle12:=(peek_step h.bytes (hle10) (hpk11)).1
          have hP12:=h.moved hm12 hle12
          have hO12:=own_mv hO11 hmx hlt
          clear hmx
          obtain ⟨A12,c12,rfl,hcv⟩:=conv_own hO12)))
       go_ret
       (try simp only at hR)
       subst hR
       exact ⟨rfl,hm12⟩
      have q1:(r11 == q) = false:=by rw [beq_eq_false_iff_ne];exact hx
      rw [if_neg hx] at hR
      by_cases hy:r11 = 60
      ·subst hy
       rw [if_pos rfl] at hR
       have tO:=True.intro
       go_wp2_with (first
        | (
         have _t:=tO
         go_at_call 82
         go_loud (
          clear _t
          refine (odd_c hP11).mono ?_
          clear tO
          rintro e wx ⟨rfl,hbx⟩
          subst hR
          go_wp2
          exact ⟨rfl,rfl,_,hm11.then hP11.lt hbx⟩)))
      have q2:(r11 == 60) = false:=by rw [beq_eq_false_iff_ne];exact hy
      rw [if_neg hy] at hR
      by_cases hz:r11 = 38
      ·subst hz
       rw [if_pos rfl] at hR
       have tR:=True.intro
       go_wp2_with (first
        | (
         have _t:=tR
         go_at_call 111
         go_loud (
          clear _t
          have hn:=reference_c hP11
          refine hn.mono ?_
          clear hn tR
          rintro e w12 he
          rcases hq12:referenceS bs a' with f | ⟨c,a2⟩
          ·rw [hq12] at hR he
           subst hR
           obtain ⟨rfl,a5,hmx⟩:=he
           go_wp2
           exact ⟨rfl,rfl,_,hm11.trans hmx⟩
          rw [hq12] at hR he
          obtain ⟨rfl,hmx⟩:=he
          have hm12:=hm11.trans hmx
          have hle12:=(reference_le h.bytes hle10 hq12).2.1
          have hP12:=h.moved hm12 hle12
          have hO12:=own_mv hO11 hmx hlt
          clear hmx
          (try simp only at hR)
          have hgt2:=(reference_le h.bytes hle10 hq12).1
          have tE:=True.intro
          have hen:=enc_four (c)
          generalize hlo:(out ++ encC (c)).length = ln at hR
          by_cases hc:tk < ln
          ·rw [if_pos hc] at hR
           subst hR
           have hd:decide ((tk:Int) < (ln:Int)) = true:=by rw [decide_eq_true_eq];omega
           go_wp2_with (first
            | (
             have _t:=tE
             go_at_call 151
             go_loud (
              clear _t
              refine (enc_own c w12).mono ?_
              clear tE
              rintro e w20 ⟨A,cc,rfl,hrd,hb20⟩
              have hO20:=own_below hO12 hb20
              have hm20:=hm12.then hP12.lt hb20
              have hw20:=hm20.size
              have t21:=True.intro))
            | (
             have _t:=t21
             at_builtin
             go_loud (clear t21;refine print_append_row (w0:=w20) w.heap.size rfl _ _ 33 5 .u8 1 rfl Tryz.underlying33 (by kernel_rfl) (by decide) _ out (encC c) A _ cc rfl rfl hO20 hrd (Below.refl _ _) hw20 (by have:=enc_four (c);omega) ?_;intro v21 w21 hO21 hb21 hg21 hat21;have hm21:=hm20.then' hlt hb21;have hP21:=h.moved hm21 hle12;rw [hlo] at hO21;have ht21:=hP21.tok;obtain ⟨A21,c21,rfl⟩:=own_slice hO21;have t22:=True.intro))
            | (
             have _t:=t22
             go_at_call 102
             go_loud (
              clear _t
              refine (fail_c _ _ _).mono ?_
              clear t22
              rintro e w23 ⟨rfl,hb23⟩)))
           exact ⟨rfl,rfl,_,hm21.then hP21.lt hb23⟩
          ·rw [if_neg hc] at hR
           have hd:decide ((tk:Int) < (ln:Int)) = false:=by rw [decide_eq_false_iff_not];omega
           go_wp2_with (first
            | (
             have _t:=tE
             go_at_call 151
             go_loud (
              clear _t
              refine (enc_own c w12).mono ?_
              clear tE
              rintro e w20 ⟨A,cc,rfl,hrd,hb20⟩
              have hO20:=own_below hO12 hb20
              have hm20:=hm12.then hP12.lt hb20
              have hw20:=hm20.size
              have t21:=True.intro))
            | (
             have _t:=t21
             at_builtin
             go_loud (clear t21;refine print_append_row (w0:=w20) w.heap.size rfl _ _ 33 5 .u8 1 rfl Tryz.underlying33 (by kernel_rfl) (by decide) _ out (encC c) A _ cc rfl rfl hO20 hrd (Below.refl _ _) hw20 (by have:=enc_four (c);omega) ?_;intro v21 w21 hO21 hb21 hg21 hat21;have hm21:=hm20.then' hlt hb21;have hP21:=h.moved hm21 hle12;rw [hlo] at hO21;have ht21:=hP21.tok;obtain ⟨A21,c21,rfl⟩:=own_slice hO21;have t22:=True.intro)))
           have hcur:a' < a2:=hgt2
           exact ⟨⟨a2,k',out ++ encC (c),hm21,hle12,by omega,(by rw [hlo];exact hO21),(by rw [hlo];omega),(fun x hx=>(List.mem_append.1 hx).elim (hob x) (enc_bytes _ x)),hR⟩,(by rw [hm21.atOf,hm10.atOf];omega)⟩)))
      ·rw [if_neg hz] at hR
       have q5:(r11 == 38) = false:=by rw [beq_eq_false_iff_ne];exact hz
       unfold crS at hR
       by_cases hcr:r11 = 13
       ·subst hcr
        rw [if_pos rfl] at hR
        have hw:whiteB 13 = true:=by decide
        rw [hw] at hR
        have tN:=True.intro
        go_wp2_with (first
         | (
          have _t:=tN
          go_at_call 106
          go_loud (
           clear _t
           refine (next_ok hP11 (hpk11)).mono ?_
           clear tN
           rintro e w12 ⟨rfl,hmx⟩
           have hm12:=hm11.trans hmx
           have hle12:=(peek_step h.bytes (hle10) (hpk11)).1
           have hP12:=h.moved hm12 hle12
           have hO12:=own_mv hO11 hmx hlt
           clear hmx
           have tP:=True.intro
           go_wp2_with (first
            | (
             have _t:=tP
             go_at_call 150
             go_loud (
              clear _t
              have hn:=peek_c hP12
              refine hn.mono ?_
              clear hn tP
              rintro e w13 he
              rcases hq13:peekS bs (stepS 13 a') with f | r13
              ·rw [hq13] at hR he
               subst hR
               obtain ⟨rfl,hbx⟩:=he
               go_wp2
               exact ⟨rfl,rfl,_,hm12.then hP12.lt hbx⟩
              rw [hq13] at hR he
              obtain ⟨rfl,hbx⟩:=he
              have hm13:=hm12.then hP12.lt hbx
              have hP13:=hP12.below hbx
              have hO13:=own_below hO12 hbx
              clear hbx
              (try simp only at hR)
              by_cases hlf:r13 = 10
              ·subst hlf
               rw [if_pos rfl] at hR
               (try simp only [if_true] at hR)
               have tM:=True.intro
               go_wp2_with (first
                | (
                 have _t:=tM
                 go_at_call 106
                 go_loud (
                  clear _t
                  refine (next_ok hP13 (hq13)).mono ?_
                  clear tM
                  rintro e w14 ⟨rfl,hmx⟩
                  have hm14:=hm13.trans hmx
                  have hle14:=(peek_step h.bytes (hle12) (hq13)).1
                  have hP14:=h.moved hm14 hle14
                  have hO14:=own_mv hO13 hmx hlt
                  clear hmx
                  have tW:=True.intro
                  go_wp2_with (first
                   | (
                    have _t:=tW
                    go_at_call 75
                    go_loud (
                     clear _t
                     have hwc:=white_c (13) w14
                     rw [hw] at hwc
                     refine hwc.mono ?_
                     clear hwc tW
                     rintro e w15 ⟨rfl,hbx⟩
                     have hm15:=hm14.then hP14.lt hbx
                     have hP15:=hP14.below hbx
                     have hO15:=own_below hO14 hbx
                     clear hbx
                     have tE:=True.intro
                     have hen:=enc_four (32)
                     generalize hlo:(out ++ encC (32)).length = ln at hR
                     by_cases hc:tk < ln
                     ·rw [if_pos hc] at hR
                      subst hR
                      have hd:decide ((tk:Int) < (ln:Int)) = true:=by rw [decide_eq_true_eq];omega
                      go_wp2_with (first
                       | (
                        have _t:=tE
                        go_at_call 151
                        go_loud (
                         clear _t
                         refine (enc_own 32 w15).mono ?_
                         clear tE
                         rintro e w20 ⟨A,cc,rfl,hrd,hb20⟩
                         have hO20:=own_below hO15 hb20
                         have hm20:=hm15.then hP15.lt hb20
                         have hw20:=hm20.size
                         have t21:=True.intro))
                       | (
                        have _t:=t21
                        at_builtin
                        go_loud (clear t21;refine print_append_row (w0:=w20) w.heap.size rfl _ _ 33 5 .u8 1 rfl Tryz.underlying33 (by kernel_rfl) (by decide) _ out (encC 32) A _ cc rfl rfl hO20 hrd (Below.refl _ _) hw20 (by have:=enc_four (32);omega) ?_;intro v21 w21 hO21 hb21 hg21 hat21;have hm21:=hm20.then' hlt hb21;have hP21:=h.moved hm21 hle14;rw [hlo] at hO21;have ht21:=hP21.tok;obtain ⟨A21,c21,rfl⟩:=own_slice hO21;have t22:=True.intro))
                       | (
                        have _t:=t22
                        go_at_call 102
                        go_loud (
                         clear _t
                         refine (fail_c _ _ _).mono ?_
                         clear t22
                         rintro e w23 ⟨rfl,hb23⟩)))
                      exact ⟨rfl,rfl,_,hm21.then hP21.lt hb23⟩
                     ·rw [if_neg hc] at hR
                      have hd:decide ((tk:Int) < (ln:Int)) = false:=by rw [decide_eq_false_iff_not];omega
                      go_wp2_with (first
                       | (
                        have _t:=tE
                        go_at_call 151
                        go_loud (
                         clear _t
                         refine (enc_own 32 w15).mono ?_
                         clear tE
                         rintro e w20 ⟨A,cc,rfl,hrd,hb20⟩
                         have hO20:=own_below hO15 hb20
                         have hm20:=hm15.then hP15.lt hb20
                         have hw20:=hm20.size
                         have t21:=True.intro))
                       | (
                        have _t:=t21
                        at_builtin
                        go_loud (clear t21;refine print_append_row (w0:=w20) w.heap.size rfl _ _ 33 5 .u8 1 rfl Tryz.underlying33 (by kernel_rfl) (by decide) _ out (encC 32) A _ cc rfl rfl hO20 hrd (Below.refl _ _) hw20 (by have:=enc_four (32);omega) ?_;intro v21 w21 hO21 hb21 hg21 hat21;have hm21:=hm20.then' hlt hb21;have hP21:=h.moved hm21 hle14;rw [hlo] at hO21;have ht21:=hP21.tok;obtain ⟨A21,c21,rfl⟩:=own_slice hO21;have t22:=True.intro)))
                      have hcur:a' < stepS 10 (stepS 13 a'):=Nat.lt_of_lt_of_le hgt (step_ge _ _)
                      exact ⟨⟨stepS 10 (stepS 13 a'),k',out ++ encC (32),hm21,hle14,by omega,(by rw [hlo];exact hO21),(by rw [hlo];omega),(fun x hx=>(List.mem_append.1 hx).elim (hob x) (enc_bytes _ x)),hR⟩,(by rw [hm21.atOf,hm10.atOf];omega)⟩))))))
              ·have q4:(r13 == 10) = false:=by rw [beq_eq_false_iff_ne];exact hlf
               rw [if_neg hlf] at hR
               (try simp only [if_true] at hR)
               have tW:=True.intro
               go_wp2_with (first
                | (
                 have _t:=tW
                 go_at_call 75
                 go_loud (
                  clear _t
                  have hwc:=white_c (13) w13
                  rw [hw] at hwc
                  refine hwc.mono ?_
                  clear hwc tW
                  rintro e w14 ⟨rfl,hbx⟩
                  have hm14:=hm13.then hP13.lt hbx
                  have hP14:=hP13.below hbx
                  have hO14:=own_below hO13 hbx
                  clear hbx
                  have tE:=True.intro
                  have hen:=enc_four (32)
                  generalize hlo:(out ++ encC (32)).length = ln at hR
                  by_cases hc:tk < ln
                  ·rw [if_pos hc] at hR
                   subst hR
                   have hd:decide ((tk:Int) < (ln:Int)) = true:=by rw [decide_eq_true_eq];omega
                   go_wp2_with (first
                    | (
                     have _t:=tE
                     go_at_call 151
                     go_loud (
                      clear _t
                      refine (enc_own 32 w14).mono ?_
                      clear tE
                      rintro e w20 ⟨A,cc,rfl,hrd,hb20⟩
                      have hO20:=own_below hO14 hb20
                      have hm20:=hm14.then hP14.lt hb20
                      have hw20:=hm20.size
                      have t21:=True.intro))
                    | (
                     have _t:=t21
                     at_builtin
                     go_loud (clear t21;refine print_append_row (w0:=w20) w.heap.size rfl _ _ 33 5 .u8 1 rfl Tryz.underlying33 (by kernel_rfl) (by decide) _ out (encC 32) A _ cc rfl rfl hO20 hrd (Below.refl _ _) hw20 (by have:=enc_four (32);omega) ?_;intro v21 w21 hO21 hb21 hg21 hat21;have hm21:=hm20.then' hlt hb21;have hP21:=h.moved hm21 hle12;rw [hlo] at hO21;have ht21:=hP21.tok;obtain ⟨A21,c21,rfl⟩:=own_slice hO21;have t22:=True.intro))
                    | (
                     have _t:=t22
                     go_at_call 102
                     go_loud (
                      clear _t
                      refine (fail_c _ _ _).mono ?_
                      clear t22
                      rintro e w23 ⟨rfl,hb23⟩)))
                   exact ⟨rfl,rfl,_,hm21.then hP21.lt hb23⟩
                  ·rw [if_neg hc] at hR
                   have hd:decide ((tk:Int) < (ln:Int)) = false:=by rw [decide_eq_false_iff_not];omega
                   go_wp2_with (first
                    | (
                     have _t:=tE
                     go_at_call 151
                     go_loud (
                      clear _t
                      refine (enc_own 32 w14).mono ?_
                      clear tE
                      rintro e w20 ⟨A,cc,rfl,hrd,hb20⟩
                      have hO20:=own_below hO14 hb20
                      have hm20:=hm14.then hP14.lt hb20
                      have hw20:=hm20.size
                      have t21:=True.intro))
                    | (
                     have _t:=t21
                     at_builtin
                     go_loud (clear t21;refine print_append_row (w0:=w20) w.heap.size rfl _ _ 33 5 .u8 1 rfl Tryz.underlying33 (by kernel_rfl) (by decide) _ out (encC 32) A _ cc rfl rfl hO20 hrd (Below.refl _ _) hw20 (by have:=enc_four (32);omega) ?_;intro v21 w21 hO21 hb21 hg21 hat21;have hm21:=hm20.then' hlt hb21;have hP21:=h.moved hm21 hle12;rw [hlo] at hO21;have ht21:=hP21.tok;obtain ⟨A21,c21,rfl⟩:=own_slice hO21;have t22:=True.intro)))
                   have hcur:a' < stepS 13 a':=hgt
                   exact ⟨⟨stepS 13 a',k',out ++ encC (32),hm21,hle12,by omega,(by rw [hlo];exact hO21),(by rw [hlo];omega),(fun x hx=>(List.mem_append.1 hx).elim (hob x) (enc_bytes _ x)),hR⟩,(by rw [hm21.atOf,hm10.atOf];omega)⟩)))))))))
       ·have q3:(r11 == 13) = false:=by rw [beq_eq_false_iff_ne];exact hcr
        rw [if_neg hcr] at hR
        (try simp only at hR)
        rcases hw:whiteB r11 with _ | _
        ·rw [hw] at hR
         (try simp only [if_true,if_false,Bool.false_eq_true] at hR)
         have tN:=True.intro
         go_wp2_with (first
          | (
           have _t:=tN
           go_at_call 106
           go_loud (
            clear _t
            refine (next_ok hP11 (hpk11)).mono ?_
            clear tN
            rintro e w12 ⟨rfl,hmx⟩
            have hm12:=hm11.trans hmx
            have hle12:=(peek_step h.bytes (hle10) (hpk11)).1
            have hP12:=h.moved hm12 hle12
            have hO12:=own_mv hO11 hmx hlt
            clear hmx
            have tW:=True.intro
            go_wp2_with (first
             | (
              have _t:=tW
              go_at_call 75
              go_loud (
               clear _t
               have hwc:=white_c (r11) w12
               rw [hw] at hwc
               refine hwc.mono ?_
               clear hwc tW
               rintro e w13 ⟨rfl,hbx⟩
               have hm13:=hm12.then hP12.lt hbx
               have hP13:=hP12.below hbx
               have hO13:=own_below hO12 hbx
               clear hbx
               have tE:=True.intro
               have hen:=enc_four (r11)
               generalize hlo:(out ++ encC (r11)).length = ln at hR
               by_cases hc:tk < ln
               ·rw [if_pos hc] at hR
                subst hR
                have hd:decide ((tk:Int) < (ln:Int)) = true:=by rw [decide_eq_true_eq];omega
                go_wp2_with (first
                 | (
                  have _t:=tE
                  go_at_call 151
                  go_loud (
                   clear _t
                   refine (enc_own r11 w13).mono ?_
                   clear tE
                   rintro e w20 ⟨A,cc,rfl,hrd,hb20⟩
                   have hO20:=own_below hO13 hb20
                   have hm20:=hm13.then hP13.lt hb20
                   have hw20:=hm20.size
                   have t21:=True.intro))
                 | (
                  have _t:=t21
                  at_builtin
                  go_loud (clear t21;refine print_append_row (w0:=w20) w.heap.size rfl _ _ 33 5 .u8 1 rfl Tryz.underlying33 (by kernel_rfl) (by decide) _ out (encC r11) A _ cc rfl rfl hO20 hrd (Below.refl _ _) hw20 (by have:=enc_four (r11);omega) ?_;intro v21 w21 hO21 hb21 hg21 hat21;have hm21:=hm20.then' hlt hb21;have hP21:=h.moved hm21 hle12;rw [hlo] at hO21;have ht21:=hP21.tok;obtain ⟨A21,c21,rfl⟩:=own_slice hO21;have t22:=True.intro))
                 | (
                  have _t:=t22
                  go_at_call 102
                  go_loud (
                   clear _t
                   refine (fail_c _ _ _).mono ?_
                   clear t22
                   rintro e w23 ⟨rfl,hb23⟩)))
                exact ⟨rfl,rfl,_,hm21.then hP21.lt hb23⟩
               ·rw [if_neg hc] at hR
                have hd:decide ((tk:Int) < (ln:Int)) = false:=by rw [decide_eq_false_iff_not];omega
                go_wp2_with (first
                 | (
                  have _t:=tE
                  go_at_call 151
                  go_loud (
                   clear _t
                   refine (enc_own r11 w13).mono ?_
                   clear tE
                   rintro e w20 ⟨A,cc,rfl,hrd,hb20⟩
                   have hO20:=own_below hO13 hb20
                   have hm20:=hm13.then hP13.lt hb20
                   have hw20:=hm20.size
                   have t21:=True.intro))
                 | (
                  have _t:=t21
                  at_builtin
                  go_loud (clear t21;refine print_append_row (w0:=w20) w.heap.size rfl _ _ 33 5 .u8 1 rfl Tryz.underlying33 (by kernel_rfl) (by decide) _ out (encC r11) A _ cc rfl rfl hO20 hrd (Below.refl _ _) hw20 (by have:=enc_four (r11);omega) ?_;intro v21 w21 hO21 hb21 hg21 hat21;have hm21:=hm20.then' hlt hb21;have hP21:=h.moved hm21 hle12;rw [hlo] at hO21;have ht21:=hP21.tok;obtain ⟨A21,c21,rfl⟩:=own_slice hO21;have t22:=True.intro)))
                have hcur:a' < stepS r11 a':=hgt
                exact ⟨⟨stepS r11 a',k',out ++ encC (r11),hm21,hle12,by omega,(by rw [hlo];exact hO21),(by rw [hlo];omega),(fun x hx=>(List.mem_append.1 hx).elim (hob x) (enc_bytes _ x)),hR⟩,(by rw [hm21.atOf,hm10.atOf];omega)⟩))))))
        ·rw [hw] at hR
         (try simp only [if_true,if_false,Bool.false_eq_true] at hR)
         have tN:=True.intro
         go_wp2_with (first
          | (
           have _t:=tN
           go_at_call 106
           go_loud (
            clear _t
            refine (next_ok hP11 (hpk11)).mono ?_
            clear tN
            rintro e w12 ⟨rfl,hmx⟩
            have hm12:=hm11.trans hmx
            have hle12:=(peek_step h.bytes (hle10) (hpk11)).1
            have hP12:=h.moved hm12 hle12
            have hO12:=own_mv hO11 hmx hlt
            clear hmx
            have tW:=True.intro
            go_wp2_with (first
             | (
              have _t:=tW
              go_at_call 75
              go_loud (
               clear _t
               have hwc:=white_c (r11) w12
               rw [hw] at hwc
               refine hwc.mono ?_
               clear hwc tW
               rintro e w13 ⟨rfl,hbx⟩
               have hm13:=hm12.then hP12.lt hbx
               have hP13:=hP12.below hbx
               have hO13:=own_below hO12 hbx
               clear hbx
               have tE:=True.intro
               have hen:=enc_four (32)
               generalize hlo:(out ++ encC (32)).length = ln at hR
               by_cases hc:tk < ln
               ·rw [if_pos hc] at hR
                subst hR
                have hd:decide ((tk:Int) < (ln:Int)) = true:=by rw [decide_eq_true_eq];omega
                go_wp2_with (first
                 | (
                  have _t:=tE
                  go_at_call 151
                  go_loud (
                   clear _t
                   refine (enc_own 32 w13).mono ?_
                   clear tE
                   rintro e w20 ⟨A,cc,rfl,hrd,hb20⟩
                   have hO20:=own_below hO13 hb20
                   have hm20:=hm13.then hP13.lt hb20
                   have hw20:=hm20.size
                   have t21:=True.intro))
                 | (
                  have _t:=t21
                  at_builtin
                  go_loud (clear t21;refine print_append_row (w0:=w20) w.heap.size rfl _ _ 33 5 .u8 1 rfl Tryz.underlying33 (by kernel_rfl) (by decide) _ out (encC 32) A _ cc rfl rfl hO20 hrd (Below.refl _ _) hw20 (by have:=enc_four (32);omega) ?_;intro v21 w21 hO21 hb21 hg21 hat21;have hm21:=hm20.then' hlt hb21;have hP21:=h.moved hm21 hle12;rw [hlo] at hO21;have ht21:=hP21.tok;obtain ⟨A21,c21,rfl⟩:=own_slice hO21;have t22:=True.intro))
                 | (
                  have _t:=t22
                  go_at_call 102
                  go_loud (
                   clear _t
                   refine (fail_c _ _ _).mono ?_
                   clear t22
                   rintro e w23 ⟨rfl,hb23⟩)))
                exact ⟨rfl,rfl,_,hm21.then hP21.lt hb23⟩
               ·rw [if_neg hc] at hR
                have hd:decide ((tk:Int) < (ln:Int)) = false:=by rw [decide_eq_false_iff_not];omega
                go_wp2_with (first
                 | (
                  have _t:=tE
                  go_at_call 151
                  go_loud (
                   clear _t
                   refine (enc_own 32 w13).mono ?_
                   clear tE
                   rintro e w20 ⟨A,cc,rfl,hrd,hb20⟩
                   have hO20:=own_below hO13 hb20
                   have hm20:=hm13.then hP13.lt hb20
                   have hw20:=hm20.size
                   have t21:=True.intro))
                 | (
                  have _t:=t21
                  at_builtin
                  go_loud (clear t21;refine print_append_row (w0:=w20) w.heap.size rfl _ _ 33 5 .u8 1 rfl Tryz.underlying33 (by kernel_rfl) (by decide) _ out (encC 32) A _ cc rfl rfl hO20 hrd (Below.refl _ _) hw20 (by have:=enc_four (32);omega) ?_;intro v21 w21 hO21 hb21 hg21 hat21;have hm21:=hm20.then' hlt hb21;have hP21:=h.moved hm21 hle12;rw [hlo] at hO21;have ht21:=hP21.tok;obtain ⟨A21,c21,rfl⟩:=own_slice hO21;have t22:=True.intro)))
                have hcur:a' < stepS r11 a':=hgt
                exact ⟨⟨stepS r11 a',k',out ++ encC (32),hm21,hle12,by omega,(by rw [hlo];exact hO21),(by rw [hlo];omega),(fun x hx=>(List.mem_append.1 hx).elim (hob x) (enc_bytes _ x)),hR⟩,(by rw [hm21.atOf,hm10.atOf];omega)⟩)))))))))
end Go.Proofs.YtbaokjfhigjpdaaGreatDoorX
end
section
set_option linter.unusedVariables false
namespace Go.Proofs.YtbaokjfhigjpdaaGreatDoorX
open Go.RowKit Go.Shelf Go.Proofs.YtbaokjfhigjpdaaGreatDoor.PXmlBase Go.Proofs.YtbaokjfhigjpdaaGreatDoorW.PrintWords
structure Gl (w:World):Prop where
  cases_:Lib.CaseVar 2 Lib.caseA w
  tabs:Lib.Utf8Tabs 4 5 w
  fold:∀ x ∈ [(76,108),(77,109),(88,120),(108,76),(109,77),(120,88)],w.cell? ⟨0,x.1,none⟩ = some (.int .u16 (x.2:Int))
theorem Gl.below {w w':World} (h:Gl w) (hb:Below w.heap.size w w'):Gl w' :=
  ⟨Lib.CaseVar_below h.cases_ hb,tabs_below h.tabs hb,fun x hx=>cellB hb (h.fold x hx) (lt_of_cell (h.fold x hx))⟩
def Env (w:World) (p:Nat):Prop:=∃ w0,Gl w0 ∧ Below w0.heap.size w0 w ∧ w0.heap.size ≤ p
theorem Env.gl {w:World} {p:Nat}:Env w p → Gl w:=fun ⟨_,h,hb,_⟩=>h.below hb
theorem Env.below {w W:World} {p:Nat} (hb:Below w.heap.size w W):Env w p → Env W p:=fun ⟨w0,h,h1,h2⟩=>⟨w0,h,h1.trans (hb.mono h1.size),h2⟩
theorem Env.mv {w W:World} {p a:Nat} (hm:Mv w W p a):Env w p → Env W p:=fun ⟨w0,h,h1,h2⟩=>
 ⟨w0,h,⟨hm.os.trans h1.os,hm.tape.trans h1.tape,hm.output.trans h1.output,Nat.le_trans h1.size hm.size,fun k hk=>(hm.block k (Nat.lt_of_lt_of_le hk h1.size) (by omega)).trans (h1.block k hk)⟩,h2⟩
theorem size_str (n:List Int):(strOfNums n).size = n.length:=strOfNums_size n
theorem get_str (n:List Int) (hb:Bytes n) (k:Nat) (hk:k < n.length) (hk':k < (strOfNums n).size):(((strOfNums n)[k]'hk').toNat:Int) = n[k]:=by
 have h1:=hb n[k] (List.getElem_mem hk)
 have e1:=Lib.data_getElem? (strOfNums n) k hk'
 have e2:(strOfNums n).data.toList[k]? = some (UInt8.ofNat n[k].toNat):=by
  rw [strOfNums_data]
  simp [hk]
 rw [e2] at e1
 have e:=(Option.some.inj e1).symm
 rw [e]
 simp
 omega
theorem u8_at (x:Int) (h:0 ≤ x ∧ x < 256):((UInt8.ofNat x.toNat).toNat:Int) = x:=by
 simp
 omega
theorem fold1 (x c:Int) (hx:0 ≤ x ∧ x < 256) (hc:97 ≤ c ∧ c ≤ 122):Lib.foldEq (UInt8.ofNat x.toNat) (UInt8.ofNat c.toNat) = decide (x = c ∨ x = c - 32):=by
 have e1:=u8_at x hx
 have e2:=u8_at c (by omega)
 unfold Lib.foldEq
 rw [decide_eq_decide]
 omega
theorem fold_ascii (n:List Int) (hb:Bytes n):Lib.equalFold (n.map fun x=>UInt8.ofNat x.toNat) [120,109,108] = isXml n:=by
 match n,hb with
 | [],_=>rfl
 | [a],_=>simp [Lib.equalFold,isXml]
 | [a,b],_=>simp [Lib.equalFold,isXml]
 | [a,b,c],hb=>
  have h1:=fold1 a 120 (hb a (by simp)) (by omega)
  have h2:=fold1 b 109 (hb b (by simp)) (by omega)
  have h3:=fold1 c 108 (hb c (by simp)) (by omega)
  show (Lib.foldEq (UInt8.ofNat a.toNat) (UInt8.ofNat (120:Int).toNat) && (Lib.foldEq (UInt8.ofNat b.toNat) (UInt8.ofNat (109:Int).toNat) && (Lib.foldEq (UInt8.ofNat c.toNat) (UInt8.ofNat (108:Int).toNat) && true))) = _
  rw [h1,h2,h3]
  unfold isXml
  simp
 | a :: b :: c :: d :: t,_=>simp [Lib.equalFold,isXml]
theorem isXml_ascii (n:List Int) (h:isXml n = true):∀ x ∈ n,0 ≤ x ∧ x < 128:=by
 match n,h with
 | [a,b,c],h=>
  unfold isXml at h
  simp at h
  intro x hx
  simp at hx
  omega
theorem fold_is (n:List Int) (hb:Bytes n) (hl:n.length ≤ 4294967280) (w:World) (G:Gl w) :
    Calls Tryz.prog 160 #[txt n,.string ⟨#[120,109,108]⟩] w fun e w'=>e = .returned (.bool (isXml n)) ∧ Below w.heap.size w w':=by
  by_cases ha:∀ x ∈ n,x < 128
  ·refine (Tryz.strings_EqualFold (strOfNums n) ⟨#[120,109,108]⟩ w (by rw [size_str];omega) ?_ ?_).mono ?_
   ·intro j b hj
    rw [strOfNums_data] at hj
    have hm:=List.mem_of_getElem? hj
    obtain ⟨x,hx,rfl⟩:=List.mem_map.1 hm
    have:=u8_at x (hb x hx)
    have:=ha x hx
    omega
   ·intro j b hj
    have hm:=List.mem_of_getElem? hj
    simp at hm
    rcases hm with rfl | rfl | rfl <;> decide
   ·rintro e w' ⟨rfl,rfl⟩
    rw [strOfNums_data]
    exact ⟨congrArg (fun b=>Ending.returned (Value.bool b)) (fold_ascii n hb),Below.refl _ _⟩
  · have hx:isXml n = false:=by
      cases h:isXml n with
      | false=>rfl
      | true=>exact absurd (fun x hx=>(isXml_ascii n h x hx).2) ha
    rw [hx]
    refine fold_c (strOfNums n) ⟨#[120,109,108]⟩ w (by rw [size_str];omega) rfl ?_ G.tabs ?_ ?_
    ·intro j hj
     match j,hj with
     | 0,_=>show (120:UInt8).toNat < 128;decide
     | 1,_=>show (109:UInt8).toNat < 128;decide
     | 2,_=>show (108:UInt8).toNat < 128;decide
    ·intro j hj w' hw
     have G':=G.below hw
     match j,hj with
     | 0,_=>exact ⟨simple_120 w' (G'.fold (120,88) (by simp)),simple_88 w' (G'.fold (88,120) (by simp))⟩
     | 1,_=>exact ⟨simple_109 w' (G'.fold (109,77) (by simp)),simple_77 w' (G'.fold (77,109) (by simp))⟩
     | 2,_=>exact ⟨simple_108 w' (G'.fold (108,76) (by simp)),simple_76 w' (G'.fold (76,108) (by simp))⟩
    ·obtain ⟨x,hx2⟩:=Classical.not_forall.1 ha
     obtain ⟨hx1,hx2⟩:=Classical.not_imp.1 hx2
     obtain ⟨j,hj,rfl⟩:=List.getElem_of_mem hx1
     refine ⟨j,by rw [size_str];exact hj,?_⟩
     have:=get_str n hb j hj (by rw [size_str];exact hj)
     omega
end Go.Proofs.YtbaokjfhigjpdaaGreatDoorX
end
section
set_option linter.unusedVariables false
namespace Go.Proofs.YtbaokjfhigjpdaaGreatDoorX
open Go.RowKit Go.Shelf Go.Proofs.YtbaokjfhigjpdaaGreatDoor.PXmlBase Go.Proofs.YtbaokjfhigjpdaaGreatDoorW.PrintWords
theorem early1_c {w:World} {p:Nat} {bs:List Int} {tk a:Nat} (h:PB w p bs tk a) (wd:ByteArray) (hwd:wd.size ≤ 1099511627776) :
    Calls Tryz.prog 117 #[.pointer (some ⟨p,0,none⟩),.slice (some ⟨w.heap.size,0,none⟩) 1 1] (w.alloc (.cells #[.string wd] 9)) fun e W'=>OutE (earlyS bs [bytesOf wd] a) e ∧ Below w.heap.size w W':=by
  have hb:=(Below.refl w.heap.size w).alloc (Nat.le_refl _) (.cells #[.string wd] 9)
  refine (early_c (h.below hb) w.heap.size 1 [wd] (by simpa using hwd) (fun j hj=>?_) (by simp)).mono fun e W' ⟨h1,h2⟩=>⟨h1,hb.trans (h2.mono hb.size)⟩
  obtain rfl:j = 0:=by simpa using hj
  unfold World.cell?
  rw [heap_alloc_new]
  rfl
theorem nameL_len {bs:List Int} {tk a0:Nat}:∀ (k a e:Nat),a - a0 ≤ tk → nameL bs tk a0 k a = .ok e → e - a0 ≤ tk
  | 0,a,e,h0,h=>by
   cases h
   exact h0
  | k + 1,a,e,h0,h=>by
   unfold nameL at h
   split at h
   · cases h
   ·split at h
    ·split at h
     · cases h
     · exact nameL_len k _ _ (by omega) h
    ·cases h
     exact h0
theorem name_len {bs:List Int} {tk a:Nat} {x:List Int × Nat} (h:nameS bs tk a = .ok x):x.1.length ≤ tk:=by
 unfold nameS at h
 split at h
 · cases h
 ·split at h
  ·split at h
   · cases h
   ·rename_i e he
    cases h
    have:=nameL_len _ _ _ (by omega) he
    show (cutS bs a e).length ≤ tk
    unfold cutS
    rw [List.length_take]
    omega
  · cases h
theorem name_bytes {bs:List Int} {tk a:Nat} {x:List Int × Nat} (hb:Bytes bs) (h:nameS bs tk a = .ok x):Bytes x.1:=by
 unfold nameS at h
 split at h
 · cases h
 ·split at h
  ·split at h
   · cases h
   ·rename_i e he
    cases h
    exact (hb.drop a).take _
  · cases h
set_option maxRecDepth 100000 in
set_option maxHeartbeats 8000000 in
theorem instruction_c {w:World} {p:Nat} {bs:List Int} {tk a:Nat} (h:PB w p bs tk a) (htk4:tk ≤ 4294967280) (E:Env w p) :
    Calls Tryz.prog 116 #[.pointer (some ⟨p,0,none⟩)] w (OutM w p ((instructionS bs tk a).map fun x=>(Value.tuple #[],x))):=by
  have h5:=h.here
  have hlt:=h.lt
  generalize hR:instructionS bs tk a = R
  unfold instructionS at hR
  go_enter Tryz.func116,Tryz.ntmps116
  have hm0:=Mv.of_below (Below.refl _ w) hlt h5
  have hP0:=h
  have hle0:=h.le
  have htk:tk ≤ 1099511627776:=by omega
  have t102:=True.intro
  go_wp2_with (first
   | (
    have _t:=t102
    go_at_call 105
    go_loud (
     clear _t
     have hn:=must_c hP0
     refine hn.mono ?_
     clear hn t102
     rintro e w101 he
     rcases hq101:mustS bs (a) with f | r101
     ·rw [hq101] at hR he
      (try simp only at hR)
      subst hR
      obtain ⟨rfl,hbx⟩:=he
      go_wp2
      exact ⟨rfl,rfl,_,hm0.then hP0.lt hbx⟩
     rw [hq101] at hR he
     obtain ⟨rfl,hbx⟩:=he
     have hm101:=hm0.then hP0.lt hbx
     have hP101:=hP0.below hbx
     clear hbx
     (try simp only at hR)
     have hpk101:=(must_ok hq101).1
     have hst101:=must_step h.bytes h.le hq101
     have hh101:=hP101.here
     have t104:=True.intro
     go_wp2_with (first
      | (
       have _t:=t104
       go_at_call 153
       go_loud (
        clear _t
        have hn:=name_c hP101 htk
        refine hn.mono ?_
        clear hn t104
        rintro e w103 he
        rcases hq103:nameS bs tk (a) with f | ⟨n103,a103⟩
        ·rw [hq103] at hR he
         (try simp only at hR)
         subst hR
         obtain ⟨rfl,a5,hmx⟩:=he
         go_wp2
         exact ⟨rfl,rfl,_,hm101.trans hmx⟩
        rw [hq103] at hR he
        obtain ⟨rfl,hmx⟩:=he
        have hm103:=hm101.trans hmx
        have hle103:=(name_le h.bytes h.le hq103).2
        have hP103:=h.moved hm103 hle103
        clear hmx
        (try simp only at hR)
        have t106:=True.intro
        go_wp2_with (first
         | (
          have _t:=t106
          go_at_call 160
          go_loud (
           clear _t
           refine (fold_is n103 (name_bytes h.bytes hq103) (Nat.le_trans (name_len hq103) htk4) w103 (Env.gl (E.mv hm103))).mono ?_
           clear t106
           rintro e w105 ⟨rfl,hbx⟩
           have hm105:=hm103.then hP103.lt hbx
           have hP105:=hP103.below hbx
           clear hbx
           rcases hx:isXml n103 with _ | _
           ·rw [hx] at hR
            rw [if_neg (by decide)] at hR
            have t108:=True.intro
            go_wp2_with (first
             | (
              have _t:=t108
              go_at_call 114
              go_loud (
               clear _t
               have hn:=takes_c hP105 (⟨#[63,62]⟩:ByteArray) (by decide)
               unfold takesS at hn
               rw [show bytesOf (⟨#[63,62]⟩:ByteArray) = [63,62] from rfl] at hn
               rcases hh107:(hasS bs [63,62] (a103)).1 with _ | _
               ·rw [hh107] at hn hR
                rw [if_neg (by decide)] at hn hR
                (try simp only at hR)
                refine hn.mono ?_
                clear hn t108
                rintro e w107 ⟨rfl,hmx⟩
                have hm107:Mv w w107 p (a103):=hm105.trans hmx
                have hle107:a103 ≤ bs.length:=hle103
                have hP107:=h.moved hm107 hle107
                clear hmx
                have t110:=True.intro
                go_wp2_with (first
                 | (
                  have _t:=t110
                  go_at_call 117
                  go_loud (
                   clear _t
                   have hn:=early1_c hP107 (⟨#[63,62]⟩:ByteArray) (by decide)
                   rw [show bytesOf (⟨#[63,62]⟩:ByteArray) = [63,62] from rfl] at hn
                   refine hn.mono ?_
                   clear hn t110
                   rintro e w109 he
                   rcases hq109:earlyS bs [[63,62]] (a103) with _ | f
                   ·rw [hq109] at hR he
                    obtain ⟨rfl,hbx⟩:=he
                    have hm109:=hm107.then hP107.lt hbx
                    have hP109:=hP107.below hbx
                    clear hbx
                    (try simp only at hR)
                    have t112:=True.intro
                    go_wp2_with (first
                     | (
                      have _t:=t112
                      go_at_call 113
                      go_loud (
                       clear _t
                       have hn:=blanks_c hP109
                       refine hn.mono ?_
                       clear hn t112
                       rintro e w111 he
                       rcases hq111:whiteS bs (a103) with f | a111
                       ·rw [hq111] at hR he
                        (try simp only at hR)
                        subst hR
                        obtain ⟨rfl,a5,hmx⟩:=he
                        go_wp2
                        exact ⟨rfl,rfl,_,hm109.trans hmx⟩
                       rw [hq111] at hR he
                       obtain ⟨rfl,hmx⟩:=he
                       have hm111:=hm109.trans hmx
                       have hle111:=(white_le h.bytes hle107 hq111).2
                       have hP111:=h.moved hm111 hle111
                       clear hmx
                       (try simp only at hR)
                       by_cases hw:a111 = a103
                       ·rw [if_pos hw] at hR
                        (try simp only at hR)
                        subst hw
                        have qb:decide (a111 < a111) = false:=by rw [decide_eq_false_iff_not];omega
                        have t113:=True.intro
                        go_wp2_with (first
                         | (
                          have _t:=t113
                          go_at_call 82
                          go_loud (
                           clear _t
                           refine (odd_c hP111).mono ?_
                           clear t113
                           rintro e wx ⟨rfl,hbx⟩
                           subst hR
                           go_wp2
                           exact ⟨rfl,rfl,_,hm111.then hP111.lt hbx⟩)))
                       ·rw [if_neg hw] at hR
                        (try simp only at hR)
                        have hwl:=(white_le h.bytes hle103 hq111).1
                        have qb:decide (a103 < a111) = true:=by rw [decide_eq_true_eq];omega
                        go_wp2
                        go_loopw [27] (fun _ wr=>∃ (a' k:Nat),Mv w wr p a' ∧ a' ≤ bs.length ∧ bs.length < k + a' ∧ untilL bs [63,62] k a' = R) (fun _ wr=>bs.length - atOf p wr)
                        case atStart=>exact ⟨_,bs.length + 1,hm111,hle111,by omega,hR⟩
                        case round=>
                         rename World=>wq
                         obtain ⟨a',k,hm10,hle10,h3,hR⟩:=hrel
                         have hP10:=h.moved hm10 hle10
                         obtain ⟨k',rfl⟩:∃ k',k = k' + 1:=⟨k - 1,by omega⟩
                         unfold untilL at hR
                         have t115:=True.intro
                         go_wp2_with (first
                          | (
                           have _t:=t115
                           go_at_call 114
                           go_loud (
                            clear _t
                            have hn:=takes_c hP10 (⟨#[63,62]⟩:ByteArray) (by decide)
                            unfold takesS at hn
                            rw [show bytesOf (⟨#[63,62]⟩:ByteArray) = [63,62] from rfl] at hn
                            rcases hh114:(hasS bs [63,62] (a')).1 with _ | _
                            ·rw [hh114] at hn hR
                             rw [if_neg (by decide)] at hn hR
                             (try simp only at hR)
                             refine hn.mono ?_
                             clear hn t115
                             rintro e w114 ⟨rfl,hmx⟩
                             have hm114:Mv w w114 p (a'):=hm10.trans hmx
                             have hle114:a' ≤ bs.length:=hle10
                             have hP114:=h.moved hm114 hle114
                             clear hmx
                             have t117:=True.intro
                             go_wp2_with (first
                              | (
                               have _t:=t117
                               go_at_call 105
                               go_loud (
                                clear _t
                                have hn:=must_c hP114
                                refine hn.mono ?_
                                clear hn t117
                                rintro e w116 he
                                rcases hq116:mustS bs (a') with f | r116
                                ·rw [hq116] at hR he
                                 (try simp only at hR)
                                 subst hR
                                 obtain ⟨rfl,hbx⟩:=he
                                 go_wp2
                                 exact ⟨rfl,rfl,_,hm114.then hP114.lt hbx⟩
                                rw [hq116] at hR he
                                obtain ⟨rfl,hbx⟩:=he
                                have hm116:=hm114.then hP114.lt hbx
                                have hP116:=hP114.below hbx
                                clear hbx
                                (try simp only at hR)
                                have hpk116:=(must_ok hq116).1
                                have hst116:=must_step h.bytes hle114 hq116
                                have t119:=True.intro
                                go_wp2_with (first
                                 | (
                                  have _t:=t119
                                  go_at_call 106
                                  go_loud (
                                   clear _t
                                   refine (next_ok hP116 (hpk116)).mono ?_
                                   clear t119
                                   rintro e w118 ⟨rfl,hmx⟩
                                   have hm118:=hm116.trans hmx
                                   have hle118:=(peek_step h.bytes (hle114) (hpk116)).1
                                   have hP118:=h.moved hm118 hle118
                                   clear hmx
                                   go_wp2
                                   exact ⟨⟨_,k',hm118,hle118,by omega,hR⟩,by rw [hm118.atOf,hm10.atOf];omega⟩))))))
                            ·rw [hh114] at hn hR
                             rw [if_pos rfl] at hn hR
                             (try simp only at hR)
                             refine hn.mono ?_
                             clear hn t115
                             rintro e w114 ⟨rfl,hmx⟩
                             have hm114:Mv w w114 p (a' + 2):=hm10.trans hmx
                             have hle114:a' + 2 ≤ bs.length:=has_le hle10 hh114
                             have hP114:=h.moved hm114 hle114
                             clear hmx
                             (try simp only at hR)
                             subst hR
                             go_wp2
                             go_end0
                             exact ⟨rfl,hm114⟩))))))
                   ·rw [hq109] at hR he
                    (try simp only at hR)
                    subst hR
                    obtain ⟨rfl,hbx⟩:=he
                    go_wp2
                    exact ⟨rfl,rfl,_,hm107.then hP107.lt hbx⟩)))
               ·rw [hh107] at hn hR
                rw [if_pos rfl] at hn hR
                (try simp only at hR)
                refine hn.mono ?_
                clear hn t108
                rintro e w107 ⟨rfl,hmx⟩
                have hm107:Mv w w107 p (a103 + 2):=hm105.trans hmx
                have hle107:a103 + 2 ≤ bs.length:=has_le hle103 hh107
                have hP107:=h.moved hm107 hle107
                clear hmx
                (try simp only at hR)
                subst hR
                go_wp2
                go_end0
                exact ⟨rfl,hm107⟩)))
           ·rw [hx] at hR
            rw [if_pos rfl] at hR
            have t120:=True.intro
            go_wp2_with (first
             | (
              have _t:=t120
              go_at_call 102
              go_loud (
               clear _t
               refine (fail_c _ _ _).mono ?_
               clear t120
               rintro e wx ⟨rfl,hbx⟩
               subst hR
               go_wp2
               exact ⟨rfl,rfl,_,hm105.then hP105.lt hbx⟩))))))))))))
end Go.Proofs.YtbaokjfhigjpdaaGreatDoorX
end
section
set_option linter.unusedVariables false
namespace Go.Proofs.YtbaokjfhigjpdaaGreatDoorX
open Go.RowKit Go.Shelf Go.Proofs.YtbaokjfhigjpdaaGreatDoor.PXmlBase Go.Proofs.YtbaokjfhigjpdaaGreatDoorW.PrintWords
open Go.Lib (CaseRow caseT caseA toR toLowerU convertR lookupGo lookupIdx lookupIdx_some encodeRune encodeRuneZ toLowerD mapD mapD_step decodeL lowerB lower_byte decodeL_ascii toLowerU_range)
def rowHigh (x:CaseRow):Bool:=decide (x.2.1 < 128) || (decide (128 ≤ x.1) && (decide (x.delta 1 > 1114111) || decide (128 ≤ (x.1:Int) + x.delta 1) || (decide (x.1 = x.2.1) && (decide ((x.1:Int) + x.delta 1 = 105) || decide ((x.1:Int) + x.delta 1 = 107)))))
set_option maxRecDepth 1000000 in
theorem rowsHigh:caseT.all rowHigh = true:=by decide
theorem caseA_high (i:Nat) (hi:i < caseA.size):rowHigh (caseA.getD i (0,0,0,0,0)) = true:=by
 have hm:caseA.getD i (0,0,0,0,0) ∈ caseT:=by
  unfold caseA at hi ⊢
  simp only [List.size_toArray] at hi
  simp [Array.getD,hi]
 exact List.all_eq_true.1 rowsHigh _ hm
theorem lower_high (r:Int) (h:128 ≤ r):128 ≤ toLowerU r ∨ toLowerU r = 105 ∨ toLowerU r = 107:=by
 unfold toLowerU
 rw [if_neg (by omega)]
 unfold toR lookupGo
 cases hi:lookupIdx caseA r (caseA.size + 1) 0 caseA.size with
 | none=>exact .inl h
 | some i=>
  obtain ⟨hil,hlo,hhi⟩:=lookupIdx_some caseA r _ _ _ i hi
  have hx:=caseA_high i hil
  show 128 ≤ convertR 1 r (caseA.getD i (0,0,0,0,0)) ∨ convertR 1 r (caseA.getD i (0,0,0,0,0)) = 105 ∨ convertR 1 r (caseA.getD i (0,0,0,0,0)) = 107
  generalize caseA.getD i (0,0,0,0,0) = x at *
  simp only [rowHigh,Bool.and_eq_true,decide_eq_true_eq,Bool.or_eq_true] at hx
  unfold convertR
  split <;> omega
theorem enc_high (r:Int) (h:128 ≤ r ∨ r = 105 ∨ r = 107):∃ y t,encodeRune r = y :: t ∧ (128 ≤ y.toNat ∨ y.toNat = 105 ∨ y.toNat = 107):=by
 unfold encodeRune encodeRuneZ
 split
 · exact ⟨_,_,rfl,by simp;omega⟩
 ·split
  · exact ⟨_,_,rfl,by simp;omega⟩
  ·split
   · exact ⟨_,_,rfl,by simp;omega⟩
   ·split
    · exact ⟨_,_,rfl,by simp;omega⟩
    · exact ⟨_,_,rfl,by simp⟩
theorem low_high (b:UInt8) (t:List UInt8) (h:128 ≤ b.toNat):∃ y u,toLowerD (b :: t) = y :: u ∧ (128 ≤ y.toNat ∨ y.toNat = 105 ∨ y.toNat = 107):=by
 have hd:128 ≤ (decodeL (b :: t)).1:=decode_high ⟨(b :: t).toArray⟩ (by simp [ByteArray.size]) h
 obtain ⟨y,u,he,hy⟩:=enc_high _ (lower_high ((decodeL (b :: t)).1:Int) (by omega))
 unfold toLowerD
 rw [mapD_step toLowerU (b :: t) (by simp)]
 have h0:0 ≤ toLowerU ((decodeL (b :: t)).1:Int):=by
  rcases lower_high ((decodeL (b :: t)).1:Int) (by omega) with h | h | h <;> omega
 rw [if_pos h0,he]
 exact ⟨_,_,rfl,hy⟩
theorem low_low (b:UInt8) (t:List UInt8) (h:b.toNat < 128):toLowerD (b :: t) = lowerB b :: toLowerD t:=by
 unfold toLowerD
 rw [mapD_step toLowerU (b :: t) (by simp),decodeL_ascii b t h]
 dsimp only
 rw [if_pos (toLowerU_range b.toNat (by omega)).1,lower_byte ⟨b.toNat,h⟩,List.drop_succ_cons,List.drop_zero]
 simp
theorem lowerB_high (b:UInt8) (h:128 ≤ b.toNat):128 ≤ (lowerB b).toNat:=by
 unfold lowerB Lib.isUpperB
 rw [if_neg]
 · exact h
 ·simp only [Bool.and_eq_true,decide_eq_true_eq,not_and]
  intro _ h2
  have:=UInt8.le_iff_toNat_le.1 h2
  simp at this
  omega
theorem pre_low:∀ (w l:List UInt8),(∀ x ∈ w,x.toNat < 128 ∧ x.toNat ≠ 105 ∧ x.toNat ≠ 107) → w.isPrefixOf (toLowerD l) = w.isPrefixOf (l.map lowerB)
  | [],l,_=>by simp
  | x :: w,[],_=>rfl
  | x :: w,b :: t,hw=>by
   have hx:=hw x List.mem_cons_self
   rcases Nat.lt_or_ge b.toNat 128 with h | h
   ·rw [low_low b t h,List.map_cons]
    simp only [List.isPrefixOf]
    rw [pre_low w t (fun y hy=>hw y (List.mem_cons_of_mem _ hy))]
   ·obtain ⟨y,u,e,hy⟩:=low_high b t h
    have hb:=lowerB_high b h
    rw [e,List.map_cons]
    simp only [List.isPrefixOf]
    have e1:(x == y) = false:=by rw [beq_eq_false_iff_ne];rintro rfl;omega
    have e2:(x == lowerB b) = false:=by rw [beq_eq_false_iff_ne];rintro rfl;omega
    rw [e1,e2]
    rfl
theorem low_pre:∀ (w l:List UInt8),(∀ x ∈ w,x.toNat < 128 ∧ x.toNat ≠ 105 ∧ x.toNat ≠ 107) → (toLowerD l).isPrefixOf w = (l.map lowerB).isPrefixOf w
  | w,[],_=>rfl
  | [],b :: t,_=>by
   rcases Nat.lt_or_ge b.toNat 128 with h | h
   ·rw [low_low b t h]
    rfl
   ·obtain ⟨y,u,e,hy⟩:=low_high b t h
    rw [e]
    rfl
  | x :: w,b :: t,hw=>by
   have hx:=hw x List.mem_cons_self
   rcases Nat.lt_or_ge b.toNat 128 with h | h
   ·rw [low_low b t h,List.map_cons]
    simp only [List.isPrefixOf]
    rw [low_pre w t (fun y hy=>hw y (List.mem_cons_of_mem _ hy))]
   ·obtain ⟨y,u,e,hy⟩:=low_high b t h
    have hb:=lowerB_high b h
    rw [e,List.map_cons]
    simp only [List.isPrefixOf]
    have e1:(y == x) = false:=by rw [beq_eq_false_iff_ne];rintro rfl;omega
    have e2:(lowerB b == x) = false:=by rw [beq_eq_false_iff_ne];rintro rfl;omega
    rw [e1,e2]
    rfl
end Go.Proofs.YtbaokjfhigjpdaaGreatDoorX
end
section
set_option linter.unusedVariables false
namespace Go.Proofs.YtbaokjfhigjpdaaGreatDoorX
open Go.RowKit Go.Shelf Go.Proofs.YtbaokjfhigjpdaaGreatDoor.PXmlBase Go.Proofs.YtbaokjfhigjpdaaGreatDoorW.PrintWords
def lowI (x:Int):Int:=if 65 ≤ x ∧ x ≤ 90 then x + 32 else x
def restS (bs:List Int) (small:Bool) (a:Nat):List Int:=if small = true then ((bs.drop a).take 16).map lowI else bs.drop a
def quotedS (bs:List Int) (small:Bool) (ws:List (List Int)) (a:Nat):XR Nat:=match mustS bs a with
 | .error e=>.error e
 | .ok _=>match quoteS bs a with
  | .error e=>.error e
  | .ok (q,a1)=>match ws.find? (fun w=>(w ++ [q]).isPrefixOf (restS bs small a1)) with
   | some w=>.ok (a1 + (w.length + 1))
   | none=>if ws.any (fun w=>(restS bs small a1).isPrefixOf (w ++ [q])) = true then .error (bs.length,2) else .error (refuseF bs a1 a1)
theorem quote_str (q:Int) (hq:q = 34 ∨ q = 39) (w:World):∃ qb:ByteArray,(convert 21 9 (.int .i32 q)).run Tryz.prog w = .ok (.string qb) w ∧ qb.data.toList = [UInt8.ofNat q.toNat]:=by
 rcases hq with rfl | rfl
 · exact ⟨⟨#[34]⟩,by simp [convert,run_underlying Tryz.underlying21,run_underlying Tryz.underlying9];rfl,rfl⟩
 · exact ⟨⟨#[39]⟩,by simp [convert,run_underlying Tryz.underlying21,run_underlying Tryz.underlying9];rfl,rfl⟩
theorem pre_map:∀ (X:List UInt8) (xs:List Int),Bytes xs → X.isPrefixOf (xs.map fun n=>UInt8.ofNat n.toNat) = (X.map fun b=>(b.toNat:Int)).isPrefixOf xs
  | [],_,_=>by simp
  | x :: X,[],_=>rfl
  | x :: X,y :: xs,hb=>by
   simp only [List.map_cons,List.isPrefixOf]
   rw [pre_map X xs hb.tail]
   congr 1
   have hy:=hb.head
   rw [Bool.eq_iff_iff,beq_iff_eq,beq_iff_eq]
   constructor
   ·rintro rfl
    simp
    omega
   ·intro h
    subst h
    simp
theorem concat_bytes (x qb:ByteArray) (q:Int) (hqb:qb.data.toList = [UInt8.ofNat q.toNat]) (hq:q = 34 ∨ q = 39):((x ++ qb).data.toList.map fun b=>(b.toNat:Int)) = bytesOf x ++ [q]:=by
 rw [ByteArray.data_append,Array.toList_append,hqb,List.map_append]
 rcases hq with rfl | rfl <;> rfl
theorem plain_pre (xs:List Int) (hb:Bytes xs) (x:ByteArray) (q:Int) (qb:ByteArray) (hqb:qb.data.toList = [UInt8.ofNat q.toNat]) (hq:q = 34 ∨ q = 39):Lib.hasPrefix (strOfNums xs).data.toList (x ++ qb).data.toList = (bytesOf x ++ [q]).isPrefixOf xs:=by
 unfold Lib.hasPrefix
 rw [strOfNums_data,pre_map _ _ hb,concat_bytes x qb q hqb hq]
theorem plain_pre' (xs:List Int) (hb:Bytes xs) (x:ByteArray) (q:Int) (qb:ByteArray) (hqb:qb.data.toList = [UInt8.ofNat q.toNat]) (hq:q = 34 ∨ q = 39):Lib.hasPrefix (x ++ qb).data.toList (strOfNums xs).data.toList = xs.isPrefixOf (bytesOf x ++ [q]):=by
 rw [strOfNums_data,hp_eq _ _ hb,concat_bytes x qb q hqb hq]
theorem lowI_u8 (x:Int) (h:0 ≤ x ∧ x < 256):Lib.lowerB (UInt8.ofNat x.toNat) = UInt8.ofNat (lowI x).toNat:=by
 have e:=u8_at x h
 unfold Lib.lowerB Lib.isUpperB lowI
 by_cases hx:65 ≤ x ∧ x ≤ 90
 ·rw [if_pos hx,if_pos]
  ·apply UInt8.toNat_inj.1
   have e2:=u8_at (x + 32) (by omega)
   rw [UInt8.toNat_add]
   simp at *
   omega
  ·simp only [Bool.and_eq_true,decide_eq_true_eq]
   exact ⟨UInt8.le_iff_toNat_le.2 (by simp;omega),UInt8.le_iff_toNat_le.2 (by simp;omega)⟩
 ·rw [if_neg hx,if_neg]
  simp only [Bool.and_eq_true,decide_eq_true_eq]
  rintro ⟨h1,h2⟩
  have h1:=UInt8.le_iff_toNat_le.1 h1
  have h2:=UInt8.le_iff_toNat_le.1 h2
  simp at h1 h2
  omega
theorem lowI_bytes (xs:List Int) (hb:Bytes xs):Bytes (xs.map lowI):=by
 intro y hy
 obtain ⟨x,hx,rfl⟩:=List.mem_map.1 hy
 have:=hb x hx
 unfold lowI
 split <;> omega
theorem lowI_map (xs:List Int) (hb:Bytes xs):(xs.map fun n=>UInt8.ofNat n.toNat).map Lib.lowerB = (xs.map lowI).map fun n=>UInt8.ofNat n.toNat:=by
 rw [List.map_map,List.map_map]
 exact List.map_congr_left fun x hx=>lowI_u8 x (hb x hx)
theorem ok_letters (x qb:ByteArray) (q:Int) (hqb:qb.data.toList = [UInt8.ofNat q.toNat]) (hq:q = 34 ∨ q = 39) (hx:∀ y ∈ x.data.toList,y.toNat < 128 ∧ y.toNat ≠ 105 ∧ y.toNat ≠ 107):∀ y ∈ (x ++ qb).data.toList,y.toNat < 128 ∧ y.toNat ≠ 105 ∧ y.toNat ≠ 107:=by
 intro y hy
 rw [ByteArray.data_append,Array.toList_append,hqb,List.mem_append] at hy
 rcases hy with hy | hy
 · exact hx y hy
 ·simp at hy
  subst hy
  rcases hq with rfl | rfl <;> decide
def Low16 (xs:List Int) (rs:ByteArray):Prop:=rs.data.toList = Lib.toLowerD ((xs.take 16).map fun n=>UInt8.ofNat n.toNat)
theorem low_pre1 (xs:List Int) (hb:Bytes xs) (x:ByteArray) (q:Int) (qb:ByteArray) (hqb:qb.data.toList = [UInt8.ofNat q.toNat]) (hq:q = 34 ∨ q = 39) (hx:∀ y ∈ x.data.toList,y.toNat < 128 ∧ y.toNat ≠ 105 ∧ y.toNat ≠ 107) (rs:ByteArray) (hrs:Low16 xs rs):Lib.hasPrefix rs.data.toList (x ++ qb).data.toList = (bytesOf x ++ [q]).isPrefixOf ((xs.take 16).map lowI):=by
 unfold Lib.hasPrefix
 rw [hrs,pre_low _ _ (ok_letters x qb q hqb hq hx),lowI_map _ (hb.take 16),pre_map _ _ (lowI_bytes _ (hb.take 16)),concat_bytes x qb q hqb hq]
theorem low_pre2 (xs:List Int) (hb:Bytes xs) (x:ByteArray) (q:Int) (qb:ByteArray) (hqb:qb.data.toList = [UInt8.ofNat q.toNat]) (hq:q = 34 ∨ q = 39) (hx:∀ y ∈ x.data.toList,y.toNat < 128 ∧ y.toNat ≠ 105 ∧ y.toNat ≠ 107) (rs:ByteArray) (hrs:Low16 xs rs):Lib.hasPrefix (x ++ qb).data.toList rs.data.toList = ((xs.take 16).map lowI).isPrefixOf (bytesOf x ++ [q]):=by
 have h1:=hp_eq (x ++ qb).data.toList _ (lowI_bytes _ (hb.take 16))
 rw [concat_bytes x qb q hqb hq] at h1
 rw [← h1]
 unfold Lib.hasPrefix
 rw [hrs,low_pre _ _ (ok_letters x qb q hqb hq hx),lowI_map _ (hb.take 16)]
theorem low_is (xs:List Int) (hb:Bytes xs) (w:World) (G:Gl w) (s:ByteArray) (hs:s = (strOfNums xs).extract 0 (min ((strOfNums xs).size:Int) 16).toNat) :
    Calls Tryz.prog 196 #[.string s] w fun e w'=>∃ rs,Low16 xs rs ∧ e = .returned (.string rs) ∧ Below w.heap.size w w':=by
  have e:s.data.toList = (xs.take 16).map fun n=>UInt8.ofNat n.toNat:=by
   subst hs
   rw [ByteArray.data_extract,Array.toList_extract,List.extract_eq_take_drop,strOfNums_data,size_str,List.drop_zero,← List.map_take]
   congr 1
   have e:(min (xs.length:Int) 16).toNat - 0 = min 16 xs.length:=by omega
   rw [e]
   exact (List.take_eq_take_min ..).symm
  refine (Tryz.strings_ToLower_any s w ?_ G.cases_ G.tabs).mono ?_
  ·have h1:s.size = s.data.toList.length:=rfl
   have h2:s.data.toList.length ≤ 16:=by rw [e,List.length_map,List.length_take];omega
   omega
  ·rintro e w' ⟨rfl,hb⟩
   exact ⟨_,by unfold Low16;simp [e],rfl,hb⟩
theorem find_at (P:List Int → Bool) (ws:List ByteArray) (k:Nat) (x:ByteArray) (hk:ws[k]? = some x) (hP:P (bytesOf x) = true) (hno:∀ y ∈ ws.take k,P (bytesOf y) = false):(ws.map bytesOf).find? P = some (bytesOf x):=by
 induction ws generalizing k with
 | nil=>simp at hk
 | cons y t ih=>
  cases k with
  | zero=>
   simp at hk
   subst hk
   rw [List.map_cons,List.find?_cons_of_pos hP]
  | succ k=>
   have hy:=hno y (by simp)
   rw [List.map_cons,List.find?_cons_of_neg (by rw [hy];decide)]
   exact ih k (by simpa using hk) (fun z hz=>hno z (by simp [hz]))
theorem find_none (P:List Int → Bool) (ws:List ByteArray) (hno:∀ y ∈ ws,P (bytesOf y) = false):(ws.map bytesOf).find? P = none:=by
 rw [List.find?_eq_none]
 intro y hy
 obtain ⟨x,hx,rfl⟩:=List.mem_map.1 hy
 rw [hno x hx]
 decide
theorem any_at (P:List Int → Bool) (ws:List ByteArray) (x:ByteArray) (hm:x ∈ ws) (hP:P (bytesOf x) = true):(ws.map bytesOf).any P = true :=
  List.any_eq_true.2 ⟨_,List.mem_map_of_mem hm,hP⟩
theorem any_none (P:List Int → Bool) (ws:List ByteArray) (hno:∀ y ∈ ws,P (bytesOf y) = false):¬ (ws.map bytesOf).any P = true:=by
 intro h
 obtain ⟨y,hy,h1⟩:=List.any_eq_true.1 h
 obtain ⟨x,hx,rfl⟩:=List.mem_map.1 hy
 rw [hno x hx] at h1
 cases h1
theorem drop_cells {w:World} {p:Nat} {bs:List Int} {tk a:Nat} (h:PB w p bs tk a):∀ ba cap,w.cell? ⟨p,0,none⟩ = some (.slice ba bs.length cap) → ∀ j x,(bs.drop a)[j]? = some x → ∃ y,ba.map (fun x=>x.add a) = some y ∧ w.drew.cell? (y.add j) = some (.int .u8 x):=by
 intro ba cap h0 j x hj
 obtain ⟨ba',cap',hrow,_,hcells⟩:=h.row
 rw [h0] at hrow
 cases hrow
 rw [List.getElem?_drop] at hj
 obtain ⟨hl,rfl⟩:=List.getElem?_eq_some_iff.1 hj
 obtain ⟨g',rfl,_,hc⟩:=hcells (a + j) hl
 exact ⟨_,rfl,by show w.drew.cell? (((⟨g',0,none⟩:Addr).add a).add j) = _;rw [plain_add,plain_add,Nat.zero_add];exact hc⟩
set_option maxRecDepth 100000 in
set_option maxHeartbeats 8000000 in
theorem quoted_c {w:World} {p:Nat} {bs:List Int} {tk a:Nat} (h:PB w p bs tk a) (E:Env w p) (small:Bool) (g c:Nat) (ws:List ByteArray) (hws:∀ x ∈ ws,x.size ≤ 1000 ∧ ∀ y ∈ x.data.toList,y.toNat < 128 ∧ y.toNat ≠ 105 ∧ y.toNat ≠ 107) (hgp:g ≠ p) (hc:∀ j (hj:j < ws.length),w.cell? ⟨g,j,none⟩ = some (.string ws[j])) (hn:ws.length ≤ 100) :
    Calls Tryz.prog 148 #[.pointer (some ⟨p,0,none⟩),.bool small,.slice (some ⟨g,0,none⟩) ws.length c] w (OutM w p ((quotedS bs small (ws.map bytesOf) a).map fun x=>(Value.tuple #[],x))):=by
  have h5:=h.here
  have hlt:=h.lt
  generalize hR:quotedS bs small (ws.map bytesOf) a = R
  unfold quotedS at hR
  go_enter Tryz.func148,Tryz.ntmps148
  have hm0:=Mv.of_below (Below.refl _ w) hlt h5
  have hP0:=h
  have hle0:=h.le
  have t102:=True.intro
  go_wp2_with (first
   | (
    have _t:=t102
    go_at_call 105
    go_loud (
     clear _t
     have hn:=must_c hP0
     refine hn.mono ?_
     clear hn t102
     rintro e w101 he
     rcases hq101:mustS bs (a) with f | r101
     ·rw [hq101] at hR he
      (try simp only at hR)
      subst hR
      obtain ⟨rfl,hbx⟩:=he
      go_wp2
      exact ⟨rfl,rfl,_,hm0.then hP0.lt hbx⟩
     rw [hq101] at hR he
     obtain ⟨rfl,hbx⟩:=he
     have hm101:=hm0.then hP0.lt hbx
     have hP101:=hP0.below hbx
     clear hbx
     (try simp only at hR)
     have hpk101:=(must_ok hq101).1
     have hst101:=must_step h.bytes h.le hq101
     have t104:=True.intro
     go_wp2_with (first
      | (
       have _t:=t104
       go_at_call 195
       go_loud (
        clear _t
        have hn:=quote_c hP101
        refine hn.mono ?_
        clear hn t104
        rintro e w103 he
        rcases hq103:quoteS bs (a) with f | ⟨q103,a103⟩
        ·rw [hq103] at hR he
         (try simp only at hR)
         subst hR
         obtain ⟨rfl,a5,hmx⟩:=he
         go_wp2
         exact ⟨rfl,rfl,_,hm101.trans hmx⟩
        rw [hq103] at hR he
        obtain ⟨rfl,hmx⟩:=he
        have hm103:=hm101.trans hmx
        have hle103:=(quote_le h.bytes h.le hq103).2.1
        have hP103:=h.moved hm103 hle103
        clear hmx
        (try simp only at hR)
        have hq34:=(quote_le h.bytes h.le hq103).2.2.2
        obtain ⟨qb,hqc,hqb⟩:=quote_str q103 hq34 w103
        have hh103:=hP103.here
        obtain ⟨ba,cap,hrow,hcap,hcells⟩:=hP103.row
        have hcut:=drop_cells hP103
        have hxb:=h.bytes.drop a103
        have hxl:(bs.drop a103).length = bs.length - a103:=List.length_drop ..
        obtain ⟨xs,hxs⟩:∃ xs,bs.drop a103 = xs:=⟨_,rfl⟩
        rw [hxs] at hxb hxl hcut
        have hcut:=hcut ba cap hrow
        clear hcells
        go_wp2
        by_cases hz:cap - a103 = 0
        ·have hcv:=fun c=>conv_any w103.drew ba xs c _ hxl hxb (fun j x hj=>absurd (List.getElem?_eq_some_iff.1 hj).1 (by omega))
         go_region
         have hbd:=(Below.refl w103.heap.size w103).drew
         have hm200:=hm103.then hP103.lt hbd
         have hP200:=hP103.below hbd
         clear hbd
         generalize w103.drew = w200 at *
         have hcl:∀ j (hj:j < ws.length),w200.cell? ⟨g,j,none⟩ = some (.string ws[j]):=fun j hj=>(World.cell?_of_block (hm200.block g (lt_of_cell (hc j hj)) hgp)).trans (hc j hj)
         rcases small with _ | _
         ·have hA:=fun x (_:x ∈ ws)=>plain_pre xs hxb x q103 qb hqb hq34
          have hB:=fun x (_:x ∈ ws)=>plain_pre' xs hxb x q103 qb hqb hq34
          rw [show restS bs false a103 = xs from hxs] at hR
          generalize strOfNums xs = rs at *
          have hF1:∀ x ∈ ws,x.size ≤ 1000:=fun x hx=>(hws x hx).1
          go_wp2
          go_loopw [36] (fun i wr=>∃ k:Nat,k ≤ ws.length ∧ i = .int .i64 k ∧ wr = w200 ∧ ∀ x ∈ ws.take k,(bytesOf x ++ [q103]).isPrefixOf xs = false) (fun i _=>ws.length - (intOf i).toNat)
          case atStart=>exact ⟨0,Nat.zero_le _,rfl,rfl,fun x hx=>by simp at hx⟩
          case round=>
           rename World=>wq
           obtain ⟨k,hk,rfl,rfl,hno⟩:=hrel
           have hfr:=hP200.free
           have hh:=hP200.here
           by_cases hlt2:k < ws.length
           ·have hck:=hcl k hlt2
            have htk:=take_snoc ws k hlt2
            have hmem:ws[k] ∈ ws:=List.getElem_mem hlt2
            have hAk:=hA ws[k] hmem
            have hsz:=hF1 ws[k] hmem
            have hpc:=hasPrefix_c rs (ws[k] ++ qb) wq
            have hget:ws[k]? = some ws[k]:=List.getElem?_eq_getElem hlt2
            rw [hAk] at hpc
            have hq1:qb.size = 1:=show qb.data.toList.length = 1 by rw [hqb];rfl
            have hfind:=find_at (fun w=>(w ++ [q103]).isPrefixOf xs) ws k
            clear hcl
            generalize ws[k] = x at *
            have hcc:¬ (9223372036854775807 < x.size + qb.size):=by omega
            rcases hct:(bytesOf x ++ [q103]).isPrefixOf xs with _ | _
            ·rw [hct] at hpc
             go_wp2_with (go_at_call 86;go_loud (refine hpc.mono ?_;rintro e w5 ⟨rfl,rfl⟩))
             refine ⟨⟨k + 1,by omega,by simp,trivial,fun y hy=>?_⟩,by simp [intOf];omega⟩
             rw [htk] at hy
             rcases List.mem_append.1 hy with hy | hy
             · exact hno y hy
             ·simp at hy
              rw [hy]
              exact hct
            ·rw [hct] at hpc
             rw [hfind x hget hct hno] at hR
             simp only at hR
             subst hR
             have hxl:(bytesOf x).length = x.size:=bytesOf_length x
             have hwr:IntKind.i64.wrap ((a103:Int) + ((x.size:Int) + 1)) = (a103:Int) + ((x.size:Int) + 1):=IntWalk.i64_in _ (by have:=h.small;omega)
             have hwr':Go.RowKit.wrap64 ((a103:Int) + ((x.size:Int) + 1)) = (a103:Int) + ((x.size:Int) + 1):=by have:=h.small;unfold Go.RowKit.wrap64;omega
             have hm300:=hm200.trans (Mv.set (a:=a103 + ((bytesOf x).length + 1)) hh)
             have e300:((a103 + ((bytesOf x).length + 1):Nat):Int) = (a103:Int) + ((x.size:Int) + 1):=by omega
             rw [e300] at hm300
             go_wp2_with (go_at_call 86;go_loud (refine hpc.mono ?_;rintro e w5 ⟨rfl,rfl⟩))
             go_end0
             exact ⟨rfl,hm300⟩
           ·obtain rfl:k = ws.length:=by omega
            rw [List.take_length] at hno
            rw [find_none (fun w=>(w ++ [q103]).isPrefixOf xs) ws hno] at hR
            simp only at hR
            go_wp2
            go_loopw [59] (fun i wr=>∃ k:Nat,k ≤ ws.length ∧ i = .int .i64 k ∧ wr = wq ∧ ∀ x ∈ ws.take k,xs.isPrefixOf (bytesOf x ++ [q103]) = false) (fun i _=>ws.length - (intOf i).toNat)
            case atStart=>exact ⟨0,Nat.zero_le _,rfl,rfl,fun x hx=>by simp at hx⟩
            case round=>
             rename World=>wt
             obtain ⟨k,hk,rfl,rfl,hno⟩:=hrel
             have hPt:=hP200
             obtain ⟨ba9,cap9,hrow9,_,_⟩:=hPt.row
             by_cases hlt2:k < ws.length
             ·have hck:=hcl k hlt2
              have htk:=take_snoc ws k hlt2
              have hmem:ws[k] ∈ ws:=List.getElem_mem hlt2
              have hBk:=hB ws[k] hmem
              have hsz:=hF1 ws[k] hmem
              have hpc:=hasPrefix_c (ws[k] ++ qb) rs wt
              rw [hBk] at hpc
              have hq1:qb.size = 1:=show qb.data.toList.length = 1 by rw [hqb];rfl
              have hany:=any_at (fun w=>xs.isPrefixOf (w ++ [q103])) ws ws[k] hmem
              clear hcl
              generalize ws[k] = x at *
              have hcc:¬ (9223372036854775807 < x.size + qb.size):=by omega
              rcases hct:xs.isPrefixOf (bytesOf x ++ [q103]) with _ | _
              ·rw [hct] at hpc
               go_wp2_with (go_at_call 86;go_loud (refine hpc.mono ?_;rintro e w5 ⟨rfl,rfl⟩))
               refine ⟨⟨k + 1,by omega,by simp,trivial,fun y hy=>?_⟩,by simp [intOf];omega⟩
               rw [htk] at hy
               rcases List.mem_append.1 hy with hy | hy
               · exact hno y hy
               ·simp at hy
                rw [hy]
                exact hct
              ·rw [hct] at hpc
               rw [if_pos (hany hct)] at hR
               subst hR
               go_wp2_with (first | (go_at_call 86;go_loud (refine hpc.mono ?_;rintro e w5 ⟨rfl,rfl⟩)) | (go_at_call 102;go_loud (refine (fail_c _ _ _).mono ?_;rintro e w6 ⟨rfl,hb6⟩)))
               exact ⟨rfl,rfl,_,hm200.then hPt.lt hb6⟩
             ·obtain rfl:k = ws.length:=by omega
              rw [List.take_length] at hno
              rw [if_neg (any_none (fun w=>xs.isPrefixOf (w ++ [q103])) ws hno)] at hR
              subst hR
              go_wp2_with (go_at_call 82;go_loud (refine (odd_c hPt).mono ?_;rintro e w6 ⟨rfl,hb6⟩))
              exact ⟨rfl,rfl,_,hm200.then hPt.lt hb6⟩
         ·have t107:=True.intro
          go_wp2_with (first
           | (
            have _t:=t107
            go_at_call 196
            go_loud (
             clear _t
             refine (low_is xs hxb w200 (Env.gl (E.mv hm200)) _ rfl).mono ?_
             clear t107
             rintro e w201 ⟨rs,hrs,rfl,hbx⟩
             have hm201:=hm200.then hP200.lt hbx
             have hP201:=hP200.below hbx
             have hcl:∀ j (hj:j < ws.length),w201.cell? ⟨g,j,none⟩ = some (.string ws[j]):=fun j hj=>(World.cell?_of_block (hm201.block g (lt_of_cell (hc j hj)) hgp)).trans (hc j hj)
             clear hbx
             have hA:=fun x (hx:x ∈ ws)=>low_pre1 xs hxb x q103 qb hqb hq34 (hws x hx).2 rs hrs
             have hB:=fun x (hx:x ∈ ws)=>low_pre2 xs hxb x q103 qb hqb hq34 (hws x hx).2 rs hrs
             rw [show restS bs true a103 = (xs.take 16).map lowI from by unfold restS;rw [if_pos rfl,hxs]] at hR
             generalize (xs.take 16).map lowI = ys at *
             have hF1:∀ x ∈ ws,x.size ≤ 1000:=fun x hx=>(hws x hx).1
             go_wp2
             go_loopw [36] (fun i wr=>∃ k:Nat,k ≤ ws.length ∧ i = .int .i64 k ∧ wr = w201 ∧ ∀ x ∈ ws.take k,(bytesOf x ++ [q103]).isPrefixOf ys = false) (fun i _=>ws.length - (intOf i).toNat)
             case atStart=>exact ⟨0,Nat.zero_le _,rfl,rfl,fun x hx=>by simp at hx⟩
             case round=>
              rename World=>wq
              obtain ⟨k,hk,rfl,rfl,hno⟩:=hrel
              have hfr:=hP201.free
              have hh:=hP201.here
              by_cases hlt2:k < ws.length
              ·have hck:=hcl k hlt2
               have htk:=take_snoc ws k hlt2
               have hmem:ws[k] ∈ ws:=List.getElem_mem hlt2
               have hAk:=hA ws[k] hmem
               have hsz:=hF1 ws[k] hmem
               have hpc:=hasPrefix_c rs (ws[k] ++ qb) wq
               have hget:ws[k]? = some ws[k]:=List.getElem?_eq_getElem hlt2
               rw [hAk] at hpc
               have hq1:qb.size = 1:=show qb.data.toList.length = 1 by rw [hqb];rfl
               have hfind:=find_at (fun w=>(w ++ [q103]).isPrefixOf ys) ws k
               clear hcl
               generalize ws[k] = x at *
               have hcc:¬ (9223372036854775807 < x.size + qb.size):=by omega
               rcases hct:(bytesOf x ++ [q103]).isPrefixOf ys with _ | _
               ·rw [hct] at hpc
                go_wp2_with (go_at_call 86;go_loud (refine hpc.mono ?_;rintro e w5 ⟨rfl,rfl⟩))
                refine ⟨⟨k + 1,by omega,by simp,trivial,fun y hy=>?_⟩,by simp [intOf];omega⟩
                rw [htk] at hy
                rcases List.mem_append.1 hy with hy | hy
                · exact hno y hy
                ·simp at hy
                 rw [hy]
                 exact hct
               ·rw [hct] at hpc
                rw [hfind x hget hct hno] at hR
                simp only at hR
                subst hR
                have hxl:(bytesOf x).length = x.size:=bytesOf_length x
                have hwr:IntKind.i64.wrap ((a103:Int) + ((x.size:Int) + 1)) = (a103:Int) + ((x.size:Int) + 1):=IntWalk.i64_in _ (by have:=h.small;omega)
                have hwr':Go.RowKit.wrap64 ((a103:Int) + ((x.size:Int) + 1)) = (a103:Int) + ((x.size:Int) + 1):=by have:=h.small;unfold Go.RowKit.wrap64;omega
                have hm300:=hm201.trans (Mv.set (a:=a103 + ((bytesOf x).length + 1)) hh)
                have e300:((a103 + ((bytesOf x).length + 1):Nat):Int) = (a103:Int) + ((x.size:Int) + 1):=by omega
                rw [e300] at hm300
                go_wp2_with (go_at_call 86;go_loud (refine hpc.mono ?_;rintro e w5 ⟨rfl,rfl⟩))
                go_end0
                exact ⟨rfl,hm300⟩
              ·obtain rfl:k = ws.length:=by omega
               rw [List.take_length] at hno
               rw [find_none (fun w=>(w ++ [q103]).isPrefixOf ys) ws hno] at hR
               simp only at hR
               go_wp2
               go_loopw [59] (fun i wr=>∃ k:Nat,k ≤ ws.length ∧ i = .int .i64 k ∧ wr = wq ∧ ∀ x ∈ ws.take k,ys.isPrefixOf (bytesOf x ++ [q103]) = false) (fun i _=>ws.length - (intOf i).toNat)
               case atStart=>exact ⟨0,Nat.zero_le _,rfl,rfl,fun x hx=>by simp at hx⟩
               case round=>
                rename World=>wt
                obtain ⟨k,hk,rfl,rfl,hno⟩:=hrel
                have hPt:=hP201
                obtain ⟨ba9,cap9,hrow9,_,_⟩:=hPt.row
                by_cases hlt2:k < ws.length
                ·have hck:=hcl k hlt2
                 have htk:=take_snoc ws k hlt2
                 have hmem:ws[k] ∈ ws:=List.getElem_mem hlt2
                 have hBk:=hB ws[k] hmem
                 have hsz:=hF1 ws[k] hmem
                 have hpc:=hasPrefix_c (ws[k] ++ qb) rs wt
                 rw [hBk] at hpc
                 have hq1:qb.size = 1:=show qb.data.toList.length = 1 by rw [hqb];rfl
                 have hany:=any_at (fun w=>ys.isPrefixOf (w ++ [q103])) ws ws[k] hmem
                 clear hcl
                 generalize ws[k] = x at *
                 have hcc:¬ (9223372036854775807 < x.size + qb.size):=by omega
                 rcases hct:ys.isPrefixOf (bytesOf x ++ [q103]) with _ | _
                 ·rw [hct] at hpc
                  go_wp2_with (go_at_call 86;go_loud (refine hpc.mono ?_;rintro e w5 ⟨rfl,rfl⟩))
                  refine ⟨⟨k + 1,by omega,by simp,trivial,fun y hy=>?_⟩,by simp [intOf];omega⟩
                  rw [htk] at hy
                  rcases List.mem_append.1 hy with hy | hy
                  · exact hno y hy
                  ·simp at hy
                   rw [hy]
                   exact hct
                 ·rw [hct] at hpc
                  rw [if_pos (hany hct)] at hR
                  subst hR
                  go_wp2_with (first | (go_at_call 86;go_loud (refine hpc.mono ?_;rintro e w5 ⟨rfl,rfl⟩)) | (go_at_call 102;go_loud (refine (fail_c _ _ _).mono ?_;rintro e w6 ⟨rfl,hb6⟩)))
                  exact ⟨rfl,rfl,_,hm201.then hPt.lt hb6⟩
                ·obtain rfl:k = ws.length:=by omega
                 rw [List.take_length] at hno
                 rw [if_neg (any_none (fun w=>ys.isPrefixOf (w ++ [q103])) ws hno)] at hR
                 subst hR
                 go_wp2_with (go_at_call 82;go_loud (refine (odd_c hPt).mono ?_;rintro e w6 ⟨rfl,hb6⟩))
                 exact ⟨rfl,rfl,_,hm201.then hPt.lt hb6⟩)))
        ·have hcv:=fun c=>conv_any w103.drew _ xs c _ hxl hxb hcut
         go_region
         have hbd:=(Below.refl w103.heap.size w103).drew
         have hm200:=hm103.then hP103.lt hbd
         have hP200:=hP103.below hbd
         clear hbd
         generalize w103.drew = w200 at *
         have hcl:∀ j (hj:j < ws.length),w200.cell? ⟨g,j,none⟩ = some (.string ws[j]):=fun j hj=>(World.cell?_of_block (hm200.block g (lt_of_cell (hc j hj)) hgp)).trans (hc j hj)
         rcases small with _ | _
         ·have hA:=fun x (_:x ∈ ws)=>plain_pre xs hxb x q103 qb hqb hq34
          have hB:=fun x (_:x ∈ ws)=>plain_pre' xs hxb x q103 qb hqb hq34
          rw [show restS bs false a103 = xs from hxs] at hR
          generalize strOfNums xs = rs at *
          have hF1:∀ x ∈ ws,x.size ≤ 1000:=fun x hx=>(hws x hx).1
          go_wp2
          go_loopw [36] (fun i wr=>∃ k:Nat,k ≤ ws.length ∧ i = .int .i64 k ∧ wr = w200 ∧ ∀ x ∈ ws.take k,(bytesOf x ++ [q103]).isPrefixOf xs = false) (fun i _=>ws.length - (intOf i).toNat)
          case atStart=>exact ⟨0,Nat.zero_le _,rfl,rfl,fun x hx=>by simp at hx⟩
          case round=>
           rename World=>wq
           obtain ⟨k,hk,rfl,rfl,hno⟩:=hrel
           have hfr:=hP200.free
           have hh:=hP200.here
           by_cases hlt2:k < ws.length
           ·have hck:=hcl k hlt2
            have htk:=take_snoc ws k hlt2
            have hmem:ws[k] ∈ ws:=List.getElem_mem hlt2
            have hAk:=hA ws[k] hmem
            have hsz:=hF1 ws[k] hmem
            have hpc:=hasPrefix_c rs (ws[k] ++ qb) wq
            have hget:ws[k]? = some ws[k]:=List.getElem?_eq_getElem hlt2
            rw [hAk] at hpc
            have hq1:qb.size = 1:=show qb.data.toList.length = 1 by rw [hqb];rfl
            have hfind:=find_at (fun w=>(w ++ [q103]).isPrefixOf xs) ws k
            clear hcl
            generalize ws[k] = x at *
            have hcc:¬ (9223372036854775807 < x.size + qb.size):=by omega
            rcases hct:(bytesOf x ++ [q103]).isPrefixOf xs with _ | _
            ·rw [hct] at hpc
             go_wp2_with (go_at_call 86;go_loud (refine hpc.mono ?_;rintro e w5 ⟨rfl,rfl⟩))
             refine ⟨⟨k + 1,by omega,by simp,trivial,fun y hy=>?_⟩,by simp [intOf];omega⟩
             rw [htk] at hy
             rcases List.mem_append.1 hy with hy | hy
             · exact hno y hy
             ·simp at hy
              rw [hy]
              exact hct
            ·rw [hct] at hpc
             rw [hfind x hget hct hno] at hR
             simp only at hR
             subst hR
             have hxl:(bytesOf x).length = x.size:=bytesOf_length x
             have hwr:IntKind.i64.wrap ((a103:Int) + ((x.size:Int) + 1)) = (a103:Int) + ((x.size:Int) + 1):=IntWalk.i64_in _ (by have:=h.small;omega)
             have hwr':Go.RowKit.wrap64 ((a103:Int) + ((x.size:Int) + 1)) = (a103:Int) + ((x.size:Int) + 1):=by have:=h.small;unfold Go.RowKit.wrap64;omega
             have hm300:=hm200.trans (Mv.set (a:=a103 + ((bytesOf x).length + 1)) hh)
             have e300:((a103 + ((bytesOf x).length + 1):Nat):Int) = (a103:Int) + ((x.size:Int) + 1):=by omega
             rw [e300] at hm300
             go_wp2_with (go_at_call 86;go_loud (refine hpc.mono ?_;rintro e w5 ⟨rfl,rfl⟩))
             go_end0
             exact ⟨rfl,hm300⟩
           ·obtain rfl:k = ws.length:=by omega
            rw [List.take_length] at hno
            rw [find_none (fun w=>(w ++ [q103]).isPrefixOf xs) ws hno] at hR
            simp only at hR
            go_wp2
            go_loopw [59] (fun i wr=>∃ k:Nat,k ≤ ws.length ∧ i = .int .i64 k ∧ wr = wq ∧ ∀ x ∈ ws.take k,xs.isPrefixOf (bytesOf x ++ [q103]) = false) (fun i _=>ws.length - (intOf i).toNat)
            case atStart=>exact ⟨0,Nat.zero_le _,rfl,rfl,fun x hx=>by simp at hx⟩
            case round=>
             rename World=>wt
             obtain ⟨k,hk,rfl,rfl,hno⟩:=hrel
             have hPt:=hP200
             obtain ⟨ba9,cap9,hrow9,_,_⟩:=hPt.row
             by_cases hlt2:k < ws.length
             ·have hck:=hcl k hlt2
              have htk:=take_snoc ws k hlt2
              have hmem:ws[k] ∈ ws:=List.getElem_mem hlt2
              have hBk:=hB ws[k] hmem
              have hsz:=hF1 ws[k] hmem
              have hpc:=hasPrefix_c (ws[k] ++ qb) rs wt
              rw [hBk] at hpc
              have hq1:qb.size = 1:=show qb.data.toList.length = 1 by rw [hqb];rfl
              have hany:=any_at (fun w=>xs.isPrefixOf (w ++ [q103])) ws ws[k] hmem
              clear hcl
              generalize ws[k] = x at *
              have hcc:¬ (9223372036854775807 < x.size + qb.size):=by omega
              rcases hct:xs.isPrefixOf (bytesOf x ++ [q103]) with _ | _
              ·rw [hct] at hpc
               go_wp2_with (go_at_call 86;go_loud (refine hpc.mono ?_;rintro e w5 ⟨rfl,rfl⟩))
               refine ⟨⟨k + 1,by omega,by simp,trivial,fun y hy=>?_⟩,by simp [intOf];omega⟩
               rw [htk] at hy
               rcases List.mem_append.1 hy with hy | hy
               · exact hno y hy
               ·simp at hy
                rw [hy]
                exact hct
              ·rw [hct] at hpc
               rw [if_pos (hany hct)] at hR
               subst hR
               go_wp2_with (first | (go_at_call 86;go_loud (refine hpc.mono ?_;rintro e w5 ⟨rfl,rfl⟩)) | (go_at_call 102;go_loud (refine (fail_c _ _ _).mono ?_;rintro e w6 ⟨rfl,hb6⟩)))
               exact ⟨rfl,rfl,_,hm200.then hPt.lt hb6⟩
             ·obtain rfl:k = ws.length:=by omega
              rw [List.take_length] at hno
              rw [if_neg (any_none (fun w=>xs.isPrefixOf (w ++ [q103])) ws hno)] at hR
              subst hR
              go_wp2_with (go_at_call 82;go_loud (refine (odd_c hPt).mono ?_;rintro e w6 ⟨rfl,hb6⟩))
              exact ⟨rfl,rfl,_,hm200.then hPt.lt hb6⟩
         ·have t107:=True.intro
          go_wp2_with (first
           | (
            have _t:=t107
            go_at_call 196
            go_loud (
             clear _t
             refine (low_is xs hxb w200 (Env.gl (E.mv hm200)) _ rfl).mono ?_
             clear t107
             rintro e w201 ⟨rs,hrs,rfl,hbx⟩
             have hm201:=hm200.then hP200.lt hbx
             have hP201:=hP200.below hbx
             have hcl:∀ j (hj:j < ws.length),w201.cell? ⟨g,j,none⟩ = some (.string ws[j]):=fun j hj=>(World.cell?_of_block (hm201.block g (lt_of_cell (hc j hj)) hgp)).trans (hc j hj)
             clear hbx
             have hA:=fun x (hx:x ∈ ws)=>low_pre1 xs hxb x q103 qb hqb hq34 (hws x hx).2 rs hrs
             have hB:=fun x (hx:x ∈ ws)=>low_pre2 xs hxb x q103 qb hqb hq34 (hws x hx).2 rs hrs
             rw [show restS bs true a103 = (xs.take 16).map lowI from by unfold restS;rw [if_pos rfl,hxs]] at hR
             generalize (xs.take 16).map lowI = ys at *
             have hF1:∀ x ∈ ws,x.size ≤ 1000:=fun x hx=>(hws x hx).1
             go_wp2
             go_loopw [36] (fun i wr=>∃ k:Nat,k ≤ ws.length ∧ i = .int .i64 k ∧ wr = w201 ∧ ∀ x ∈ ws.take k,(bytesOf x ++ [q103]).isPrefixOf ys = false) (fun i _=>ws.length - (intOf i).toNat)
             case atStart=>exact ⟨0,Nat.zero_le _,rfl,rfl,fun x hx=>by simp at hx⟩
             case round=>
              rename World=>wq
              obtain ⟨k,hk,rfl,rfl,hno⟩:=hrel
              have hfr:=hP201.free
              have hh:=hP201.here
              by_cases hlt2:k < ws.length
              ·have hck:=hcl k hlt2
               have htk:=take_snoc ws k hlt2
               have hmem:ws[k] ∈ ws:=List.getElem_mem hlt2
               have hAk:=hA ws[k] hmem
               have hsz:=hF1 ws[k] hmem
               have hpc:=hasPrefix_c rs (ws[k] ++ qb) wq
               have hget:ws[k]? = some ws[k]:=List.getElem?_eq_getElem hlt2
               rw [hAk] at hpc
               have hq1:qb.size = 1:=show qb.data.toList.length = 1 by rw [hqb];rfl
               have hfind:=find_at (fun w=>(w ++ [q103]).isPrefixOf ys) ws k
               clear hcl
               generalize ws[k] = x at *
               have hcc:¬ (9223372036854775807 < x.size + qb.size):=by omega
               rcases hct:(bytesOf x ++ [q103]).isPrefixOf ys with _ | _
               ·rw [hct] at hpc
                go_wp2_with (go_at_call 86;go_loud (refine hpc.mono ?_;rintro e w5 ⟨rfl,rfl⟩))
                refine ⟨⟨k + 1,by omega,by simp,trivial,fun y hy=>?_⟩,by simp [intOf];omega⟩
                rw [htk] at hy
                rcases List.mem_append.1 hy with hy | hy
                · exact hno y hy
                ·simp at hy
                 rw [hy]
                 exact hct
               ·rw [hct] at hpc
                rw [hfind x hget hct hno] at hR
                simp only at hR
                subst hR
                have hxl:(bytesOf x).length = x.size:=bytesOf_length x
                have hwr:IntKind.i64.wrap ((a103:Int) + ((x.size:Int) + 1)) = (a103:Int) + ((x.size:Int) + 1):=IntWalk.i64_in _ (by have:=h.small;omega)
                have hwr':Go.RowKit.wrap64 ((a103:Int) + ((x.size:Int) + 1)) = (a103:Int) + ((x.size:Int) + 1):=by have:=h.small;unfold Go.RowKit.wrap64;omega
                have hm300:=hm201.trans (Mv.set (a:=a103 + ((bytesOf x).length + 1)) hh)
                have e300:((a103 + ((bytesOf x).length + 1):Nat):Int) = (a103:Int) + ((x.size:Int) + 1):=by omega
                rw [e300] at hm300
                go_wp2_with (go_at_call 86;go_loud (refine hpc.mono ?_;rintro e w5 ⟨rfl,rfl⟩))
                go_end0
                exact ⟨rfl,hm300⟩
              ·obtain rfl:k = ws.length:=by omega
               rw [List.take_length] at hno
               rw [find_none (fun w=>(w ++ [q103]).isPrefixOf ys) ws hno] at hR
               simp only at hR
               go_wp2
               go_loopw [59] (fun i wr=>∃ k:Nat,k ≤ ws.length ∧ i = .int .i64 k ∧ wr = wq ∧ ∀ x ∈ ws.take k,ys.isPrefixOf (bytesOf x ++ [q103]) = false) (fun i _=>ws.length - (intOf i).toNat)
               case atStart=>exact ⟨0,Nat.zero_le _,rfl,rfl,fun x hx=>by simp at hx⟩
               case round=>
                rename World=>wt
                obtain ⟨k,hk,rfl,rfl,hno⟩:=hrel
                have hPt:=hP201
                obtain ⟨ba9,cap9,hrow9,_,_⟩:=hPt.row
                by_cases hlt2:k < ws.length
                ·have hck:=hcl k hlt2
                 have htk:=take_snoc ws k hlt2
                 have hmem:ws[k] ∈ ws:=List.getElem_mem hlt2
                 have hBk:=hB ws[k] hmem
                 have hsz:=hF1 ws[k] hmem
                 have hpc:=hasPrefix_c (ws[k] ++ qb) rs wt
                 rw [hBk] at hpc
                 have hq1:qb.size = 1:=show qb.data.toList.length = 1 by rw [hqb];rfl
                 have hany:=any_at (fun w=>ys.isPrefixOf (w ++ [q103])) ws ws[k] hmem
                 clear hcl
                 generalize ws[k] = x at *
                 have hcc:¬ (9223372036854775807 < x.size + qb.size):=by omega
                 rcases hct:ys.isPrefixOf (bytesOf x ++ [q103]) with _ | _
                 ·rw [hct] at hpc
                  go_wp2_with (go_at_call 86;go_loud (refine hpc.mono ?_;rintro e w5 ⟨rfl,rfl⟩))
                  refine ⟨⟨k + 1,by omega,by simp,trivial,fun y hy=>?_⟩,by simp [intOf];omega⟩
                  rw [htk] at hy
                  rcases List.mem_append.1 hy with hy | hy
                  · exact hno y hy
                  ·simp at hy
                   rw [hy]
                   exact hct
                 ·rw [hct] at hpc
                  rw [if_pos (hany hct)] at hR
                  subst hR
                  go_wp2_with (first | (go_at_call 86;go_loud (refine hpc.mono ?_;rintro e w5 ⟨rfl,rfl⟩)) | (go_at_call 102;go_loud (refine (fail_c _ _ _).mono ?_;rintro e w6 ⟨rfl,hb6⟩)))
                  exact ⟨rfl,rfl,_,hm201.then hPt.lt hb6⟩
                ·obtain rfl:k = ws.length:=by omega
                 rw [List.take_length] at hno
                 rw [if_neg (any_none (fun w=>ys.isPrefixOf (w ++ [q103])) ws hno)] at hR
                 subst hR
                 go_wp2_with (go_at_call 82;go_loud (refine (odd_c hPt).mono ?_;rintro e w6 ⟨rfl,hb6⟩))
                 exact ⟨rfl,rfl,_,hm201.then hPt.lt hb6⟩)))))))))
end Go.Proofs.YtbaokjfhigjpdaaGreatDoorX
end
