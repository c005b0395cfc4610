/- What is proved: what the claims of this seat share, part 22: a program of ours merged it out of our own texts, the print's words and the laid shelf. Conditions: those of each. -/
import Derived.Test.YtbaokjfhigjpdaaGreatDoorMB21
import Derived.Laws.Externs
import Derived.Laws.IdiomStrings
import Derived.Lib.AppendStr
import Derived.Lib.Builder
import Derived.Lib.Strings
import Derived.Lib.Walk
set_option linter.unusedVariables false
set_option linter.unusedSimpArgs false
section
set_option linter.unusedVariables false
namespace Go.Proofs.YtbaokjfhigjpdaaGreatDoorX
open Go.RowKit Go.Shelf Go.Proofs.YtbaokjfhigjpdaaGreatDoor.PXmlBase Go.Proofs.YtbaokjfhigjpdaaGreatDoorW.PrintWords
set_option maxHeartbeats 1000000 in
set_option maxRecDepth 100000 in
theorem copyCheck_used (b:Nat) (w:World) (h0:w.cell? ⟨b,0,none⟩ = some (.pointer (some ⟨b,0,none⟩))) :
    Calls Tryz.prog 69 #[.pointer (some ⟨b,0,none⟩)] w fun e w'=>e = .returned (.tuple #[]) ∧ w' = w:=by
  obtain ⟨j,hj,_⟩:=Option.map_eq_some_iff.1 (show (Tryz.prog.info? 107).map (fun i=>i.size) = some 2 by kernel_rfl)
  go_enter Tryz.func69,Tryz.ntmps69
  go_wp2
  rw [Lib.run_neq_ptr_same w _ Tryz.underlying105 hj]
  go_wp2
  go_end0
  exact ⟨rfl,rfl⟩
set_option maxHeartbeats 1000000 in
set_option maxRecDepth 100000 in
theorem copyCheck_fresh (b:Nat) (w:World) (h0:w.cell? ⟨b,0,none⟩ = some (.pointer none)) (hsh:w.shape? b = some (107,2)) (hfz:w.frozen? ⟨b,0,none⟩ = false) :
    Calls Tryz.prog 69 #[.pointer (some ⟨b,0,none⟩)] w fun e w'=>e = .returned (.tuple #[]) ∧ w' = w.setCell ⟨b,0,none⟩ (.pointer (some ⟨b,0,none⟩)):=by
  obtain ⟨j,hj,hjs⟩:=Option.map_eq_some_iff.1 (show (Tryz.prog.info? 107).map (fun i=>i.size) = some 2 by kernel_rfl)
  go_enter Tryz.func69,Tryz.ntmps69
  go_wp2
  rw [Lib.run_to_unsafe w ⟨b,0,none⟩ Tryz.underlying105 Tryz.underlying194 hj (by rw [hjs];decide) hsh (Nat.zero_lt_succ 1)]
  simp only [Result.andThen]
  rw [Oper.upon_value]
  go_wp2
  rw [run_callFunc_extern Tryz.func91 (by kernel_rfl) (by kernel_rfl) (by kernel_rfl) (e:=Extern.AbiNoEscape.same) (by kernel_rfl)]
  rw [Lib.run_noEscape]
  simp only [Result.andThen]
  rw [Oper.upon_value]
  go_wp2
  rw [Lib.run_from_unsafe w ⟨b,0,none⟩ Tryz.underlying194 Tryz.underlying105 hj hsh (by kernel_rfl)]
  simp only [Result.andThen]
  rw [Oper.upon_value]
  go_wp2
  go_end0
  exact ⟨rfl,rfl⟩
def MB (b R:Nat) (bs:List Value) (w:World):Prop:=b < R ∧ R ≤ w.heap.size ∧ ∃ p v,(p = .pointer none ∨ p = .pointer (some ⟨b,0,none⟩)) ∧ w.heap[b]? = some (.cells #[p,v] 107 (0,0)) ∧ w.ownsRow R 5 1 v bs.length bs
structure MF (b R:Nat) (w w':World):Prop where
  os:w'.os = w.os
  tape:w'.tape = w.tape
  output:w'.output = w.output
  size:w.heap.size ≤ w'.heap.size
  block:∀ k,k < R → k ≠ b → w'.heap[k]? = w.heap[k]?
theorem MF.trans {b R:Nat} {u v w:World} (h:MF b R u v) (k:MF b R v w):MF b R u w:=⟨k.os.trans h.os,k.tape.trans h.tape,k.output.trans h.output,Nat.le_trans h.size k.size,fun i hi hb=>(k.block i hi hb).trans (h.block i hi hb)⟩
theorem MF.refl (b R:Nat) (w:World):MF b R w w:=⟨rfl,rfl,rfl,Nat.le_refl _,fun _ _ _=>rfl⟩
theorem MF.drewN {b R n:Nat} {u v:World} (h:MF b R u v):MF b R u (v.drewN n):=⟨h.os,h.tape,h.output,h.size,h.block⟩
theorem MB.is {b R:Nat} {bs:List Value} {w:World} (h:MB b R bs w):Lib.IsBuilder 107 5 b b bs w:=by
 obtain ⟨h1,h2,p,v,hp,hb,ho⟩:=h
 have ho':w.ownsRow b 5 1 v bs.length bs:=by
  refine ⟨ho.1,?_⟩
  rcases ho.2 with h3 | ⟨g,cap,cur,e1,e2,r⟩
  · exact .inl h3
  · exact .inr ⟨g,cap,cur,e1,by omega,r⟩
 have hne:v.ownBlock ≠ some b:=fun e=>by have:=(ho.lt b e).1;omega
 rcases hp with rfl | rfl
 · exact .inl ⟨Nat.le_refl _,v,hb,ho',hne⟩
 · exact .inr ⟨Nat.le_refl _,v,hb,ho',hne⟩
theorem copyCheck_m (b R:Nat) (bs:List Value) (w:World) (h:MB b R bs w) :
    Calls Tryz.prog 69 #[.pointer (some ⟨b,0,none⟩)] w fun e w'=>e = .returned (.tuple #[]) ∧ R ≤ w'.heap.size ∧ MF b R w w' ∧ ∃ v,w'.heap[b]? = some (.cells #[.pointer (some ⟨b,0,none⟩),v] 107 (0,0)) ∧ w'.ownsRow R 5 1 v bs.length bs:=by
  obtain ⟨h1,h2,p,v,hp,hb,ho⟩:=h
  rcases hp with rfl | rfl
  ·refine (copyCheck_fresh b w (blk_cell hb 0) (by simp [World.shape?,hb]) (blk_frz hb 0)).mono ?_
   rintro e w' ⟨rfl,rfl⟩
   have hset:∀ k,k ≠ b → (w.setCell ⟨b,0,none⟩ (.pointer (some ⟨b,0,none⟩))).heap[k]? = w.heap[k]?:=fun k hk=>Below.heap_setCell w ⟨b,0,none⟩ _ k hk
   have hsz:(w.setCell ⟨b,0,none⟩ (.pointer (some ⟨b,0,none⟩))).heap.size = w.heap.size:=by simp [World.setCell]
   exact ⟨rfl,by rw [hsz];exact h2,⟨rfl,rfl,rfl,by rw [hsz];exact Nat.le_refl _,fun k _ hk=>hset k hk⟩,v,blk_set hb,ownsRow_of_blocks ho (fun k hk=>hset k (fun e=>by have:=(ho.lt k hk).1;omega))⟩
  ·refine (copyCheck_used b w (blk_cell hb 0)).mono ?_
   rintro e w' ⟨rfl,rfl⟩
   exact ⟨rfl,h2,MF.refl _ _ _,v,hb,ho⟩
theorem MB.put {b R:Nat} {bs:List Value} {w w1 w2:World} {v v':Value} {n:Nat} (hR:b < R) (hR1:R ≤ w1.heap.size) (hF:MF b R w w1) (hbk:w1.heap[b]? = some (.cells #[.pointer (some ⟨b,0,none⟩),v] 107 (0,0))) (hown:∀ k,v.ownBlock = some k → R ≤ k)
    (hg:w1.grownBy w2 v.ownBlock) (hn:n = bs.length) (hown':w2.ownsRow R 5 1 v' n bs):MB b R bs (w2.setCell ⟨b,1,none⟩ v') ∧ MF b R w (w2.setCell ⟨b,1,none⟩ v'):=by
  subst hn
  have hset:∀ k,k ≠ b → (w2.setCell ⟨b,1,none⟩ v').heap[k]? = w2.heap[k]?:=fun k hk=>Below.heap_setCell w2 ⟨b,1,none⟩ _ k hk
  have hsz:(w2.setCell ⟨b,1,none⟩ v').heap.size = w2.heap.size:=by simp [World.setCell]
  have hb2:w2.heap[b]? = some (.cells #[.pointer (some ⟨b,0,none⟩),v] 107 (0,0)):=(hg.block b (by omega) (fun e=>by have:=hown b e.symm;omega)).trans hbk
  refine ⟨⟨hR,by rw [hsz];exact Nat.le_trans hR1 hg.size,_,v',.inr rfl,blk_set hb2,ownsRow_of_blocks hown' (fun k hk=>hset k (fun e=>by have:=(hown'.lt k hk).1;omega))⟩,⟨hg.os.trans hF.os,hg.tape.trans hF.tape,hg.output.trans hF.output,by rw [hsz];exact Nat.le_trans hF.size hg.size,fun k hk hkb=>(hset k hkb).trans ((hg.block k (by omega) (fun e=>by have:=hown k e.symm;omega)).trans (hF.block k hk hkb))⟩⟩
set_option maxHeartbeats 2000000 in
set_option maxRecDepth 100000 in
theorem writeString_c (b R:Nat) (bs:List Value) (s:ByteArray) (w:World) (h:MB b R bs w) (hlen:bs.length + s.size ≤ 140737488355328) :
    Calls Tryz.prog 45 #[.pointer (some ⟨b,0,none⟩),.string s] w fun e w'=>e = .returned (.tuple #[.int .i64 s.size,.nilIface]) ∧ MB b R (bs ++ Lib.strCells s) w' ∧ MF b R w w':=by
  obtain ⟨i0,hi,hzz⟩:=Option.map_eq_some_iff.1 (show (Tryz.prog.info? 5).map (fun i=>(i.zero,i.size,i.bytes)) = some (some (.int .u8 0),1,1) by kernel_rfl)
  simp only [Prod.mk.injEq] at hzz
  obtain ⟨hz0,hz1,hz2⟩:=hzz
  have hR:=h.1
  go_enter Tryz.func45,Tryz.ntmps45
  go_wp2_with (go_at_call 69;refine (copyCheck_m b R bs _ h).mono ?_)
  rintro e w1 ⟨rfl,hR1,hF1,v,hbk,hown⟩
  have c0:w1.cell? ⟨b,0,none⟩ = some (.pointer (some ⟨b,0,none⟩)):=blk_cell hbk 0
  have c1:w1.cell? ⟨b,1,none⟩ = some v:=blk_cell hbk 1
  go_wp2_with (at_builtin;refine Lib.wpList_append_own_string _ rfl _ _ 33 9 rfl R 5 i0 Tryz.underlying33 Tryz.underlying9 hi hz0 hz1 hz2 _ _ _ rfl hown s rfl ?c3 ?c4 ?c5 ?_)
  case c3=>unfold maxLen;omega
  case c4=>omega
  case c5=>omega
  intro v' w2 hown' hgrow _
  have hlt:b < w1.heap.size:=by omega
  have hb2:w2.heap[b]? = some (.cells #[.pointer (some ⟨b,0,none⟩),v] 107 (0,0)):=by
   rw [hgrow.block b hlt (fun e=>by have:=(hown.lt b e.symm).1;omega)]
   exact hbk
  have d0:w2.cell? ⟨b,0,none⟩ = some (.pointer (some ⟨b,0,none⟩)):=blk_cell hb2 0
  have d1:w2.cell? ⟨b,1,none⟩ = some v:=blk_cell hb2 1
  have f1:w2.frozen? ⟨b,1,none⟩ = false:=blk_frz hb2 1
  obtain ⟨ao,n',cap,rfl⟩:∃ ao n' cap,v' = .slice ao n' cap:=by
   rcases hown'.2 with ⟨hv,_⟩ | ⟨g,cap,cur,hv,_⟩
   · exact ⟨_,_,_,hv⟩
   · exact ⟨_,_,_,hv⟩
  go_wp2
  go_ret2
  exact ⟨rfl,MB.put hR hR1 hF1 hbk (fun k hk=>(hown.lt k hk).1) hgrow (by simp [Lib.strCells_length]) hown'⟩
end Go.Proofs.YtbaokjfhigjpdaaGreatDoorX
end
section
set_option linter.unusedVariables false
namespace Go.Proofs.YtbaokjfhigjpdaaGreatDoorT
open Go.RowKit Go.Shelf
open Go.Proofs.YtbaokjfhigjpdaaGreatDoorN (NA flatN flatB)
open Go.Proofs.YtbaokjfhigjpdaaGreatDoorX (RowAt blk_lt blk_cell blk_frz lt_of_cell ownsRow_of_blocks MB MF writeString_c)
section
variable {n0:Nat} {ms:List NP} {ns:List ND}
theorem dep_le (ns:List ND):∀ (f i:Nat),depF ns f i ≤ f
  | 0,i=>Nat.le_refl _
  | f + 1,i=>by
   unfold depF
   split
   · have:∀ (l:List Nat) (a:Nat),a ≤ f → (l.map (depF ns f)).foldl max a ≤ f:=by
       intro l
       induction l with
       | nil=>exact fun a h=>h
       | cons x r ih=>
        intro a h
        exact ih _ (Nat.max_le.2 ⟨h,dep_le ns f x⟩)
     have:=this (kidsOf ns i) 0 (Nat.zero_le _)
     omega
   · exact Nat.zero_le _
set_option maxRecDepth 100000 in
set_option maxHeartbeats 4000000 in
theorem depth_c:∀ (f i:Nat) (w:World),Fo w n0 ms ns → n0 ≤ w.heap.size → i < ns.length → ns.length ≤ f + i → f ≤ 1000000 → (∀ d ∈ ns,d.kids.length ≤ 1000000) →
    Calls Tryz.prog 27 #[ptrOf ms i] w fun e W=>e = .returned (.int .i64 (depF ns f i)) ∧ Below n0 w W:=by
  intro f
  induction f with
  | zero=>
   intro i w _ _ hi hf
   omega
  | succ f ih=>
   intro i w hF hn hi hf hfl hkl
   obtain ⟨m,dd,h1,h2,h3,h4⟩:=hF.get hi
   have hel:=hF.elem hi
   have hkd:=hkl dd (List.mem_of_getElem? h2)
   have hup:=hF.up i dd h2
   obtain ⟨ka,kc,e1,e2⟩:=h3.kid
   have c6:w.cell? ⟨m.b,6,none⟩ = some (.slice ka dd.kids.length kc):=(Go.Proofs.YtbaokjfhigjpdaaGreatDoorX.blk_cell h3.blk 6).trans (congrArg some e1)
   rw [h4] at hel ⊢
   unfold depF
   rw [kidsOf_eq h2]
   cases hb:elemN ns i with
   | false=>
    rw [hb] at hel
    go_enter Tryz.func27,Tryz.ntmps27
    go_wp2_with (go_at_call 37;go_loud (refine hel.mono ?_;clear hel;rintro e w5 ⟨rfl,hw5⟩;subst w5))
    go_ret
    exact ⟨rfl,Below.refl _ _⟩
   | true=>
    rw [hb] at hel
    go_enter Tryz.func27,Tryz.ntmps27
    go_wp2_with (go_at_call 37;go_loud (refine hel.mono ?_;clear hel;rintro e w5 ⟨rfl,hw5⟩;subst w5))
    go_loopw [3,14] (fun ov iv wr=>∃ k:Nat,k ≤ dd.kids.length ∧ iv = .int .i64 k ∧ ov = .int .i64 (((dd.kids.take k).map (depF ns f)).foldl max 0:Nat) ∧ Below n0 w wr) (fun _ iv _=>dd.kids.length - (intOf iv).toNat)
    case atStart=>exact ⟨0,Nat.zero_le _,rfl,rfl,Below.refl _ _⟩
    case round=>
     rename World=>wr
     obtain ⟨k,hkl2,rfl,rfl,hbr⟩:=hrel
     by_cases hlt:k < dd.kids.length
     ·have htk:=take_next hlt
      have hj:=hup dd.kids[k] (List.getElem_mem hlt)
      obtain ⟨g,rfl,ck0⟩:=e2 k dd.kids[k] (List.getElem?_eq_getElem hlt)
      have hgl:g < n0:=hF.low m (List.mem_of_getElem? h1) g (.inr (.inr (.inr (by rw [e1];rfl))))
      have ck:=(World.cell?_of_block (hbr.block g hgl)).trans ck0
      have hrec:=ih dd.kids[k] wr (hF.below hbr) (Nat.le_trans hn hbr.size) hj.2 (by omega) (by omega) hkl
      have hfold:((dd.kids.take (k + 1)).map (depF ns f)).foldl max 0 = max (((dd.kids.take k).map (depF ns f)).foldl max 0) (depF ns f dd.kids[k]):=by
       rw [htk,List.map_append,List.foldl_append]
       rfl
      generalize dd.kids[k] = j at *
      obtain ⟨mj,dj,j1,j2,j3,j4⟩:=hF.get hj.2
      rw [j4] at ck hrec
      generalize ((dd.kids.take k).map (depF ns f)).foldl max 0 = acc at *
      generalize depF ns f j = dj' at *
      go_wp2_with (go_at_call 27;go_loud (refine hrec.mono ?_;clear hrec;rintro e w9 ⟨rfl,hb9⟩))
      all_goals
       refine ⟨⟨k + 1,by omega,by simp,?_,hbr.trans hb9⟩,by simp [intOf];omega⟩
       rw [hfold]
       first
        | (simp;omega)
        | (congr 1;omega)
     ·obtain rfl:k = dd.kids.length:=by omega
      simp only [List.take_length] at *
      have hle:((dd.kids.map (depF ns f)).foldl max 0) ≤ f:=by
       have:=dep_le ns (f + 1) i
       unfold depF at this
       rw [if_pos hb,kidsOf_eq h2] at this
       omega
      generalize hacc:(dd.kids.map (depF ns f)).foldl max 0 = acc at *
      have hw1:IntKind.i64.wrap ((acc:Int) + 1) = (acc:Int) + 1:=IntWalk.i64_in _ (by omega)
      go_wp2
      go_ret
      exact ⟨rfl,hbr⟩
def strL (ns:List ND) (i:Nat):List UInt8:=((kidsOf ns i).filter fun j=>!elemN ns j).flatMap fun j=>((ns[j]?).map fun d=>d.text.data.toList).getD []
theorem strCells_eq (s:ByteArray):Lib.strCells s = Lib.byteCells s.data.toList:=rfl
set_option maxRecDepth 100000 in
set_option maxHeartbeats 4000000 in
theorem str_c {w:World} (hF:Fo w n0 ms ns) (hn:n0 ≤ w.heap.size) {i:Nat} (hi:i < ns.length) (hb:elemN ns i = true) (hkl:(kidsOf ns i).length ≤ 1000000) (hsz:(strL ns i).length ≤ 1000000000) :
    Calls Tryz.prog 25 #[ptrOf ms i] w fun e W=>e = .returned (.string ⟨(strL ns i).toArray⟩) ∧ Below w.heap.size w W:=by
  obtain ⟨m,dd,h1,h2,h3,h4⟩:=hF.get hi
  have hel:=hF.elem hi
  rw [hb] at hel
  have hup:=hF.up i dd h2
  obtain ⟨ka,kc,e1,e2⟩:=h3.kid
  have c6:w.cell? ⟨m.b,6,none⟩ = some (.slice ka dd.kids.length kc):=(Go.Proofs.YtbaokjfhigjpdaaGreatDoorX.blk_cell h3.blk 6).trans (congrArg some e1)
  have hkd:=kidsOf_eq h2
  unfold strL at hsz ⊢
  rw [hkd] at hkl hsz ⊢
  rw [h4] at hel ⊢
  have hmb:=hF.blow h1
  have hb1:=(Below.refl w.heap.size w).alloc (Nat.le_refl _) (.cells #[.pointer none,.slice none 0 0] 107)
  have c6':=(World.cell?_of_block (hb1.block m.b (by omega))).trans c6
  have hnb:=heap_alloc_new w (.cells #[.pointer none,.slice none 0 0] 107)
  have hMB0:MB w.heap.size (w.heap.size + 1) [] (w.alloc (.cells #[.pointer none,.slice none 0 0] 107)):=⟨by omega,by simp,_,_,.inl rfl,hnb,World.ownsRow_nil _ _ _ _⟩
  go_enter Tryz.func25,Tryz.ntmps25
  go_wp2_with (go_at_call 37;go_loud (refine hel.mono ?_;clear hel;rintro e w5 ⟨rfl,hw5⟩;subst w5))
  have hs1:(w.alloc (.cells #[.pointer none,.slice none 0 0] 107)).heap.size = w.heap.size + 1:=by simp
  generalize hw1:w.alloc (.cells #[.pointer none,.slice none 0 0] 107) = w1 at *
  go_loopw [18] (fun iv wr=>∃ k:Nat,k ≤ dd.kids.length ∧ iv = .int .i64 k ∧ MB w.heap.size (w.heap.size + 1) (Lib.byteCells (((dd.kids.take k).filter fun j=>!elemN ns j).flatMap fun j=>((ns[j]?).map fun d=>d.text.data.toList).getD [])) wr ∧ MF w.heap.size (w.heap.size + 1) w1 wr) (fun iv _=>dd.kids.length - (intOf iv).toNat)
  case atStart=>exact ⟨0,Nat.zero_le _,rfl,hMB0,Go.Proofs.YtbaokjfhigjpdaaGreatDoorX.MF.refl _ _ _⟩
  case round=>
   rename World=>wr
   obtain ⟨k,hkl2,rfl,hMB,hMF⟩:=hrel
   clear hMB0
   have hbr:Below w.heap.size w wr:=hb1.trans ⟨hMF.os,hMF.tape,hMF.output,hMF.size,fun j hj=>hMF.block j (by omega) (by omega)⟩
   by_cases hlt:k < dd.kids.length
   ·have htk:=take_next hlt
    have hj:=hup dd.kids[k] (List.getElem_mem hlt)
    obtain ⟨g,rfl,ck0⟩:=e2 k dd.kids[k] (List.getElem?_eq_getElem hlt)
    have ck:=(World.cell?_of_block (hbr.block g (lt_of_cell ck0))).trans ck0
    have hlen:(((dd.kids.take (k + 1)).filter fun j=>!elemN ns j).flatMap fun j=>((ns[j]?).map fun d=>d.text.data.toList).getD []).length ≤ 1000000000:=by
     refine Nat.le_trans ?_ hsz
     conv=>rhs;rw [← List.take_append_drop (k + 1) dd.kids,List.filter_append,List.flatMap_append,List.length_append]
     omega
    have hFr:=hF.below (hbr.mono hn)
    have hel2:=hFr.elem hj.2
    rw [htk,List.filter_append,List.flatMap_append] at hlen
    generalize dd.kids[k] = j at *
    obtain ⟨mj,dj,j1,j2,j3,j4⟩:=hFr.get hj.2
    rw [j4] at ck hel2
    have c7:wr.cell? ⟨mj.b,7,none⟩ = some (.string dj.text):=Go.Proofs.YtbaokjfhigjpdaaGreatDoorX.blk_cell j3.blk 7
    cases hbj:elemN ns j with
    | true=>
     rw [hbj] at hel2
     go_wp2_with (go_at_call 37;go_loud (refine hel2.mono ?_;clear hel2;rintro e w5 ⟨rfl,hw5⟩;subst w5))
     refine ⟨⟨k + 1,by omega,by simp,?_,hMF⟩,by simp [intOf];omega⟩
     rw [htk,List.filter_append]
     simpa [hbj] using hMB
    | false=>
     rw [hbj] at hel2
     have hfj:([j].filter fun j=>!elemN ns j).flatMap (fun j=>((ns[j]?).map fun d=>d.text.data.toList).getD []) = dj.text.data.toList:=by
      simp [hbj,j2]
     rw [hfj,List.length_append] at hlen
     have hsl:dj.text.size = dj.text.data.toList.length:=by rw [Array.length_toList];rfl
     have hws:=writeString_c w.heap.size (w.heap.size + 1) _ dj.text wr hMB (by simp [Lib.byteCells];simp at hlen;omega)
     have hout:∀ W,MB w.heap.size (w.heap.size + 1) (Lib.byteCells (((dd.kids.take k).filter fun j=>!elemN ns j).flatMap fun j=>((ns[j]?).map fun d=>d.text.data.toList).getD []) ++ Lib.strCells dj.text) W → MB w.heap.size (w.heap.size + 1) (Lib.byteCells (((dd.kids.take (k + 1)).filter fun j=>!elemN ns j).flatMap fun j=>((ns[j]?).map fun d=>d.text.data.toList).getD [])) W:=fun W h=>by
      rw [htk,List.filter_append,List.flatMap_append,hfj]
      rw [strCells_eq] at h
      simpa [Lib.byteCells] using h
     clear hMB
     go_wp2_with (first
      | (go_at_call 37;go_loud (refine hel2.mono ?_;clear hel2;rintro e w5 ⟨rfl,hw5⟩;subst w5))
      | (go_at_call 45;go_loud (refine hws.mono ?_;clear hws;rintro e w6 ⟨rfl,hMB6,hMF6⟩)))
     exact ⟨⟨k + 1,by omega,by simp,hout _ hMB6,hMF.trans hMF6⟩,by simp [intOf];omega⟩
   ·obtain rfl:k = dd.kids.length:=by omega
    simp only [List.take_length] at hMB
    go_wp2_with (go_at_call 46;go_loud (refine (Tryz.Builder_String_any w.heap.size w.heap.size _ wr hMB.is hbr.size).mono ?_;rintro e w5 ⟨rfl,hb5⟩))
    go_ret
    exact ⟨rfl,hbr.trans hb5⟩
end
end Go.Proofs.YtbaokjfhigjpdaaGreatDoorT
end
section
set_option linter.unusedVariables false
namespace Go.Proofs.YtbaokjfhigjpdaaGreatDoorT
open Go.RowKit Go.Shelf
open Go.Proofs.YtbaokjfhigjpdaaGreatDoorN (NA flatN flatB)
open Go.Proofs.YtbaokjfhigjpdaaGreatDoorX (RowAt blk_lt blk_cell blk_frz lt_of_cell ownsRow_of_blocks)
def attrS (sp lc:ByteArray):List NA → ByteArray × Bool
  | []=>(⟨#[]⟩,false)
  | a :: r=>if a.1.1.toList = sp.toList ∧ a.1.2.toList = lc.toList then (a.2.1,true) else attrS sp lc r
section
variable {n0:Nat} {ms:List NP} {ns:List ND}
theorem row_at {w:World} {e:TypeId} {A:Option Addr} {n c:Nat} {xs:List Value} {size:Nat} (h:RowAt w e size (.slice A n c) n xs) (hn:0 < n):∃ g off,A = some ⟨g,off,none⟩ ∧ ∀ j u,xs[j]? = some u → w.cell? ⟨g,off + j,none⟩ = some u:=by
 obtain ⟨g,off,rfl⟩:=Go.Proofs.YtbaokjfhigjpdaaGreatDoorX.RowAt.some h rfl hn
 exact ⟨g,off,rfl,Go.Proofs.YtbaokjfhigjpdaaGreatDoorX.RowAt.cells h rfl⟩
set_option maxRecDepth 100000 in
set_option maxHeartbeats 4000000 in
theorem attr_c {w:World} (hF:Fo w n0 ms ns) (hn:n0 ≤ w.heap.size) {i:Nat} {d:ND} (hd:ns[i]? = some d) (hal:d.attrs.length ≤ 1000000) (sp lc:ByteArray) :
    Calls Tryz.prog 24 #[ptrOf ms i,.agg #[.string sp,.string lc]] w fun e W=>e = .returned (.tuple #[.string (attrS sp lc d.attrs).1,.bool (attrS sp lc d.attrs).2]) ∧ Below w.heap.size w W:=by
  obtain ⟨m,d',h1,h2,h3,h4⟩:=hF.get (List.getElem?_eq_some_iff.1 hd).1
  rw [hd] at h2
  cases h2
  rw [h4]
  obtain ⟨A,c,eA,hc⟩:=Go.Proofs.YtbaokjfhigjpdaaGreatDoorX.RowAt.slice h3.attrs
  have har:=h3.attrs
  rw [eA] at har
  have c4:w.cell? ⟨m.b,4,none⟩ = some (.slice A d.attrs.length c):=(Go.Proofs.YtbaokjfhigjpdaaGreatDoorX.blk_cell h3.blk 4).trans (congrArg some eA)
  have hmb:=hF.blow h1
  have hb1:=(Below.refl w.heap.size w).alloc (Nat.le_refl _) (.cells #[.string sp,.string lc] 23)
  have c4':=(World.cell?_of_block (hb1.block m.b (by omega))).trans c4
  have hbx:=heap_alloc_new w (.cells #[.string sp,.string lc] 23)
  go_enter Tryz.func24,Tryz.ntmps24
  go_wp2
  go_loopw [13] (fun iv wr=>∃ k:Nat,k ≤ d.attrs.length ∧ iv = .int .i64 k ∧ attrS sp lc (d.attrs.drop k) = attrS sp lc d.attrs ∧ Below (w.heap.size + 1) (w.alloc (.cells #[.string sp,.string lc] 23)) wr) (fun iv _=>d.attrs.length - (intOf iv).toNat)
  case atStart=>exact ⟨0,Nat.zero_le _,rfl,rfl,Below.refl _ _⟩
  case round=>
   rename World=>wr
   obtain ⟨k,hkl,rfl,hat,hbr⟩:=hrel
   have hb0:Below w.heap.size w wr:=hb1.trans (hbr.mono (by omega))
   have hsz:=hbr.size
   simp only [World.size_alloc] at hsz
   have x0:wr.cell? ⟨w.heap.size,0,none⟩ = some (.string sp):=(World.cell?_of_block (hbr.block w.heap.size (by omega))).trans (Go.Proofs.YtbaokjfhigjpdaaGreatDoorX.blk_cell hbx 0)
   have x1:wr.cell? ⟨w.heap.size,1,none⟩ = some (.string lc):=(World.cell?_of_block (hbr.block w.heap.size (by omega))).trans (Go.Proofs.YtbaokjfhigjpdaaGreatDoorX.blk_cell hbx 1)
   have hlw:w.heap.size < wr.heap.size:=by omega
   by_cases hlt:k < d.attrs.length
   ·obtain ⟨g,off,rfl,hcs⟩:=row_at har (by omega)
    obtain ⟨f0,f1,f2,f3⟩:=flatN_get d.attrs k hlt
    have mv:∀ {j:Nat} {u:Value},(flatN d.attrs)[j]? = some u → wr.cell? ⟨g,off + j,none⟩ = some u:=fun {j u} hu=>(World.cell?_of_block (hb0.block g (lt_of_cell (hcs j u hu)))).trans (hcs j u hu)
    have g0:=mv f0
    have g1:wr.cell? ⟨g,off + k * 4 + 1,none⟩ = some (.string d.attrs[k].1.2):=mv f1
    have g2:wr.cell? ⟨g,off + k * 4 + 2,none⟩ = some (.string d.attrs[k].2.1):=mv f2
    have g3:wr.cell? ⟨g,off + k * 4 + 3,none⟩ = some (.int .i64 d.attrs[k].2.2):=mv f3
    have hdr:d.attrs.drop k = d.attrs[k] :: d.attrs.drop (k + 1):=List.drop_eq_getElem_cons hlt
    rw [hdr] at hat
    generalize d.attrs[k] = a at *
    go_wp2
    ·rename_i hc1 hc2
     rw [attrS,if_pos ⟨hc1,hc2⟩] at hat
     refine bodyPost_ret (v:=.tuple #[.string a.2.1,.bool true]) (by simp [results,Tryz.f24,go_sem]) rfl ?_
     rw [← hat]
     exact ⟨rfl,hb0.alloc hb0.size _⟩
    ·rename_i hc1 hc2
     rw [attrS,if_neg fun h=>hc2 h.2] at hat
     exact ⟨⟨k + 1,by omega,by simp,hat,hbr.alloc hsz _⟩,by simp [intOf];omega⟩
    ·rename_i hc1
     rw [attrS,if_neg fun h=>hc1 h.1] at hat
     exact ⟨⟨k + 1,by omega,by simp,hat,hbr.alloc hsz _⟩,by simp [intOf];omega⟩
   ·obtain rfl:k = d.attrs.length:=by omega
    rw [List.drop_length] at hat
    go_wp2
    refine bodyPost_ret (v:=.tuple #[.string ⟨#[]⟩,.bool false]) (by simp [results,Tryz.f24,go_sem]) rfl ?_
    rw [← hat]
    exact ⟨rfl,hb0⟩
end
end Go.Proofs.YtbaokjfhigjpdaaGreatDoorT
end
