/- What is proved: what the claims of this seat share, part 11: a program of ours merged it out of our own texts, the print's words and the laid shelf. Conditions: those of each. -/
import Derived.Test.YtbaokjfhigjpdaaGreatDoorMB10
import Derived.Lib.Bytes
set_option linter.unusedVariables false
set_option linter.unusedSimpArgs false
section
set_option linter.unusedVariables false
namespace Go.Proofs.YtbaokjfhigjpdaaGreatDoorX
open Go.RowKit Go.Shelf Go.Proofs.YtbaokjfhigjpdaaGreatDoor.PXmlBase Go.Proofs.YtbaokjfhigjpdaaGreatDoorW.PrintWords
set_option maxRecDepth 100000 in
set_option maxHeartbeats 4000000 in
theorem same_c {w:World} (n m v:ByteArray) (at_:Int) (ab:Nat) (hn:w.cell? ⟨ab,0,none⟩ = some (.string m)) :
    Calls Tryz.prog 199 #[.agg #[.string n,.string v,.int .i64 at_],.pointer (some ⟨ab,0,none⟩)] w fun e W=>e = .returned (.bool (n.toList == m.toList)) ∧ Below w.heap.size w W:=by
  have hn2:=(Below.refl w.heap.size w).alloc (Nat.le_refl _) (.cells #[.string n,.string v,.int .i64 at_] 163)
  have hn3:=cellB hn2 hn (lt_of_cell hn)
  go_enter Tryz.func199,Tryz.ntmps199
  go_wp2
  go_ret
  exact ⟨rfl,hn2⟩
theorem u8_inj:∀ (a b:List Int),Bytes a → Bytes b → (a.map fun n=>UInt8.ofNat n.toNat) = (b.map fun n=>UInt8.ofNat n.toNat) → a = b
  | [],[],_,_,_=>rfl
  | [],_ :: _,_,_,h=>by cases h
  | _ :: _,[],_,_,h=>by cases h
  | x :: t,y :: u,ha,hb,h=>by
   simp only [List.map_cons,List.cons.injEq] at h
   have hx:=u8_at x ha.head
   have hy:=u8_at y hb.head
   have e:((UInt8.ofNat x.toNat).toNat:Int) = ((UInt8.ofNat y.toNat).toNat:Int):=by rw [h.1]
   rw [hx,hy] at e
   rw [e,u8_inj t u ha.tail hb.tail h.2]
theorem eq_str (a b:List Int) (ha:Bytes a) (hb:Bytes b):((strOfNums a).toList == (strOfNums b).toList) = (a == b):=by
 rw [Bool.eq_iff_iff,beq_iff_eq,beq_iff_eq,Lib.strOfNums_toList,Lib.strOfNums_toList]
 constructor
 ·intro h
  exact u8_inj a b ha hb h
 ·rintro rfl
  rfl
theorem xa_get:∀ (l:List XA) (k:Nat) (hk:k < l.length) (i:Nat) (hi:i < 3),(l.flatMap xaCells)[k * 3 + i]? = (xaCells l[k])[i]?
  | x :: t,0,hk,i,hi=>by
   rw [List.flatMap_cons,List.getElem?_append_left (by show _ < 3;omega)]
   simp
  | x :: t,k + 1,hk,i,hi=>by
   rw [List.flatMap_cons,List.getElem?_append_right (by show 3 ≤ _;omega),List.getElem_cons_succ]
   have:=xa_get t k (by simpa using hk) i hi
   rw [← this]
   congr 1
   show (k + 1) * 3 + i - 3 = k * 3 + i
   omega
set_option maxRecDepth 100000 in
set_option maxHeartbeats 4000000 in
theorem index_c {w:World} (v:Value) (l:List XA) (h:AttrRow w v l) (ab:Nat) (m:List Int) (hm:w.cell? ⟨ab,0,none⟩ = some (.string (strOfNums m))) (hl:l.length ≤ 100000) :
    Calls Tryz.prog 230 #[v,.func (.func 199) #[] #[.pointer (some ⟨ab,0,none⟩)]] w fun e W=>(∃ i:Int,e = .returned (.int .i64 i) ∧ decide (0 ≤ i) = l.any fun x=>((strOfNums x.name).toList == (strOfNums m).toList)) ∧ Below w.heap.size w W:=by
  obtain ⟨A,c,rfl,_⟩:=h.slice
  have hcell:∀ k (hk:k < l.length),∃ g off,A = some ⟨g,off,none⟩ ∧ w.cell? ⟨g,off + k * 3,none⟩ = some (.string (strOfNums l[k].name)) ∧ w.cell? ⟨g,off + k * 3 + 1,none⟩ = some (.string (strOfNums l[k].value)) ∧ w.cell? ⟨g,off + k * 3 + 2,none⟩ = some (.int .i64 l[k].at_):=fun k hk=>by
   rcases h.2 with ⟨_,h0⟩ | ⟨g,off,c,cur,e,_⟩
   · omega
   ·cases e
    have hx:=fun i u hu=>h.cells rfl (k * 3 + i) u hu
    refine ⟨g,off,rfl,?_,?_,?_⟩
    · exact hx 0 _ (xa_get l k hk 0 (by decide))
    · exact hx 1 _ (xa_get l k hk 1 (by decide))
    · exact hx 2 _ (xa_get l k hk 2 (by decide))
  go_enter Tryz.func230,Tryz.ntmps230
  go_wp2
  go_loopw [8] (fun i wr=>∃ k:Nat,k ≤ l.length ∧ i = .int .i64 k ∧ Below w.heap.size w wr ∧ ∀ x ∈ l.take k,((strOfNums x.name).toList == (strOfNums m).toList) = false) (fun i _=>l.length - (intOf i).toNat)
  case atStart=>exact ⟨0,Nat.zero_le _,rfl,Below.refl _ _,fun x hx=>by simp at hx⟩
  case round=>
   rename World=>wq
   obtain ⟨k,hk,rfl,hB,hno⟩:=hrel
   by_cases hlt2:k < l.length
   ·obtain ⟨g,off,rfl,c0,c1,c2⟩:=hcell k hlt2
    have c0:=cellB hB c0 (lt_of_cell c0)
    have c1:=cellB hB c1 (lt_of_cell c1)
    have c2:=cellB hB c2 (lt_of_cell c2)
    have hm2:=cellB hB hm (lt_of_cell hm)
    have htk:=take_snoc l k hlt2
    have hmem:l[k] ∈ l:=List.getElem_mem hlt2
    have hi1:(k:Int) < (l.length:Int):=by omega
    clear hcell
    generalize l[k] = x at *
    have hsame:=same_c (strOfNums x.name) (strOfNums m) (strOfNums x.value) x.at_ ab hm2
    rcases hct:((strOfNums x.name).toList == (strOfNums m).toList) with _ | _
    ·rw [hct] at hsame
     go_wp2_with (go_at_call 199;go_loud (refine hsame.mono ?_;rintro e w5 ⟨rfl,hb5⟩))
     refine ⟨⟨k + 1,by omega,by simp,hB.trans (hb5.mono hB.size),fun y hy=>?_⟩,by simp [intOf];omega⟩
     rw [htk] at hy
     rcases List.mem_append.1 hy with hy | hy
     · exact hno y hy
     ·simp at hy
      rw [hy]
      exact hct
    ·rw [hct] at hsame
     go_wp2_with (go_at_call 199;go_loud (refine hsame.mono ?_;rintro e w5 ⟨rfl,hb5⟩))
     go_ret
     refine ⟨⟨_,rfl,?_⟩,hB.trans (hb5.mono hB.size)⟩
     rw [decide_eq_true (by omega)]
     exact (List.any_eq_true.2 ⟨x,hmem,hct⟩).symm
   ·have hi1:¬ ((k:Int) < (l.length:Int)):=by omega
    obtain rfl:k = l.length:=by omega
    go_wp2
    go_ret
    refine ⟨⟨_,rfl,?_⟩,hB⟩
    rw [List.take_length] at hno
    rw [decide_eq_false (by omega)]
    symm
    rw [List.any_eq_false]
    intro x hx
    rw [hno x hx]
    decide
theorem any_names:∀ (l:List XA) (m:List Int),Bytes m → (∀ x ∈ l,Bytes x.name) → (l.any fun x=>((strOfNums x.name).toList == (strOfNums m).toList)) = l.any fun x=>x.name == m
  | [],_,_,_=>rfl
  | x :: t,m,hb,h=>by
   rw [List.any_cons,List.any_cons,eq_str _ _ (h x List.mem_cons_self) hb,any_names t m hb (fun y hy=>h y (List.mem_cons_of_mem _ hy))]
set_option maxRecDepth 100000 in
set_option maxHeartbeats 4000000 in
theorem contains_c {w:World} (v:Value) (l:List XA) (h:AttrRow w v l) (ab:Nat) (m:List Int) (hm:w.cell? ⟨ab,0,none⟩ = some (.string (strOfNums m))) (hl:l.length ≤ 100000) (hb:Bytes m) (hbl:∀ x ∈ l,Bytes x.name) :
    Calls Tryz.prog 198 #[v,.func (.func 199) #[] #[.pointer (some ⟨ab,0,none⟩)]] w fun e W=>e = .returned (.bool (l.any fun x=>x.name == m)) ∧ Below w.heap.size w W:=by
  have hi:=index_c v l h ab m hm hl
  simp only [any_names l m hb hbl] at hi
  go_enter Tryz.func198,Tryz.ntmps198
  go_wp2_with (go_at_call 230;go_loud (refine hi.mono ?_;rintro e w5 ⟨⟨i,rfl,hd⟩,hb5⟩))
  go_ret
  exact ⟨rfl,hb5⟩
end Go.Proofs.YtbaokjfhigjpdaaGreatDoorX
end
section
set_option linter.unusedVariables false
namespace Go.Proofs.YtbaokjfhigjpdaaGreatDoorX
open Go.RowKit Go.Shelf Go.Proofs.YtbaokjfhigjpdaaGreatDoor.PXmlBase Go.Proofs.YtbaokjfhigjpdaaGreatDoorW.PrintWords
def attrsL (bs:List Int) (tk na:Nat):Nat → List XA → Nat → XR (List XA × Nat)
  | 0,out,a=>.ok (out,a)
  | k + 1,out,a=>match whiteS bs a with
   | .error e=>.error e
   | .ok a1=>match mustS bs a1 with
    | .error e=>.error e
    | .ok r=>if r = 47 ∨ r = 62 then .ok (out,a1)
      else if a1 = a then .error (refuseF bs a1 a1)
      else if startB r = true ∧ out.length = na then .error (a1,3)
      else match nameS bs tk a1 with
       | .error e=>.error e
       | .ok (n,a2)=>if (out.any fun x=>x.name == n) = true then .error (a1,2)
         else match eqS bs a2 with
          | .error e=>.error e
          | .ok a3=>match mustS bs a3 with
           | .error e=>.error e
           | .ok _=>match valueS bs tk a3 with
            | .error e=>.error e
            | .ok (v,a4)=>attrsL bs tk na k (out ++ [⟨n,v,a1⟩]) a4
def attrsS (bs:List Int) (tk na a:Nat):XR (List XA × Nat):=attrsL bs tk na (bs.length + 1) [] a
def OutA (w:World) (p:Nat) (r:XR (List XA × Nat)) (e:Ending) (W:World):Prop:=match r with
 | .ok (l,a)=>∃ v,e = .returned v ∧ AttrRow W v l ∧ (∀ k,v.ownBlock = some k → w.heap.size ≤ k) ∧ Mv w W p a
 | .error f=>e = .panicked (fltV f) ∧ ∃ a,Mv w W p a
theorem attr_mv {w' W:World} {p a:Nat} {v:Value} {l:List XA} {n:Nat} (h:AttrRow w' v l) (hm:Mv w' W p a) (hn:∀ k,v.ownBlock = some k → n ≤ k) (hp:p < n):AttrRow W v l:=RowAt.move h fun k hk=>hm.block k (RowAt.lt h k hk) (by have:=hn k hk;omega)
theorem attr_below {w' W:World} {v:Value} {l:List XA} (h:AttrRow w' v l) (hb:Below w'.heap.size w' W):AttrRow W v l:=RowAt.move h fun k hk=>hb.block k (RowAt.lt h k hk)
theorem blk_lt {w:World} {k:Nat} {o:Obj} (h:w.heap[k]? = some o):k < w.heap.size:=(Array.getElem?_eq_some_iff.1 h).1
theorem blk_cell {w:World} {k:Nat} {cs:Array Value} {t:TypeId} (h:w.heap[k]? = some (.cells cs t (0,0))) (i:Nat):w.cell? ⟨k,i,none⟩ = cs[i]?:=cell_of_row w k i cs t (0,0) h
theorem blk_frz {w:World} {k:Nat} {cs:Array Value} {t:TypeId} (h:w.heap[k]? = some (.cells cs t (0,0))) (i:Nat):w.frozen? ⟨k,i,none⟩ = false:=by
 unfold World.frozen?
 rw [h]
 simp
theorem Mv.fresh {w w':World} {p a k i:Nat} {v:Value} (h:Mv w w' p a) (hk:w.heap.size ≤ k) (hp:p < w.heap.size):Mv w (w'.setCell ⟨k,i,none⟩ v) p a:=by
 have hset:∀ j,j ≠ k → (w'.setCell ⟨k,i,none⟩ v).heap[j]? = w'.heap[j]?:=fun j hj=>Below.heap_setCell w' ⟨k,i,none⟩ _ j hj
 have hpk:p ≠ k:=by omega
 exact ⟨h.os,h.tape,h.output,by simp [World.setCell];exact h.size,fun j hj hjp=>(hset j (by omega)).trans (h.block j hj hjp),fun j hj=>(World.cell?_of_block (hset p hpk)).trans (h.cell j hj),fun j=>(World.frozen?_of_block (hset p hpk)).trans (h.frz j),(World.cell?_of_block (hset p hpk)).trans h.here⟩
theorem name_c2 {w:World} {p:Nat} {bs:List Int} {tk a:Nat} (h:PB w p bs tk a) (htk:tk ≤ 1099511627776) :
    Calls Tryz.prog 153 #[.pointer (some ⟨p,0,none⟩)] w (OutM w p ((nameS bs tk a).map fun x=>(Value.string (strOfNums x.1),x.2))):=name_c h htk
theorem Mv.grown {w w' w'':World} {p a:Nat} {row:Option Nat} (h:Mv w w' p a) (hg:w'.grownBy w'' row) (hr:∀ k,row = some k → w.heap.size ≤ k) (hp:p < w.heap.size):Mv w w'' p a:=by
 have hp':p < w'.heap.size:=Nat.lt_of_lt_of_le hp h.size
 have hb:w''.heap[p]? = w'.heap[p]?:=hg.block p hp' (fun e=>by have:=hr p e.symm;omega)
 exact ⟨hg.os.trans h.os,hg.tape.trans h.tape,hg.output.trans h.output,Nat.le_trans h.size hg.size,fun k hk hkp=>(hg.block k (Nat.lt_of_lt_of_le hk h.size) (fun e=>by have:=hr k e.symm;omega)).trans (h.block k hk hkp),fun i hi=>(World.cell?_of_block hb).trans (h.cell i hi),fun i=>(World.frozen?_of_block hb).trans (h.frz i),(World.cell?_of_block hb).trans h.here⟩
theorem blk_set {w:World} {k i:Nat} {cs:Array Value} {t:TypeId} {v:Value} (h:w.heap[k]? = some (.cells cs t (0,0))):(w.setCell ⟨k,i,none⟩ v).heap[k]? = some (.cells (cs.setIfInBounds i v) t (0,0)):=by
 have hlt:=blk_lt h
 have hv:w.heap[k] = .cells cs t (0,0):=(Array.getElem?_eq_some_iff.1 h).2
 unfold World.setCell
 rw [Array.getElem?_eq_getElem (by simpa using hlt),Array.getElem_modify]
 simp [hv]
set_option maxRecDepth 100000 in
set_option maxHeartbeats 8000000 in
theorem attrs_c {w:World} {p:Nat} {bs:List Int} {tk na a:Nat} (h:PB w p bs tk a) (htk:tk ≤ 1099511627776) (ha:w.cell? ⟨p,3,none⟩ = some (.int .i64 na)) (hna:na ≤ 10000) :
    Calls Tryz.prog 154 #[.pointer (some ⟨p,0,none⟩)] w (OutA w p (attrsS bs tk na a)):=by
  have h5:=h.here
  have hlt:=h.lt
  generalize hR:attrsS bs tk na a = R
  unfold attrsS at hR
  go_enter Tryz.func154,Tryz.ntmps154
  have hm0:=Mv.of_below (Below.refl _ w) hlt h5
  go_wp2
  go_loopw [3] (fun v wr=>∃ (a' k:Nat) (l:List XA),Mv w wr p a' ∧ a' ≤ bs.length ∧ bs.length < k + a' ∧ AttrRow wr v l ∧ (∀ k,v.ownBlock = some k → w.heap.size ≤ k) ∧ l.length ≤ na ∧ (∀ x ∈ l,Bytes x.name) ∧ attrsL bs tk na k l a' = R) (fun _ wr=>bs.length - atOf p wr)
  case atStart=>exact ⟨a,bs.length + 1,[],hm0,h.le,by omega,RowAt.nil _ _ _,(fun k hk=>by simp [Value.ownBlock] at hk),Nat.zero_le _,(fun x hx=>by cases hx),hR⟩
  case round=>
   rename World=>wq
   obtain ⟨a',k,l,hm10,hle10,h3,hO10,hOb,hol,hob,hR⟩:=hrel
   have hP10:=h.moved hm10 hle10
   have ha10:=(hm10.cell 3 (by decide)).trans ha
   obtain ⟨k',rfl⟩:∃ k',k = k' + 1:=⟨k - 1,by omega⟩
   obtain ⟨A,c,rfl,_⟩:=hO10.slice
   unfold attrsL at hR
   have t102:=True.intro
   go_wp2_with (first
    | (
     have _t:=t102
     go_at_call 113
     go_loud (
      clear _t
      have hn:=blanks_c hP10
      refine hn.mono ?_
      clear hn t102
      rintro e w101 he
      rcases hq101:whiteS bs (a') with f | a101
      ·rw [hq101] at hR he
       (try simp only at hR)
       subst hR
       obtain ⟨rfl,a5,hmx⟩:=he
       go_wp2
       exact ⟨rfl,rfl,_,hm10.trans hmx⟩
      rw [hq101] at hR he
      obtain ⟨rfl,hmx⟩:=he
      have hm101:=hm10.trans hmx
      have hle101:=(white_le h.bytes hle10 hq101).2
      have hP101:=h.moved hm101 hle101
      have hO101:=attr_mv hO10 hmx hOb hlt
      have ha101:=(hmx.cell 3 (by decide)).trans ha10
      clear hmx
      (try simp only at hR)
      have t104:=True.intro
      go_wp2_with (first
       | (
        have _t:=t104
        go_at_call 105
        go_loud (
         clear _t
         have hn:=must_c hP101
         refine hn.mono ?_
         clear hn t104
         rintro e w103 he
         rcases hq103:mustS bs (a101) with f | r103
         ·rw [hq103] at hR he
          (try simp only at hR)
          subst hR
          obtain ⟨rfl,hbx⟩:=he
          go_wp2
          exact ⟨rfl,rfl,_,hm101.then hP101.lt hbx⟩
         rw [hq103] at hR he
         obtain ⟨rfl,hbx⟩:=he
         have hm103:=hm101.then hP101.lt hbx
         have hP103:=hP101.below hbx
         have hO103:=attr_below hO101 hbx
         have ha103:=cellB hbx ha101 (lt_of_cell ha101)
         clear hbx
         (try simp only at hR)
         have hpk103:=(must_ok hq103).1
         have hst103:=must_step h.bytes hle101 hq103
         have hwl:=(white_le h.bytes hle10 hq101).1
         by_cases hx47:r103 = 47
         ·subst hx47
          rw [if_pos (.inl rfl)] at hR
          subst hR
          go_wp2
          go_ret
          exact ⟨_,rfl,hO103,hOb,hm103⟩
         by_cases hx62:r103 = 62
         ·subst hx62
          rw [if_pos (.inr rfl)] at hR
          subst hR
          go_wp2
          go_ret
          exact ⟨_,rfl,hO103,hOb,hm103⟩
         rw [if_neg (by rintro (e | e);exact hx47 e;exact hx62 e)] at hR
         have q47:(r103 == 47) = false:=by rw [beq_eq_false_iff_ne];exact hx47
         have q62:(r103 == 62) = false:=by rw [beq_eq_false_iff_ne];exact hx62
         by_cases hw:a101 = a'
         ·rw [if_pos hw] at hR
          subst hw
          have qb:decide (a101 < a101) = false:=by rw [decide_eq_false_iff_not];omega
          have t105:=True.intro
          go_wp2_with (first
           | (
            have _t:=t105
            go_at_call 82
            go_loud (
             clear _t
             refine (odd_c hP103).mono ?_
             clear t105
             rintro e wx ⟨rfl,hbx⟩
             subst hR
             go_wp2
             exact ⟨rfl,rfl,_,hm103.then hP103.lt hbx⟩)))
         rw [if_neg hw] at hR
         have qb:decide (a' < a101) = true:=by rw [decide_eq_true_eq];omega
         rcases hst:startB r103 with _ | _
         ·have t107:=True.intro
          go_wp2_with (first
           | (
            have _t:=t107
            go_at_call 107
            go_loud (
             clear _t
             have hn2:=start_c r103 w103
             rw [hst] at hn2
             refine hn2.mono ?_
             clear hn2 t107
             rintro e w106 ⟨rfl,hbx⟩
             have hm106:=hm103.then hP103.lt hbx
             have hP106:=hP103.below hbx
             have hO106:=attr_below hO103 hbx
             have ha106:=cellB hbx ha103 (lt_of_cell ha103)
             clear hbx
             have hh106:=hP106.here
             rw [if_neg (show ¬ (startB r103 = true ∧ l.length = na) from fun e=>by rw [hst] at e;cases e.1)] at hR
             have hbx:=(Below.refl w106.heap.size w106).alloc (Nat.le_refl _) (.cells #[.string ⟨#[]⟩,.string ⟨#[]⟩,.int .i64 (a101:Nat)] 163)
             have hm108:=hm106.then hP106.lt hbx
             have hP108:=hP106.below hbx
             have hO108:=attr_below hO106 hbx
             have ha108:=cellB hbx ha106 (lt_of_cell ha106)
             have hA108:(w106.alloc (.cells #[.string ⟨#[]⟩,.string ⟨#[]⟩,.int .i64 (a101:Nat)] 163)).heap[w106.heap.size]? = some (.cells #[.string ⟨#[]⟩,.string ⟨#[]⟩,.int .i64 (a101:Nat)] 163 (0,0)):=heap_alloc_new _ _
             clear hbx
             have hAn:=hm106.size
             have hAp:w106.heap.size ≠ p:=by omega
             have hOl:∀ k,(Value.slice A l.length c).ownBlock = some k → k ≠ w106.heap.size:=fun k hk=>by have:=RowAt.lt hO106 k hk;omega
             have hh106:=hP106.here
             have t110:=True.intro
             go_wp2_with (first
              | (
               have _t:=t110
               go_at_call 153
               go_loud (
                clear _t
                have hn:=name_c2 hP108 htk
                refine hn.mono ?_
                clear hn t110
                rintro e w109 he
                rcases hq109:nameS bs tk (a101) with f | ⟨n109,a109⟩
                ·rw [hq109] at hR he
                 (try simp only at hR)
                 subst hR
                 obtain ⟨rfl,a5,hmx⟩:=he
                 go_wp2
                 exact ⟨rfl,rfl,_,hm108.trans hmx⟩
                rw [hq109] at hR he
                obtain ⟨rfl,hmx⟩:=he
                have hm109:=hm108.trans hmx
                have hle109:=(name_le h.bytes hle101 hq109).2
                have hP109:=h.moved hm109 hle109
                have hO109:=attr_mv hO108 hmx hOb hlt
                have ha109:=(hmx.cell 3 (by decide)).trans ha108
                have hA109:=(hmx.block w106.heap.size (blk_lt hA108) hAp).trans hA108
                clear hmx
                (try simp only at hR)
                exfalso
                unfold nameS at hq109
                rw [hpk103] at hq109
                simp only at hq109
                rw [hst,if_neg (by decide)] at hq109
                cases hq109))))))
         ·have t112:=True.intro
          go_wp2_with (first
           | (
            have _t:=t112
            go_at_call 107
            go_loud (
             clear _t
             have hn2:=start_c r103 w103
             rw [hst] at hn2
             refine hn2.mono ?_
             clear hn2 t112
             rintro e w111 ⟨rfl,hbx⟩
             have hm111:=hm103.then hP103.lt hbx
             have hP111:=hP103.below hbx
             have hO111:=attr_below hO103 hbx
             have ha111:=cellB hbx ha103 (lt_of_cell ha103)
             clear hbx
             have hh111:=hP111.here
             by_cases hln:l.length = na
             ·rw [if_pos (show startB r103 = true ∧ l.length = na from ⟨hst,hln⟩)] at hR
              have ql:((l.length:Int) == (na:Int)) = true:=by rw [beq_iff_eq];omega
              have t113:=True.intro
              go_wp2_with (first
               | (
                have _t:=t113
                go_at_call 102
                go_loud (
                 clear _t
                 refine (fail_c _ _ _).mono ?_
                 clear t113
                 rintro e wx ⟨rfl,hbx⟩
                 subst hR
                 go_wp2
                 exact ⟨rfl,rfl,_,hm111.then hP111.lt hbx⟩)))
             rw [if_neg (show ¬ (startB r103 = true ∧ l.length = na) from fun e=>hln e.2)] at hR
             have ql:((l.length:Int) == (na:Int)) = false:=by rw [beq_eq_false_iff_ne];omega
             have hbx:=(Below.refl w111.heap.size w111).alloc (Nat.le_refl _) (.cells #[.string ⟨#[]⟩,.string ⟨#[]⟩,.int .i64 (a101:Nat)] 163)
             have hm114:=hm111.then hP111.lt hbx
             have hP114:=hP111.below hbx
             have hO114:=attr_below hO111 hbx
             have ha114:=cellB hbx ha111 (lt_of_cell ha111)
             have hA114:(w111.alloc (.cells #[.string ⟨#[]⟩,.string ⟨#[]⟩,.int .i64 (a101:Nat)] 163)).heap[w111.heap.size]? = some (.cells #[.string ⟨#[]⟩,.string ⟨#[]⟩,.int .i64 (a101:Nat)] 163 (0,0)):=heap_alloc_new _ _
             clear hbx
             have hAn:=hm111.size
             have hAp:w111.heap.size ≠ p:=by omega
             have hOl:∀ k,(Value.slice A l.length c).ownBlock = some k → k ≠ w111.heap.size:=fun k hk=>by have:=RowAt.lt hO111 k hk;omega
             have hh111:=hP111.here
             have t116:=True.intro
             go_wp2_with (first
              | (
               have _t:=t116
               go_at_call 153
               go_loud (
                clear _t
                have hn:=name_c2 hP114 htk
                refine hn.mono ?_
                clear hn t116
                rintro e w115 he
                rcases hq115:nameS bs tk (a101) with f | ⟨n115,a115⟩
                ·rw [hq115] at hR he
                 (try simp only at hR)
                 subst hR
                 obtain ⟨rfl,a5,hmx⟩:=he
                 go_wp2
                 exact ⟨rfl,rfl,_,hm114.trans hmx⟩
                rw [hq115] at hR he
                obtain ⟨rfl,hmx⟩:=he
                have hm115:=hm114.trans hmx
                have hle115:=(name_le h.bytes hle101 hq115).2
                have hP115:=h.moved hm115 hle115
                have hO115:=attr_mv hO114 hmx hOb hlt
                have ha115:=(hmx.cell 3 (by decide)).trans ha114
                have hA115:=(hmx.block w111.heap.size (blk_lt hA114) hAp).trans hA114
                clear hmx
                (try simp only at hR)
                have hc115:w115.cell? ⟨w111.heap.size,0,none⟩ = some (.string ⟨#[]⟩):=blk_cell hA115 0
                have hf115:=blk_frz hA115 0
                have hm117:Mv w (w115.setCell ⟨w111.heap.size,0,none⟩ (.string (strOfNums n115))) p (a115):=hm115.fresh hAn hlt
                have hle117:a115 ≤ bs.length:=hle115
                have hP117:=h.moved hm117 hle117
                have hO117:AttrRow (w115.setCell ⟨w111.heap.size,0,none⟩ (.string (strOfNums n115))) (.slice A l.length c) l:=RowAt.move hO115 fun k hk=>Below.heap_setCell w115 ⟨w111.heap.size,0,none⟩ _ k (hOl k hk)
                have ha117:=(hm117.cell 3 (by decide)).trans ha
                have hA117:(w115.setCell ⟨w111.heap.size,0,none⟩ (.string (strOfNums n115))).heap[w111.heap.size]? = some (.cells #[.string (strOfNums n115),.string ⟨#[]⟩,.int .i64 (a101:Nat)] 163 (0,0)):=blk_set hA115
                have hnb:=name_bytes h.bytes hq115
                have hcn:(w115.setCell ⟨w111.heap.size,0,none⟩ (.string (strOfNums n115))).cell? ⟨w111.heap.size,0,none⟩ = some (.string (strOfNums n115)):=blk_cell hA117 0
                have t119:=True.intro
                go_wp2_with (first
                 | (
                  have _t:=t119
                  go_at_call 198
                  go_loud (
                   clear _t
                   refine (contains_c (.slice A l.length c) l hO117 (w111.heap.size) n115 hcn (by omega) hnb hob).mono ?_
                   clear t119
                   rintro e w118 ⟨rfl,hbx⟩
                   have hm118:=hm117.then hP117.lt hbx
                   have hP118:=hP117.below hbx
                   have hO118:=attr_below hO117 hbx
                   have ha118:=cellB hbx ha117 (lt_of_cell ha117)
                   have hA118:=(hbx.block w111.heap.size (blk_lt hA117)).trans hA117
                   clear hbx
                   have hc2:w118.cell? ⟨w111.heap.size,2,none⟩ = some (.int .i64 (a101:Nat)):=blk_cell hA118 2
                   rcases han:(l.any fun x=>x.name == n115) with _ | _
                   ·rw [han] at hR
                    rw [if_neg (by decide)] at hR
                    (try simp only at hR)
                    have t121:=True.intro
                    go_wp2_with (first
                     | (
                      have _t:=t121
                      go_at_call 147
                      go_loud (
                       clear _t
                       have hn:=eq_c hP118
                       refine hn.mono ?_
                       clear hn t121
                       rintro e w120 he
                       rcases hq120:eqS bs (a115) with f | a120
                       ·rw [hq120] at hR he
                        (try simp only at hR)
                        subst hR
                        obtain ⟨rfl,a5,hmx⟩:=he
                        go_wp2
                        exact ⟨rfl,rfl,_,hm118.trans hmx⟩
                       rw [hq120] at hR he
                       obtain ⟨rfl,hmx⟩:=he
                       have hm120:=hm118.trans hmx
                       have hle120:=(eq_le h.bytes hle115 hq120).2
                       have hP120:=h.moved hm120 hle120
                       have hO120:=attr_mv hO118 hmx hOb hlt
                       have ha120:=(hmx.cell 3 (by decide)).trans ha118
                       have hA120:=(hmx.block w111.heap.size (blk_lt hA118) hAp).trans hA118
                       clear hmx
                       (try simp only at hR)
                       have t123:=True.intro
                       go_wp2_with (first
                        | (
                         have _t:=t123
                         go_at_call 105
                         go_loud (
                          clear _t
                          have hn:=must_c hP120
                          refine hn.mono ?_
                          clear hn t123
                          rintro e w122 he
                          rcases hq122:mustS bs (a120) with f | r122
                          ·rw [hq122] at hR he
                           (try simp only at hR)
                           subst hR
                           obtain ⟨rfl,hbx⟩:=he
                           go_wp2
                           exact ⟨rfl,rfl,_,hm120.then hP120.lt hbx⟩
                          rw [hq122] at hR he
                          obtain ⟨rfl,hbx⟩:=he
                          have hm122:=hm120.then hP120.lt hbx
                          have hP122:=hP120.below hbx
                          have hO122:=attr_below hO120 hbx
                          have ha122:=cellB hbx ha120 (lt_of_cell ha120)
                          have hA122:=(hbx.block w111.heap.size (blk_lt hA120)).trans hA120
                          clear hbx
                          (try simp only at hR)
                          have hpk122:=(must_ok hq122).1
                          have hst122:=must_step h.bytes hle120 hq122
                          have t125:=True.intro
                          go_wp2_with (first
                           | (
                            have _t:=t125
                            go_at_call 200
                            go_loud (
                             clear _t
                             have hn:=value_c hP122 htk
                             refine hn.mono ?_
                             clear hn t125
                             rintro e w124 he
                             rcases hq124:valueS bs tk (a120) with f | ⟨v124,a124⟩
                             ·rw [hq124] at hR he
                              (try simp only at hR)
                              subst hR
                              obtain ⟨rfl,a5,hmx⟩:=he
                              go_wp2
                              exact ⟨rfl,rfl,_,hm122.trans hmx⟩
                             rw [hq124] at hR he
                             obtain ⟨rfl,hmx⟩:=he
                             have hm124:=hm122.trans hmx
                             have hle124:=(value_le h.bytes hle120 hq124).2
                             have hP124:=h.moved hm124 hle124
                             have hO124:=attr_mv hO122 hmx hOb hlt
                             have ha124:=(hmx.cell 3 (by decide)).trans ha122
                             have hA124:=(hmx.block w111.heap.size (blk_lt hA122) hAp).trans hA122
                             clear hmx
                             (try simp only at hR)
                             have hc124:w124.cell? ⟨w111.heap.size,1,none⟩ = some (.string ⟨#[]⟩):=blk_cell hA124 1
                             have hf124:=blk_frz hA124 1
                             have hm126:Mv w (w124.setCell ⟨w111.heap.size,1,none⟩ (.string (strOfNums v124))) p (a124):=hm124.fresh hAn hlt
                             have hle126:a124 ≤ bs.length:=hle124
                             have hP126:=h.moved hm126 hle126
                             have hO126:AttrRow (w124.setCell ⟨w111.heap.size,1,none⟩ (.string (strOfNums v124))) (.slice A l.length c) l:=RowAt.move hO124 fun k hk=>Below.heap_setCell w124 ⟨w111.heap.size,1,none⟩ _ k (hOl k hk)
                             have ha126:=(hm126.cell 3 (by decide)).trans ha
                             have hA126:(w124.setCell ⟨w111.heap.size,1,none⟩ (.string (strOfNums v124))).heap[w111.heap.size]? = some (.cells #[.string (strOfNums n115),.string (strOfNums v124),.int .i64 (a101:Nat)] 163 (0,0)):=blk_set hA124
                             have hd0:(w124.setCell ⟨w111.heap.size,1,none⟩ (.string (strOfNums v124))).cell? ⟨w111.heap.size,0,none⟩ = some (.string (strOfNums n115)):=blk_cell hA126 0
                             have hd1:(w124.setCell ⟨w111.heap.size,1,none⟩ (.string (strOfNums v124))).cell? ⟨w111.heap.size,1,none⟩ = some (.string (strOfNums v124)):=blk_cell hA126 1
                             have hd2:(w124.setCell ⟨w111.heap.size,1,none⟩ (.string (strOfNums v124))).cell? ⟨w111.heap.size,2,none⟩ = some (.int .i64 (a101:Nat)):=blk_cell hA126 2
                             have hbz:=(Below.refl (w124.setCell ⟨w111.heap.size,1,none⟩ (.string (strOfNums v124))).heap.size (w124.setCell ⟨w111.heap.size,1,none⟩ (.string (strOfNums v124)))).alloc (Nat.le_refl _) (.cells #[.string (strOfNums n115),.string (strOfNums v124),.int .i64 (a101:Nat)] 163)
                             have hrow:=attr_below hO126 hbz
                             have hnews:=new_cells (w124.setCell ⟨w111.heap.size,1,none⟩ (.string (strOfNums v124))) [.string (strOfNums n115),.string (strOfNums v124),.int .i64 (a101:Nat)] 163
                             have hsz9:(w124.setCell ⟨w111.heap.size,1,none⟩ (.string (strOfNums v124))).heap.size = w124.heap.size:=by simp [World.setCell]
                             rw [hsz9] at hnews
                             go_wp2_with (at_builtin;go_loud (refine append_row (by rfl) _ _ 93 163 (.agg #[.string ⟨#[]⟩,.string ⟨#[]⟩,.int .i64 0]) 3 40 (by rfl) Tryz.underlying93 (by kernel_rfl) (by rfl) (by decide) _ l.length (l.flatMap xaCells) (by rfl) hrow _ 1 1 [.string (strOfNums n115),.string (strOfNums v124),.int .i64 (a101:Nat)] (by rfl) (by rfl) hnews (by simp [Value.oneCell']) (by unfold maxLen;omega) (by omega) ?_;intro v7 w7 hr7 hg7 hat7;obtain ⟨A7,c7,rfl,_⟩:=hr7.slice))
                             have g1:=name_le h.bytes hle101 hq115
                             have g2:=eq_le h.bytes hle115 hq120
                             have g3:=value_le h.bytes hle120 hq124
                             simp only at g1 g2 g3
                             have hmz:=(hm126.then hP126.lt hbz).grown hg7 hOb hlt
                             refine ⟨⟨_,k',l ++ [⟨n115,v124,a101⟩],hmz,hle126,by omega,?_,?_,by rw [List.length_append];simp;omega,?_,hR⟩,by rw [hmz.atOf,hm10.atOf];omega⟩
                             ·unfold AttrRow
                              rw [List.length_append,List.flatMap_append]
                              exact hr7
                             ·intro k hk
                              rcases hat7 with e | e
                              · exact hOb k (by rw [← e];exact hk)
                              ·rw [e] at hk
                               cases hk
                               have:=hmz.size
                               have h9:=hbz.size
                               have h8:=hm126.size
                               exact Nat.le_trans h8 h9
                             ·intro x hx
                              rcases List.mem_append.1 hx with hx | hx
                              · exact hob x hx
                              ·simp at hx
                               rw [hx]
                               exact hnb)))))))))
                   ·rw [han] at hR
                    rw [if_pos rfl] at hR
                    have t127:=True.intro
                    go_wp2_with (first
                     | (
                      have _t:=t127
                      go_at_call 102
                      go_loud (
                       clear _t
                       refine (fail_c _ _ _).mono ?_
                       clear t127
                       rintro e wx ⟨rfl,hbx⟩
                       subst hR
                       go_wp2
                       exact ⟨rfl,rfl,_,hm118.then hP118.lt hbx⟩))))))))))))))))))
end Go.Proofs.YtbaokjfhigjpdaaGreatDoorX
end
section
set_option linter.unusedVariables false
namespace Go.Proofs.YtbaokjfhigjpdaaGreatDoorX
open Go.RowKit Go.Shelf Go.Proofs.YtbaokjfhigjpdaaGreatDoor.PXmlBase Go.Proofs.YtbaokjfhigjpdaaGreatDoorW.PrintWords
structure LOk (L:Lim):Prop where
  depth:L.depth ≤ 1000
  nodes:L.nodes ≤ 10000
  attrs:L.attrs ≤ 10000
  token:L.token ≤ 10000
structure Good (bs:List Int) (L:Lim) (s:St):Prop where
  le:s.at_ ≤ bs.length
  nodes:s.nodes ≤ L.nodes
  opn:s.opn.length ≤ L.depth
  text:s.text.length ≤ L.token
  names:∀ n ∈ s.opn,Bytes n
  few:s.ready.length ≤ 10
theorem Good.moved {bs:List Int} {L:Lim} {s:St} {a:Nat} (h:Good bs L s) (hle:a ≤ bs.length):Good bs L { s with at_:=a }:=⟨hle,h.nodes,h.opn,h.text,h.names,h.few⟩
def lineS (bs:List Int) (L:Lim) (s:St) (at_:Nat) (r:Int):XR St:=match crS bs r (stepS r s.at_) with
 | .error e=>.error e
 | .ok a1=>putS L { s with at_:=a1 } at_ (if r = 13 then 10 else r)
theorem put_good {bs:List Int} {L:Lim} {s s':St} {at_:Nat} {r:Int} (h:Good bs L s) (hp:putS L s at_ r = .ok s'):Good bs L s' ∧ s'.at_ = s.at_ ∧ s'.ready = s.ready ∧ s'.opn = s.opn ∧ s'.state = s.state ∧ s'.most = s.most ∧ s'.depth = s.depth ∧ s'.nodes = s.nodes:=by
 unfold putS at hp
 split at hp
 · cases hp
 ·rename_i hn
  cases hp
  exact ⟨⟨h.le,h.nodes,h.opn,by simp only;omega,h.names,h.few⟩,rfl,rfl,rfl,rfl,rfl,rfl,rfl⟩
theorem line_good {bs:List Int} {L:Lim} {s s':St} {at_:Nat} {r:Int} (hb:Bytes bs) (h:Good bs L s) (hs:s.at_ < stepS r s.at_ ∧ stepS r s.at_ ≤ bs.length) (hl:lineS bs L s at_ r = .ok s'):Good bs L s' ∧ s.at_ < s'.at_ ∧ s'.ready = s.ready ∧ s'.opn = s.opn ∧ s'.state = s.state ∧ s'.most = s.most ∧ s'.depth = s.depth ∧ s'.nodes = s.nodes:=by
 unfold lineS at hl
 split at hl
 · cases hl
 ·rename_i a1 h1
  obtain ⟨g1,g2⟩:=cr_le hb hs.2 h1
  obtain ⟨k1,k2,k3,k4⟩:=put_good (h.moved g2) hl
  exact ⟨k1,by rw [k2];simp only;omega,k3,k4⟩
def tagE (L:Lim) (s:St) (at_:Nat) (n:List Int) (l:List XA) (slash a:Nat) (empty:Bool):St :=
  if empty = true then leftS (tellS { s with at_:=a,nodes:=s.nodes + 1,most:=max s.most (s.opn.length + 1),state:=1 } [⟨1,at_,n,[],l⟩,⟨2,slash,n,[],[]⟩])
  else tellS { s with at_:=a,nodes:=s.nodes + 1,most:=max s.most (s.opn.length + 1),state:=1,opn:=s.opn ++ [n] } [⟨1,at_,n,[],l⟩]
def tagS (bs:List Int) (L:Lim) (s:St) (at_:Nat):XR St :=
  if s.opn.length = L.depth ∨ s.nodes = L.nodes then .error (at_,3)
  else match nameS bs L.token s.at_ with
   | .error e=>.error e
   | .ok (n,a1)=>match attrsS bs L.token L.attrs a1 with
    | .error e=>.error e
    | .ok (l,a2)=>match peekS bs a2 with
     | .error e=>.error e
     | .ok r=>if r = 47 then (match mustS bs (stepS r a2) with
         | .error e=>.error e
         | .ok r2=>if r2 ≠ 62 then .error (refuseF bs (stepS r a2) (stepS r a2)) else .ok (tagE L s at_ n l a2 (stepS r2 (stepS r a2)) true))
       else .ok (tagE L s at_ n l a2 (stepS r a2) false)
def endS (bs:List Int) (L:Lim) (s:St) (at_:Nat):XR St:=match mustS bs s.at_ with
 | .error e=>.error e
 | .ok _=>match nameS bs L.token s.at_ with
  | .error e=>.error e
  | .ok (n,a1)=>match mustS bs a1 with
   | .error e=>.error e
   | .ok _=>if n ≠ s.opn.getLastD [] then .error (at_,2)
     else match whiteS bs a1 with
      | .error e=>.error e
      | .ok a2=>match mustS bs a2 with
       | .error e=>.error e
       | .ok r=>if r ≠ 62 then .error (refuseF bs a2 a2)
         else .ok (leftS (tellS { s with at_:=stepS r a2,opn:=s.opn.dropLast } [⟨2,at_,n,[],[]⟩]))
def cdataL (bs:List Int) (L:Lim) (at_:Nat):Nat → St → XR St
  | 0,s=>.ok s
  | k + 1,s=>if (hasS bs [93,93,62] s.at_).1 = true then .ok { s with at_:=s.at_ + 3 }
    else match mustS bs s.at_ with
     | .error e=>.error e
     | .ok r=>match lineS bs L s at_ r with
      | .error e=>.error e
      | .ok s'=>cdataL bs L at_ k s'
def markT (bs:List Int) (L:Lim) (s:St):XR St:=match nextS bs s.at_ with
 | .error e=>.error e
 | .ok (_,a1)=>match mustS bs a1 with
  | .error e=>.error e
  | .ok r=>if r = 63 then (match instructionS bs L.token (stepS r a1) with
      | .error e=>.error e
      | .ok a2=>.ok { s with at_:=a2 })
    else if r = 47 then endS bs L { s with at_:=stepS r a1 } s.at_
    else if startB r = true then tagS bs L { s with at_:=a1 } s.at_
    else .error (refuseF bs a1 a1)
def markU (bs:List Int) (L:Lim) (s:St):XR St:=match strayS bs s.at_ with
 | some e=>.error e
 | none=>markT bs L s
def markS (bs:List Int) (L:Lim) (s:St):XR St :=
  if (hasS bs [60,33,45,45] s.at_).1 = true then (match noteS bs (s.at_ + 4) with
   | .error e=>.error e
   | .ok a1=>.ok { s with at_:=a1 })
  else if (hasS bs [60,33,91,67,68,65,84,65,91] s.at_).1 = true then cdataL bs L s.at_ (bs.length + 1) { s with at_:=s.at_ + 9 }
  else if s.at_ + 1 < bs.length then (match earlyS bs [[60,33,45,45],[60,33,91,67,68,65,84,65,91]] s.at_ with
   | some e=>.error e
   | none=>markU bs L s)
  else markU bs L s
def contentT (bs:List Int) (L:Lim) (s:St):XR St:=match mustS bs s.at_ with
 | .error e=>.error e
 | .ok r=>if r = 60 then markS bs L s
   else if r = 38 then (match referenceS bs s.at_ with
    | .error e=>.error e
    | .ok (c,a1)=>putS L { s with at_:=a1 } s.at_ c)
   else if (hasS bs [93,93,62] s.at_).1 = true then .error (refuseF bs s.at_ s.at_)
   else lineS bs L s s.at_ r
def contentL (bs:List Int) (L:Lim):Nat → St → XR St
  | 0,s=>.ok s
  | k + 1,s=>if s.ready ≠ [] then .ok s else match contentT bs L s with
   | .error e=>.error e
   | .ok s'=>contentL bs L k s'
def contentS (bs:List Int) (L:Lim) (s:St):XR St:=contentL bs L (bs.length + 2) s
def rootS (bs:List Int) (L:Lim) (s:St) (a:Nat):XR St:=match miscS bs L.token a with
 | .error e=>.error e
 | .ok a1=>match mustS bs a1 with
  | .error e=>.error e
  | .ok r=>if r ≠ 60 then .error (refuseF bs a1 a1)
    else match strayS bs a1 with
     | some e=>.error e
     | none=>match mustS bs (stepS r a1) with
      | .error e=>.error e
      | .ok r2=>if startB r2 = true then tagS bs L { s with at_:=stepS r a1 } a1 else .error (refuseF bs (stepS r a1) (stepS r a1))
def beginS (bs:List Int) (L:Lim) (s:St):XR St :=
  if 65536 < bs.length then .error (0,3)
  else if (hasS bs [60,63,120,109,108] s.at_).1 = true ∧ 5 < bs.length ∧ whiteB (bs.getD 5 0) = true then (match declarationS bs 5 with
   | .error e=>.error e
   | .ok a=>rootS bs L s a)
  else rootS bs L s s.at_
def behindS (bs:List Int) (L:Lim) (s:St):XR St:=match miscS bs L.token s.at_ with
 | .error e=>.error e
 | .ok a1=>if a1 < bs.length then (match strayS bs a1 with
     | some e=>.error e
     | none=>.error (refuseF bs a1 a1))
   else .ok { s with at_:=a1,state:=3 }
def bodyS (bs:List Int) (L:Lim) (s:St):XR St :=
  if s.state = 0 then beginS bs L s else if s.state = 1 then contentS bs L s else if s.state = 2 then behindS bs L s else .ok s
theorem tell_few (s:St) (l:List XE):(tellS s l).ready.length ≤ s.ready.length + 1 + l.length:=by
 unfold tellS textE
 split
 · simp
 · simp;omega
theorem left_same (s:St):(leftS s).at_ = s.at_ ∧ (leftS s).nodes = s.nodes ∧ (leftS s).opn = s.opn ∧ (leftS s).text = s.text ∧ (leftS s).ready = s.ready ∧ (leftS s).most = s.most ∧ (leftS s).depth = s.depth:=by
 unfold leftS
 split <;> exact ⟨rfl,rfl,rfl,rfl,rfl,rfl,rfl⟩
theorem tell_ne (s:St) (l:List XE) (h:l ≠ []):(tellS s l).ready ≠ []:=by
 unfold tellS
 simp [h]
theorem Good.left {bs:List Int} {L:Lim} {s:St} (h:Good bs L s):Good bs L (leftS s):=by
 obtain ⟨h1,h2,h3,h4,h5,_⟩:=left_same s
 exact ⟨by rw [h1];exact h.le,by rw [h2];exact h.nodes,by rw [h3];exact h.opn,by rw [h4];exact h.text,by rw [h3];exact h.names,by rw [h5];exact h.few⟩
theorem tagE_good {bs:List Int} {L:Lim} {s:St} {at_ slash a:Nat} {n:List Int} {l:List XA} {e:Bool} (h:Good bs L s) (hr:s.ready = []) (ha:a ≤ bs.length) (hd:s.opn.length ≠ L.depth) (hn:s.nodes ≠ L.nodes) (hb:Bytes n):Good bs L (tagE L s at_ n l slash a e) ∧ (tagE L s at_ n l slash a e).ready ≠ [] ∧ (tagE L s at_ n l slash a e).at_ = a:=by
 have h1:=h.opn
 have h2:=h.nodes
 unfold tagE
 split
 ·have hf:=tell_few { s with at_:=a,nodes:=s.nodes + 1,most:=max s.most (s.opn.length + 1),state:=1 } [⟨1,at_,n,[],l⟩,⟨2,slash,n,[],[]⟩]
  obtain ⟨k1,_,_,_,k5,_⟩:=left_same (tellS { s with at_:=a,nodes:=s.nodes + 1,most:=max s.most (s.opn.length + 1),state:=1 } [⟨1,at_,n,[],l⟩,⟨2,slash,n,[],[]⟩])
  refine ⟨Good.left ⟨ha,by show s.nodes + 1 ≤ L.nodes;omega,h.opn,Nat.zero_le _,h.names,?_⟩,?_,k1⟩
  · exact Nat.le_trans hf (by simp [hr])
  ·rw [k5]
   exact tell_ne _ _ (by simp)
 ·have hf:=tell_few { s with at_:=a,nodes:=s.nodes + 1,most:=max s.most (s.opn.length + 1),state:=1,opn:=s.opn ++ [n] } [⟨1,at_,n,[],l⟩]
  refine ⟨⟨ha,by show s.nodes + 1 ≤ L.nodes;omega,by show (s.opn ++ [n]).length ≤ L.depth;rw [List.length_append];simp;omega,Nat.zero_le _,fun x hx=>?_,?_⟩,tell_ne _ _ (by simp),rfl⟩
  ·rcases List.mem_append.1 hx with hx | hx
   · exact h.names x hx
   ·simp at hx
    rw [hx]
    exact hb
  · exact Nat.le_trans hf (by simp [hr])
end Go.Proofs.YtbaokjfhigjpdaaGreatDoorX
end
section
set_option linter.unusedVariables false
namespace Go.Proofs.YtbaokjfhigjpdaaGreatDoorX
open Go.RowKit Go.Shelf Go.Proofs.YtbaokjfhigjpdaaGreatDoor.PXmlBase Go.Proofs.YtbaokjfhigjpdaaGreatDoorW.PrintWords
set_option maxRecDepth 100000 in
set_option maxHeartbeats 8000000 in
theorem line_c {w:World} {p B:Nat} {bs:List Int} {L:Lim} {s:St} {T:Tv} (h:PS w p B bs L s T) (hL:LOk L) (hg:Good bs L s) (at_:Nat) (r:Int) (hpk:peekS bs s.at_ = .ok r) (hr:r ≠ -1) :
    Calls Tryz.prog 112 #[.pointer (some ⟨p,0,none⟩),.int .i64 at_] w (OutP w p B bs L s T ((lineS bs L s at_ r).map fun x=>(Value.tuple #[],x))):=by
  have hlt:=h.lt
  have hby:=h.bytes
  have htk:L.token ≤ 1099511627776:=by have:=hL.token;omega
  have htk4:L.token ≤ 4294967280:=by have:=hL.token;omega
  generalize hR:lineS bs L s at_ r = R
  unfold lineS crS at hR
  go_enter Tryz.func112,Tryz.ntmps112
  have hS0:=h
  have hF0:=Fx.refl w p T
  have hle0:=hg.le
  have hP0:PB w p bs L.token s.at_:=h.pb hle0
  have hcr:=peek_ok hpk hr
  have t102:=True.intro
  go_wp2_with (first
   | (
    have _t:=t102
    go_at_call 106
    go_loud (
     clear _t
     refine (next_ok hP0 (hpk)).mono ?_
     clear t102
     rintro e w101 ⟨rfl,hmx⟩
     have hS101:=hS0.moved hmx
     have hF101:=hF0.trans (Fx.of_mv hmx)
     have hle101:stepS (r) (s.at_) ≤ bs.length:=(peek_step hby (hle0) (hpk)).1
     have hP101:PB w101 p bs L.token (stepS (r) (s.at_)):=hS101.pb hle101
     clear hmx
     by_cases hx:r = 13
     ·rw [if_pos hx] at hR
      (try simp only at hR)
      subst hx
      (try simp only [if_true] at hR)
      have t104:=True.intro
      go_wp2_with (first
       | (
        have _t:=t104
        go_at_call 150
        go_loud (
         clear _t
         have hn:=peek_c hP101
         refine hn.mono ?_
         clear hn t104
         rintro e w103 he
         rcases hq103:peekS bs (stepS (13) (s.at_)) with f | r103
         ·rw [hq103] at hR he
          (try simp only at hR)
          subst hR
          obtain ⟨rfl,hbx⟩:=he
          go_wp2
          exact ⟨rfl,rfl,_,_,hS101.below hbx,hF101.trans (Fx.of_below hbx),rfl,rfl,rfl⟩
         rw [hq103] at hR he
         obtain ⟨rfl,hbx⟩:=he
         have hS103:=hS101.below hbx
         have hF103:=hF101.trans (Fx.of_below hbx)
         have hP103:PB w103 p bs L.token (stepS (13) (s.at_)):=hS103.pb hle101
         clear hbx
         (try simp only at hR)
         by_cases hlf:r103 = 10
         ·rw [if_pos hlf] at hR
          (try simp only at hR)
          subst hlf
          have t106:=True.intro
          go_wp2_with (first
           | (
            have _t:=t106
            go_at_call 106
            go_loud (
             clear _t
             refine (next_ok hP103 (hq103)).mono ?_
             clear t106
             rintro e w105 ⟨rfl,hmx⟩
             have hS105:=hS103.moved hmx
             have hF105:=hF103.trans (Fx.of_mv hmx)
             have hle105:stepS (10) (stepS (13) (s.at_)) ≤ bs.length:=(peek_step hby (hle101) (hq103)).1
             have hP105:PB w105 p bs L.token (stepS (10) (stepS (13) (s.at_))):=hS105.pb hle105
             clear hmx
             have t108:=True.intro
             go_wp2_with (first
              | (
               have _t:=t108
               go_at_call 110
               go_loud (
                clear _t
                have hn:=put_c hS105 (by have:=hL.token;omega) (hg.moved hle105).text (at_) (10) (by decide)
                refine hn.mono ?_
                clear hn t108
                rintro e w107 he
                rcases hq107:putS L { { s with at_:=stepS (13) (s.at_) } with at_:=stepS (10) (stepS (13) (s.at_)) } (at_) (10) with f | s107
                ·rw [hq107] at hR he
                 (try simp only at hR)
                 subst hR
                 obtain ⟨rfl,s5,T5,hS5,hF5,e1,e2,e3⟩:=he
                 go_wp2
                 exact ⟨rfl,rfl,s5,T5,hS5,hF105.trans hF5,e1,e2,e3⟩
                rw [hq107] at hR he
                obtain ⟨rfl,T107,hS107,hF5⟩:=he
                have hF107:=hF105.trans hF5
                clear hF5
                have hle107:s107.at_ ≤ bs.length:=by rw [(put_good (s:={ { s with at_:=stepS (13) (s.at_) } with at_:=stepS (10) (stepS (13) (s.at_)) }) (bs:=bs) (hg.moved hle105) hq107).2.1];exact hle105
                have hP107:PB w107 p bs L.token (s107.at_):=hS107.pb hle107
                (try simp only at hR)
                (try simp only at hR)
                subst hR
                go_wp2
                go_end0
                exact ⟨rfl,_,hS107,hF107⟩))))))
         ·rw [if_neg hlf] at hR
          (try simp only at hR)
          have q4:(r103 == 10) = false:=by rw [beq_eq_false_iff_ne];exact hlf
          have t110:=True.intro
          go_wp2_with (first
           | (
            have _t:=t110
            go_at_call 110
            go_loud (
             clear _t
             have hn:=put_c hS103 (by have:=hL.token;omega) (hg.moved hle101).text (at_) (10) (by decide)
             refine hn.mono ?_
             clear hn t110
             rintro e w109 he
             rcases hq109:putS L { s with at_:=stepS (13) (s.at_) } (at_) (10) with f | s109
             ·rw [hq109] at hR he
              (try simp only at hR)
              subst hR
              obtain ⟨rfl,s5,T5,hS5,hF5,e1,e2,e3⟩:=he
              go_wp2
              exact ⟨rfl,rfl,s5,T5,hS5,hF103.trans hF5,e1,e2,e3⟩
             rw [hq109] at hR he
             obtain ⟨rfl,T109,hS109,hF5⟩:=he
             have hF109:=hF103.trans hF5
             clear hF5
             have hle109:s109.at_ ≤ bs.length:=by rw [(put_good (s:={ s with at_:=stepS (13) (s.at_) }) (bs:=bs) (hg.moved hle101) hq109).2.1];exact hle101
             have hP109:PB w109 p bs L.token (s109.at_):=hS109.pb hle109
             (try simp only at hR)
             (try simp only at hR)
             subst hR
             go_wp2
             go_end0
             exact ⟨rfl,_,hS109,hF109⟩))))))
     ·rw [if_neg hx] at hR
      (try simp only at hR)
      rw [if_neg hx] at hR
      have q3:(r == 13) = false:=by rw [beq_eq_false_iff_ne];exact hx
      have t112:=True.intro
      go_wp2_with (first
       | (
        have _t:=t112
        go_at_call 110
        go_loud (
         clear _t
         have hn:=put_c hS101 (by have:=hL.token;omega) (hg.moved hle101).text (at_) (r) (hcr)
         refine hn.mono ?_
         clear hn t112
         rintro e w111 he
         rcases hq111:putS L { s with at_:=stepS (r) (s.at_) } (at_) (r) with f | s111
         ·rw [hq111] at hR he
          (try simp only at hR)
          subst hR
          obtain ⟨rfl,s5,T5,hS5,hF5,e1,e2,e3⟩:=he
          go_wp2
          exact ⟨rfl,rfl,s5,T5,hS5,hF101.trans hF5,e1,e2,e3⟩
         rw [hq111] at hR he
         obtain ⟨rfl,T111,hS111,hF5⟩:=he
         have hF111:=hF101.trans hF5
         clear hF5
         have hle111:s111.at_ ≤ bs.length:=by rw [(put_good (s:={ s with at_:=stepS (r) (s.at_) }) (bs:=bs) (hg.moved hle101) hq111).2.1];exact hle101
         have hP111:PB w111 p bs L.token (s111.at_):=hS111.pb hle111
         (try simp only at hR)
         (try simp only at hR)
         subst hR
         go_wp2
         go_end0
         exact ⟨rfl,_,hS111,hF111⟩))))))
end Go.Proofs.YtbaokjfhigjpdaaGreatDoorX
end
section
set_option linter.unusedVariables false
namespace Go.Proofs.YtbaokjfhigjpdaaGreatDoorX
open Go.RowKit Go.Shelf Go.Proofs.YtbaokjfhigjpdaaGreatDoor.PXmlBase Go.Proofs.YtbaokjfhigjpdaaGreatDoorW.PrintWords
theorem PS.xlt {w:World} {p B:Nat} {bs:List Int} {L:Lim} {s:St} {T:Tv} (h:PS w p B bs L s T):∀ k,PX p T k → k < w.heap.size:=by
 intro k hk
 rcases hk with rfl | hk | hk | hk
 · exact h.lt
 · exact h.opn.lt k hk
 · exact h.text.lt k hk
 ·obtain ⟨cs,hc,_⟩:=h.ready
  exact hc.lt k hk
theorem PS.bvlt {w:World} {p B:Nat} {bs:List Int} {L:Lim} {s:St} {T:Tv} (h:PS w p B bs L s T) (h0:0 < bs.length):∀ g n c,T.bv = .slice (some ⟨g,0,none⟩) n c → g < w.heap.size:=by
 intro g n c e
 obtain ⟨ba,cap,h1,_,h3⟩:=h.row
 obtain ⟨g',e2,_,hc⟩:=h3 0 h0
 rw [e,e2] at h1
 cases h1
 exact lt_of_cell hc
theorem attrsL_le {bs:List Int} {tk na:Nat} (hb:Bytes bs):∀ (k:Nat) (out:List XA) (a:Nat) (x:List XA × Nat),a ≤ bs.length → attrsL bs tk na k out a = .ok x → a ≤ x.2 ∧ x.2 ≤ bs.length
  | 0,out,a,x,hle,h=>by
   cases h
   exact ⟨Nat.le_refl _,hle⟩
  | k + 1,out,a,x,hle,h=>by
   unfold attrsL at h
   split at h
   · cases h
   ·rename_i a1 h1
    obtain ⟨g1,g2⟩:=white_le hb hle h1
    split at h
    · cases h
    ·split at h
     ·cases h
      exact ⟨g1,g2⟩
     ·split at h
      · cases h
      ·split at h
       · cases h
       ·split at h
        · cases h
        ·rename_i n a2 h2
         obtain ⟨g3,g4⟩:=name_le hb g2 h2
         simp only at g3 g4
         split at h
         · cases h
         ·split at h
          · cases h
          ·rename_i a3 h3
           obtain ⟨g5,g6⟩:=eq_le hb g4 h3
           split at h
           · cases h
           ·split at h
            · cases h
            ·rename_i v a4 h4
             obtain ⟨g7,g8⟩:=value_le hb g6 h4
             simp only at g7 g8
             obtain ⟨g9,g10⟩:=attrsL_le hb k _ _ _ g8 h
             exact ⟨by omega,g10⟩
theorem attrs_le {bs:List Int} {tk na a:Nat} {x:List XA × Nat} (hb:Bytes bs) (hle:a ≤ bs.length) (h:attrsS bs tk na a = .ok x):a ≤ x.2 ∧ x.2 ≤ bs.length:=attrsL_le hb _ _ _ _ hle h
theorem PS.far {w:World} {p B:Nat} {bs:List Int} {L:Lim} {s:St} {T:Tv} (h:PS w p B bs L s T) (hr:s.ready = []) {k:Nat} (hk:¬ PX p T k) (hB:B ≤ k) (hb:0 < bs.length → ∀ g n c,T.bv = .slice (some ⟨g,0,none⟩) n c → g ≠ k) (i:Nat) (v:Value):PS (w.setCell ⟨k,i,none⟩ v) p B bs L s T:=by
 have hset:∀ j,j ≠ k → (w.setCell ⟨k,i,none⟩ v).heap[j]? = w.heap[j]?:=fun j hj=>Below.heap_setCell w ⟨k,i,none⟩ _ j hj
 have hp:p ≠ k:=fun e=>hk (.inl e.symm)
 refine ⟨fun j=>(World.cell?_of_block (hset p hp)).trans (h.cells j),fun j=>(World.frozen?_of_block (hset p hp)).trans (h.frz j),?_,h.bytes,h.small,h.opn.move fun j hj=>hset j (fun e=>hk (.inr (.inl (e ▸ hj)))),h.text.move fun j hj=>hset j (fun e=>hk (.inr (.inr (.inl (e ▸ hj))))),?_,h.base,?_,h.po,h.pt,h.pr,h.ot,h.or_,h.tr⟩
 ·obtain ⟨ba,cap,h1,h2,h3⟩:=h.row
  refine ⟨ba,cap,h1,h2,fun j hj=>?_⟩
  obtain ⟨g,e,hg,hc⟩:=h3 j hj
  exact ⟨g,e,hg,(World.cell?_of_block (hset g (hb (by omega) g _ _ (by rw [h1,e])))).trans hc⟩
 ·obtain ⟨cs,h1,h2⟩:=h.ready
  rw [hr] at h2
  rw [show cs = [] from h2] at h1
  exact ⟨[],h1.move fun j hj=>hset j (fun e=>hk (.inr (.inr (.inr (e ▸ hj))))),by rw [hr];rfl⟩
 ·obtain ⟨w0,h1,h2,h3⟩:=h.env
  exact ⟨w0,h1,⟨h2.os,h2.tape,h2.output,by simp [World.setCell];exact h2.size,fun j hj=>(hset j (by omega)).trans (h2.block j hj)⟩,h3⟩
theorem Fx.far {w W:World} {p k i:Nat} {T T':Tv} {v:Value} (h:Fx w W p T T') (hk:w.heap.size ≤ k):Fx w (W.setCell ⟨k,i,none⟩ v) p T T' :=
  ⟨h.os,h.tape,h.output,by simp [World.setCell];exact h.size,fun j hj hx=>(Below.heap_setCell W ⟨k,i,none⟩ _ j (by show j ≠ k;omega)).trans (h.block j hj hx),h.grow⟩
set_option maxRecDepth 100000 in
set_option maxHeartbeats 8000000 in
theorem tag_c {w0:World} {p B:Nat} {bs:List Int} {L:Lim} {s:St} {T:Tv} (h:PS w0 p B bs L s T) (hL:LOk L) (hg:Good bs L s) (hr0:s.ready = []) (at_:Nat) :
    Calls Tryz.prog 108 #[.pointer (some ⟨p,0,none⟩),.int .i64 at_] w0 (OutP w0 p B bs L s T ((tagS bs L s at_).map fun x=>(Value.tuple #[],x))):=by
  have hlt:=h.lt
  have hby:=h.bytes
  have htk:L.token ≤ 1099511627776:=by have:=hL.token;omega
  have htk4:L.token ≤ 4294967280:=by have:=hL.token;omega
  generalize hR:tagS bs L s at_ = R
  unfold tagS at hR
  go_enter Tryz.func108,Tryz.ntmps108
  have hS0:=h
  have hF0:=Fx.refl w0 p T
  have hle0:=hg.le
  have hP0:PB w0 p bs L.token s.at_:=h.pb hle0
  obtain ⟨A,c,hT,_⟩:=h.opn.slice
  have h9:w0.cell? ⟨p,9,none⟩ = some (.slice A s.opn.length c):=(h.cells 9).trans (congrArg some hT)
  have hc1:w0.cell? ⟨p,1,none⟩ = some (.int .i64 L.depth):=h.cells 1
  have hc2:w0.cell? ⟨p,2,none⟩ = some (.int .i64 L.nodes):=h.cells 2
  have hc10:w0.cell? ⟨p,10,none⟩ = some (.int .i64 s.nodes):=h.cells 10
  by_cases hd:s.opn.length = L.depth
  ·rw [if_pos (.inl hd)] at hR
   have qd:((s.opn.length:Int) == (L.depth:Int)) = true:=by rw [beq_iff_eq];omega
   clear hd
   go_wp2
   go_quiet (fail)
   have hbx:Below w0.heap.size w0 (w0.drewN nq):=⟨rfl,rfl,rfl,Nat.le_refl _,fun _ _=>rfl⟩
   generalize w0.drewN nq = w101 at *
   have hS101:=hS0.below hbx
   have hF101:=hF0.trans (Fx.of_below hbx)
   have hP101:PB w101 p bs L.token (s.at_):=hS101.pb hle0
   clear hbx
   have t102:=True.intro
   go_wp2_with (first
    | (
     have _t:=t102
     go_at_call 102
     go_loud (
      clear _t
      refine (fail_c _ _ _).mono ?_
      clear t102
      rintro e wx ⟨rfl,hbx⟩
      subst hR
      go_wp2
      exact ⟨rfl,rfl,_,_,hS101.below hbx,hF101.trans (Fx.of_below hbx),rfl,rfl,rfl⟩)))
  have qd:((s.opn.length:Int) == (L.depth:Int)) = false:=by rw [beq_eq_false_iff_ne];omega
  by_cases hn:s.nodes = L.nodes
  ·rw [if_pos (.inr hn)] at hR
   have qn:((s.nodes:Int) == (L.nodes:Int)) = true:=by rw [beq_iff_eq];omega
   clear hn
   go_wp2
   go_quiet (fail)
   have hbx:Below w0.heap.size w0 (w0.drewN nq):=⟨rfl,rfl,rfl,Nat.le_refl _,fun _ _=>rfl⟩
   generalize w0.drewN nq = w103 at *
   have hS103:=hS0.below hbx
   have hF103:=hF0.trans (Fx.of_below hbx)
   have hP103:PB w103 p bs L.token (s.at_):=hS103.pb hle0
   clear hbx
   have t104:=True.intro
   go_wp2_with (first
    | (
     have _t:=t104
     go_at_call 102
     go_loud (
      clear _t
      refine (fail_c _ _ _).mono ?_
      clear t104
      rintro e wx ⟨rfl,hbx⟩
      subst hR
      go_wp2
      exact ⟨rfl,rfl,_,_,hS103.below hbx,hF103.trans (Fx.of_below hbx),rfl,rfl,rfl⟩)))
  rw [if_neg (show ¬ (s.opn.length = L.depth ∨ s.nodes = L.nodes) from fun e=>e.elim hd hn)] at hR
  have qn:((s.nodes:Int) == (L.nodes:Int)) = false:=by rw [beq_eq_false_iff_ne];omega
  go_wp2
  go_quiet (fail)
  have hbx:Below w0.heap.size w0 (w0.drewN nq):=⟨rfl,rfl,rfl,Nat.le_refl _,fun _ _=>rfl⟩
  generalize w0.drewN nq = w105 at *
  have hS105:=hS0.below hbx
  have hF105:=hF0.trans (Fx.of_below hbx)
  have hP105:PB w105 p bs L.token (s.at_):=hS105.pb hle0
  clear hbx
  have t107:=True.intro
  go_wp2_with (first
   | (
    have _t:=t107
    go_at_call 153
    go_loud (
     clear _t
     have hn:=name_c2 hP105 htk
     refine hn.mono ?_
     clear hn t107
     rintro e w106 he
     rcases hq106:nameS bs L.token (s.at_) with f | ⟨n106,a106⟩
     ·rw [hq106] at hR he
      (try simp only at hR)
      subst hR
      obtain ⟨rfl,a5,hmx⟩:=he
      go_wp2
      exact ⟨rfl,rfl,_,_,hS105.moved hmx,hF105.trans (Fx.of_mv hmx),rfl,rfl,rfl⟩
     rw [hq106] at hR he
     obtain ⟨rfl,hmx⟩:=he
     have hS106:=hS105.moved hmx
     have hF106:=hF105.trans (Fx.of_mv hmx)
     have hle106:a106 ≤ bs.length:=(name_le hby hle0 hq106).2
     have hP106:PB w106 p bs L.token (a106):=hS106.pb hle106
     clear hmx
     (try simp only at hR)
     have hbx:=(Below.refl w106.heap.size w106).alloc (Nat.le_refl _) (.cells #[.int .i64 1,.int .i64 (at_:Nat),.string (strOfNums n106),.string ⟨#[]⟩,.slice none 0 0] 95)
     have hEx:∀ k,PX p T k → k < w106.heap.size:=hS106.xlt
     have hEB:B ≤ w106.heap.size:=by have:=hS106.base p (.inl rfl);have:=hS106.lt;omega
     have hEv:=hS106.bvlt
     have hEw:=hF106.size
     have hEp:w106.heap.size ≠ p:=by have:=hS106.lt;omega
     have hnb:=name_bytes hby hq106
     have hS108:=hS106.below hbx
     have hF108:=hF106.trans (Fx.of_below hbx)
     have hE108:(w106.alloc (.cells #[.int .i64 1,.int .i64 (at_:Nat),.string (strOfNums n106),.string ⟨#[]⟩,.slice none 0 0] 95)).heap[w106.heap.size]? = some (.cells #[.int .i64 1,.int .i64 (at_:Nat),.string (strOfNums n106),.string ⟨#[]⟩,.slice none 0 0] 95 (0,0)):=heap_alloc_new _ _
     clear hbx
     have hc10:(w106.alloc (.cells #[.int .i64 1,.int .i64 (at_:Nat),.string (strOfNums n106),.string ⟨#[]⟩,.slice none 0 0] 95)).cell? ⟨p,10,none⟩ = some (.int .i64 s.nodes):=hS108.cells 10
     have hf10:=hS108.frz 10
     have hwn:IntKind.i64.wrap ((s.nodes:Int) + 1) = (s.nodes:Int) + 1:=IntWalk.i64_in _ (by have:=hg.nodes;have:=hL.nodes;omega)
     obtain ⟨hS109,hF5⟩:=hS108.set (s':={ { s with at_:=a106 } with nodes:=s.nodes + 1 }) 10 (.int .i64 ((s.nodes:Int) + 1)) (by decide) rfl rfl rfl rfl
     have hF109:=hF108.trans hF5
     clear hF5
     have hE109:((w106.alloc (.cells #[.int .i64 1,.int .i64 (at_:Nat),.string (strOfNums n106),.string ⟨#[]⟩,.slice none 0 0] 95)).setCell ⟨p,10,none⟩ (.int .i64 ((s.nodes:Int) + 1))).heap[w106.heap.size]? = some (.cells #[.int .i64 1,.int .i64 (at_:Nat),.string (strOfNums n106),.string ⟨#[]⟩,.slice none 0 0] 95 (0,0)):=(Below.heap_setCell (w106.alloc (.cells #[.int .i64 1,.int .i64 (at_:Nat),.string (strOfNums n106),.string ⟨#[]⟩,.slice none 0 0] 95)) ⟨p,10,none⟩ _ _ hEp).trans hE108
     have hsz2:((w106.alloc (.cells #[.int .i64 1,.int .i64 (at_:Nat),.string (strOfNums n106),.string ⟨#[]⟩,.slice none 0 0] 95)).setCell ⟨p,10,none⟩ (.int .i64 ((s.nodes:Int) + 1))).heap.size = w106.heap.size + 1:=by simp [World.setCell]
     have hP109:PB ((w106.alloc (.cells #[.int .i64 1,.int .i64 (at_:Nat),.string (strOfNums n106),.string ⟨#[]⟩,.slice none 0 0] 95)).setCell ⟨p,10,none⟩ (.int .i64 ((s.nodes:Int) + 1))) p bs L.token (a106):=hS109.pb hle106
     have hc3:((w106.alloc (.cells #[.int .i64 1,.int .i64 (at_:Nat),.string (strOfNums n106),.string ⟨#[]⟩,.slice none 0 0] 95)).setCell ⟨p,10,none⟩ (.int .i64 ((s.nodes:Int) + 1))).cell? ⟨p,3,none⟩ = some (.int .i64 L.attrs):=hS109.cells 3
     have hlt2:=hS109.lt
     have t111:=True.intro
     go_wp2_with (first
      | (
       have _t:=t111
       go_at_call 154
       go_loud (
        clear _t
        have hn:=attrs_c hP109 htk hc3 hL.attrs
        refine hn.mono ?_
        clear hn t111
        rintro e w110 he
        rcases hq110:attrsS bs L.token L.attrs (a106) with f | ⟨l110,a110⟩
        ·rw [hq110] at hR he
         (try simp only at hR)
         subst hR
         obtain ⟨rfl,a5,hmx⟩:=he
         go_wp2
         exact ⟨rfl,rfl,_,_,hS109.moved hmx,hF109.trans (Fx.of_mv hmx),rfl,rfl,rfl⟩
        rw [hq110] at hR he
        obtain ⟨v5,rfl,hA5,hAb,hmx⟩:=he
        obtain ⟨Av,cv,rfl,_⟩:=RowAt.slice hA5
        have hS110:=hS109.moved hmx
        have hF110:=hF109.trans (Fx.of_mv hmx)
        have hle110:a110 ≤ bs.length:=(attrs_le hby hle106 hq110).2
        have hP110:PB w110 p bs L.token (a110):=hS110.pb hle110
        have hE110:=(hmx.block w106.heap.size (blk_lt hE109) hEp).trans hE109
        clear hmx
        (try simp only at hR)
        have hc4:w110.cell? ⟨w106.heap.size,4,none⟩ = some (.slice none 0 0):=blk_cell hE110 4
        have hf4:=blk_frz hE110 4
        have hAp:∀ k,(Value.slice Av l110.length cv).ownBlock = some k → k ≠ p:=fun k hk=>by have:=hAb k hk;omega
        have hAn:∀ k,(Value.slice Av l110.length cv).ownBlock = some k → ¬ PX p T k:=fun k hk hx=>by have h1:=hAb k hk;have h2:=hEx k hx;omega
        have hS112:=hS110.far hr0 (k:=w106.heap.size) (fun hx=>by have:=hEx _ hx;omega) hEB (fun h0 g n c e=>by have:=hEv h0 g n c e;omega) 4 (.slice Av l110.length cv)
        have hF112:=hF110.far (i:=4) (v:=.slice Av l110.length cv) hEw
        have hE112:(w110.setCell ⟨w106.heap.size,4,none⟩ (.slice Av l110.length cv)).heap[w106.heap.size]? = some (.cells #[.int .i64 1,.int .i64 (at_:Nat),.string (strOfNums n106),.string ⟨#[]⟩,.slice Av l110.length cv] 95 (0,0)):=blk_set hE110
        have hA112:AttrRow (w110.setCell ⟨w106.heap.size,4,none⟩ (.slice Av l110.length cv)) (.slice Av l110.length cv) l110:=RowAt.move hA5 fun k hk=>Below.heap_setCell w110 ⟨w106.heap.size,4,none⟩ _ k (by have:=hAb k hk;show k ≠ w106.heap.size;omega)
        have hP112:PB (w110.setCell ⟨w106.heap.size,4,none⟩ (.slice Av l110.length cv)) p bs L.token (a110):=hS112.pb hle110
        have hc7:(w110.setCell ⟨w106.heap.size,4,none⟩ (.slice Av l110.length cv)).cell? ⟨p,7,none⟩ = some (.int .i64 (a110:Nat)):=hS112.cells 7
        have t114:=True.intro
        go_wp2_with (first
         | (
          have _t:=t114
          go_at_call 150
          go_loud (
           clear _t
           have hn:=peek_c hP112
           refine hn.mono ?_
           clear hn t114
           rintro e w113 he
           rcases hq113:peekS bs (a110) with f | r113
           ·rw [hq113] at hR he
            (try simp only at hR)
            subst hR
            obtain ⟨rfl,hbx⟩:=he
            go_wp2
            exact ⟨rfl,rfl,_,_,hS112.below hbx,hF112.trans (Fx.of_below hbx),rfl,rfl,rfl⟩
           rw [hq113] at hR he
           obtain ⟨rfl,hbx⟩:=he
           have hS113:=hS112.below hbx
           have hF113:=hF112.trans (Fx.of_below hbx)
           have hP113:PB w113 p bs L.token (a110):=hS113.pb hle110
           have hE113:=(hbx.block w106.heap.size (blk_lt hE112)).trans hE112
           have hA113:=attr_below hA112 hbx
           clear hbx
           (try simp only at hR)
           by_cases hsl:r113 = 47
           ·rw [if_pos hsl] at hR
            (try simp only at hR)
            subst hsl
            have t116:=True.intro
            go_wp2_with (first
             | (
              have _t:=t116
              go_at_call 106
              go_loud (
               clear _t
               refine (next_ok hP113 (hq113)).mono ?_
               clear t116
               rintro e w115 ⟨rfl,hmx⟩
               have hS115:=hS113.moved hmx
               have hF115:=hF113.trans (Fx.of_mv hmx)
               have hle115:stepS (47) (a110) ≤ bs.length:=(peek_step hby (hle110) (hq113)).1
               have hP115:PB w115 p bs L.token (stepS (47) (a110)):=hS115.pb hle115
               have hE115:=(hmx.block w106.heap.size (blk_lt hE113) hEp).trans hE113
               have hA115:AttrRow w115 (.slice Av l110.length cv) l110:=RowAt.move hA113 fun k hk=>hmx.block k (RowAt.lt hA113 k hk) (hAp k hk)
               clear hmx
               have t118:=True.intro
               go_wp2_with (first
                | (
                 have _t:=t118
                 go_at_call 105
                 go_loud (
                  clear _t
                  have hn:=must_c hP115
                  refine hn.mono ?_
                  clear hn t118
                  rintro e w117 he
                  rcases hq117:mustS bs (stepS (47) (a110)) with f | r117
                  ·rw [hq117] at hR he
                   (try simp only at hR)
                   subst hR
                   obtain ⟨rfl,hbx⟩:=he
                   go_wp2
                   exact ⟨rfl,rfl,_,_,hS115.below hbx,hF115.trans (Fx.of_below hbx),rfl,rfl,rfl⟩
                  rw [hq117] at hR he
                  obtain ⟨rfl,hbx⟩:=he
                  have hS117:=hS115.below hbx
                  have hF117:=hF115.trans (Fx.of_below hbx)
                  have hP117:PB w117 p bs L.token (stepS (47) (a110)):=hS117.pb hle115
                  have hE117:=(hbx.block w106.heap.size (blk_lt hE115)).trans hE115
                  have hA117:=attr_below hA115 hbx
                  clear hbx
                  (try simp only at hR)
                  have hpk117:=(must_ok hq117).1
                  have hst117:=must_step hby hle115 hq117
                  by_cases hgt:r117 ≠ 62
                  ·rw [if_pos hgt] at hR
                   (try simp only at hR)
                   have qg:(r117 != 62) = true:=by rw [bne_iff_ne];exact hgt
                   have t119:=True.intro
                   go_wp2_with (first
                    | (
                     have _t:=t119
                     go_at_call 82
                     go_loud (
                      clear _t
                      refine (odd_c hP117).mono ?_
                      clear t119
                      rintro e wx ⟨rfl,hbx⟩
                      subst hR
                      go_wp2
                      exact ⟨rfl,rfl,_,_,hS117.below hbx,hF117.trans (Fx.of_below hbx),rfl,rfl,rfl⟩)))
                  ·rw [if_neg hgt] at hR
                   (try simp only at hR)
                   have hgt2:r117 = 62:=Classical.byContradiction hgt
                   subst hgt2
                   have t121:=True.intro
                   go_wp2_with (first
                    | (
                     have _t:=t121
                     go_at_call 106
                     go_loud (
                      clear _t
                      refine (next_ok hP117 (hpk117)).mono ?_
                      clear t121
                      rintro e w120 ⟨rfl,hmx⟩
                      have hS120:=hS117.moved hmx
                      have hF120:=hF117.trans (Fx.of_mv hmx)
                      have hle120:stepS (62) (stepS (47) (a110)) ≤ bs.length:=(peek_step hby (hle115) (hpk117)).1
                      have hP120:PB w120 p bs L.token (stepS (62) (stepS (47) (a110))):=hS120.pb hle120
                      have hE120:=(hmx.block w106.heap.size (blk_lt hE117) hEp).trans hE117
                      have hA120:AttrRow w120 (.slice Av l110.length cv) l110:=RowAt.move hA117 fun k hk=>hmx.block k (RowAt.lt hA117 k hk) (hAp k hk)
                      clear hmx
                      have h9120:w120.cell? ⟨p,9,none⟩ = some (.slice A s.opn.length c):=(hS120.cells 9).trans (congrArg some hT)
                      have hc11:w120.cell? ⟨p,11,none⟩ = some (.int .i64 s.most):=hS120.cells 11
                      have hf11:=hS120.frz 11
                      have hwm:IntKind.i64.wrap ((s.opn.length:Int) + 1) = (s.opn.length:Int) + 1:=IntWalk.i64_in _ (by have:=hg.opn;have:=hL.depth;omega)
                      go_wp2
                      go_region
                      have ecast:((max s.most (s.opn.length + 1):Nat):Int) = max (s.most:Int) ((s.opn.length:Int) + 1):=by omega
                      obtain ⟨hS122,hF5⟩:=hS120.set (s':={ { { { { { s with at_:=a106 } with nodes:=s.nodes + 1 } with at_:=a110 } with at_:=stepS (47) (a110) } with at_:=stepS (62) (stepS (47) (a110)) } with most:=max s.most (s.opn.length + 1) }) 11 (.int .i64 (max (s.most:Int) ((s.opn.length:Int) + 1))) (by decide) (by simp only [pcells,ecast];rfl) rfl rfl rfl
                      have hF122:=hF120.trans hF5
                      clear hF5
                      have hE122:(w120.setCell ⟨p,11,none⟩ (.int .i64 (max (s.most:Int) ((s.opn.length:Int) + 1)))).heap[w106.heap.size]? = some (.cells #[.int .i64 1,.int .i64 (at_:Nat),.string (strOfNums n106),.string ⟨#[]⟩,.slice Av l110.length cv] 95 (0,0)):=(Below.heap_setCell w120 ⟨p,11,none⟩ _ _ hEp).trans hE120
                      have hA122:AttrRow (w120.setCell ⟨p,11,none⟩ (.int .i64 (max (s.most:Int) ((s.opn.length:Int) + 1)))) (.slice Av l110.length cv) l110:=RowAt.move hA120 fun k hk=>Below.heap_setCell w120 ⟨p,11,none⟩ _ k (hAp k hk)
                      have hbx:=(Below.refl (w120.setCell ⟨p,11,none⟩ (.int .i64 (max (s.most:Int) ((s.opn.length:Int) + 1)))).heap.size (w120.setCell ⟨p,11,none⟩ (.int .i64 (max (s.most:Int) ((s.opn.length:Int) + 1))))).drew
                      generalize (w120.setCell ⟨p,11,none⟩ (.int .i64 (max (s.most:Int) ((s.opn.length:Int) + 1)))).drew = w123 at *
                      have hS123:=hS122.below hbx
                      have hF123:=hF122.trans (Fx.of_below hbx)
                      have hP123:PB w123 p bs L.token (stepS (62) (stepS (47) (a110))):=hS123.pb hle120
                      have hE123:=(hbx.block w106.heap.size (blk_lt hE122)).trans hE122
                      have hA123:=attr_below hA122 hbx
                      clear hbx
                      have hc8:w123.cell? ⟨p,8,none⟩ = some (.int .i64 s.state):=hS123.cells 8
                      have hf8:=hS123.frz 8
                      obtain ⟨hS124,hF5⟩:=hS123.set (s':={ { { { { { { s with at_:=a106 } with nodes:=s.nodes + 1 } with at_:=a110 } with at_:=stepS (47) (a110) } with at_:=stepS (62) (stepS (47) (a110)) } with most:=max s.most (s.opn.length + 1) } with state:=1 }) 8 (.int .i64 1) (by decide) rfl rfl rfl rfl
                      have hF124:=hF123.trans hF5
                      clear hF5
                      have hE124:(w123.setCell ⟨p,8,none⟩ (.int .i64 1)).heap[w106.heap.size]? = some (.cells #[.int .i64 1,.int .i64 (at_:Nat),.string (strOfNums n106),.string ⟨#[]⟩,.slice Av l110.length cv] 95 (0,0)):=(Below.heap_setCell w123 ⟨p,8,none⟩ _ _ hEp).trans hE123
                      have hA124:AttrRow (w123.setCell ⟨p,8,none⟩ (.int .i64 1)) (.slice Av l110.length cv) l110:=RowAt.move hA123 fun k hk=>Below.heap_setCell w123 ⟨p,8,none⟩ _ k (hAp k hk)
                      have hd0:(w123.setCell ⟨p,8,none⟩ (.int .i64 1)).cell? ⟨w106.heap.size,0,none⟩ = some (.int .i64 1):=blk_cell hE124 0
                      have hd1:(w123.setCell ⟨p,8,none⟩ (.int .i64 1)).cell? ⟨w106.heap.size,1,none⟩ = some (.int .i64 (at_:Nat)):=blk_cell hE124 1
                      have hd2:(w123.setCell ⟨p,8,none⟩ (.int .i64 1)).cell? ⟨w106.heap.size,2,none⟩ = some (.string (strOfNums n106)):=blk_cell hE124 2
                      have hd3:(w123.setCell ⟨p,8,none⟩ (.int .i64 1)).cell? ⟨w106.heap.size,3,none⟩ = some (.string ⟨#[]⟩):=blk_cell hE124 3
                      have hd4:(w123.setCell ⟨p,8,none⟩ (.int .i64 1)).cell? ⟨w106.heap.size,4,none⟩ = some (.slice Av l110.length cv):=blk_cell hE124 4
                      have hbx:=(Below.refl (w123.setCell ⟨p,8,none⟩ (.int .i64 1)).heap.size (w123.setCell ⟨p,8,none⟩ (.int .i64 1))).alloc (Nat.le_refl _) (.cells #[.int .i64 1,.int .i64 (at_:Nat),.string (strOfNums n106),.string ⟨#[]⟩,.slice Av l110.length cv,.int .i64 2,.int .i64 (a110:Nat),.string (strOfNums n106),.string ⟨#[]⟩,.slice none 0 0] 95)
                      have hS125:=hS124.below hbx
                      have hF125:=hF124.trans (Fx.of_below hbx)
                      have hA125:=attr_below hA124 hbx
                      have hnews:=new_cells (w123.setCell ⟨p,8,none⟩ (.int .i64 1)) [.int .i64 1,.int .i64 (at_:Nat),.string (strOfNums n106),.string ⟨#[]⟩,.slice Av l110.length cv,.int .i64 2,.int .i64 (a110:Nat),.string (strOfNums n106),.string ⟨#[]⟩,.slice none 0 0] 95
                      have hsz9:(w123.setCell ⟨p,8,none⟩ (.int .i64 1)).heap.size = w123.heap.size:=by simp [World.setCell]
                      rw [hsz9] at hnews
                      have hevs:EvRows ((w123.setCell ⟨p,8,none⟩ (.int .i64 1)).alloc (.cells #[.int .i64 1,.int .i64 (at_:Nat),.string (strOfNums n106),.string ⟨#[]⟩,.slice Av l110.length cv,.int .i64 2,.int .i64 (a110:Nat),.string (strOfNums n106),.string ⟨#[]⟩,.slice none 0 0] 95)) (PX p T) [⟨1,at_,n106,[],l110⟩,⟨2,a110,n106,[],[]⟩] [.int .i64 1,.int .i64 (at_:Nat),.string (strOfNums n106),.string ⟨#[]⟩,.slice Av l110.length cv,.int .i64 2,.int .i64 (a110:Nat),.string (strOfNums n106),.string ⟨#[]⟩,.slice none 0 0]:=⟨_,_,rfl,hA125,hAn,_,_,rfl,RowAt.nil _ _ _,(fun k hk=>by simp [Value.ownBlock] at hk),rfl⟩
                      have hnx:¬ PX p T w123.heap.size:=fun hx=>by have h1:=hS123.xlt _ hx;omega
                      have hnl:w123.heap.size < ((w123.setCell ⟨p,8,none⟩ (.int .i64 1)).alloc (.cells #[.int .i64 1,.int .i64 (at_:Nat),.string (strOfNums n106),.string ⟨#[]⟩,.slice Av l110.length cv,.int .i64 2,.int .i64 (a110:Nat),.string (strOfNums n106),.string ⟨#[]⟩,.slice none 0 0] 95)).heap.size:=by simp [World.setCell]
                      clear hbx
                      have t126:=True.intro
                      go_wp2_with (first
                       | (
                        have _t:=t126
                        go_at_call 155
                        go_loud (
                         clear _t
                         refine (tell_c hS125 [⟨1,at_,n106,[],l110⟩,⟨2,a110,n106,[],[]⟩] [.int .i64 1,.int .i64 (at_:Nat),.string (strOfNums n106),.string ⟨#[]⟩,.slice Av l110.length cv,.int .i64 2,.int .i64 (a110:Nat),.string (strOfNums n106),.string ⟨#[]⟩,.slice none 0 0] ⟨w123.heap.size,0,none⟩ 2 hnews hevs hnx hnl (by simp) (by show s.ready.length ≤ 100;rw [hr0];simp) (by show s.text.length ≤ _;have:=hg.text;have:=hL.token;omega)).mono ?_
                         clear t126
                         rintro e w8 ⟨rfl,T8,hS8,hF8⟩
                         have tl:=True.intro
                         go_wp2_with (first
                          | (
                           have _t:=tl
                           go_at_call 156
                           go_loud (
                            clear _t
                            refine (left_c hS8).mono ?_
                            clear tl
                            rintro e w9 ⟨rfl,hS9,hF9⟩
                            subst hR
                            go_wp2
                            go_end0
                            exact ⟨rfl,T8,hS9,(hF125.trans hF8).trans hF9⟩)))))))))))))))
           ·rw [if_neg hsl] at hR
            (try simp only at hR)
            have q4:(r113 == 47) = false:=by rw [beq_eq_false_iff_ne];exact hsl
            have t128:=True.intro
            go_wp2_with (first
             | (
              have _t:=t128
              go_at_call 106
              go_loud (
               clear _t
               refine (next_ok hP113 (hq113)).mono ?_
               clear t128
               rintro e w127 ⟨rfl,hmx⟩
               have hS127:=hS113.moved hmx
               have hF127:=hF113.trans (Fx.of_mv hmx)
               have hle127:stepS (r113) (a110) ≤ bs.length:=(peek_step hby (hle110) (hq113)).1
               have hP127:PB w127 p bs L.token (stepS (r113) (a110)):=hS127.pb hle127
               have hE127:=(hmx.block w106.heap.size (blk_lt hE113) hEp).trans hE113
               have hA127:AttrRow w127 (.slice Av l110.length cv) l110:=RowAt.move hA113 fun k hk=>hmx.block k (RowAt.lt hA113 k hk) (hAp k hk)
               clear hmx
               have h9127:w127.cell? ⟨p,9,none⟩ = some (.slice A s.opn.length c):=(hS127.cells 9).trans (congrArg some hT)
               have hc11:w127.cell? ⟨p,11,none⟩ = some (.int .i64 s.most):=hS127.cells 11
               have hf11:=hS127.frz 11
               have hwm:IntKind.i64.wrap ((s.opn.length:Int) + 1) = (s.opn.length:Int) + 1:=IntWalk.i64_in _ (by have:=hg.opn;have:=hL.depth;omega)
               go_wp2
               go_region
               have ecast:((max s.most (s.opn.length + 1):Nat):Int) = max (s.most:Int) ((s.opn.length:Int) + 1):=by omega
               obtain ⟨hS129,hF5⟩:=hS127.set (s':={ { { { { s with at_:=a106 } with nodes:=s.nodes + 1 } with at_:=a110 } with at_:=stepS (r113) (a110) } with most:=max s.most (s.opn.length + 1) }) 11 (.int .i64 (max (s.most:Int) ((s.opn.length:Int) + 1))) (by decide) (by simp only [pcells,ecast];rfl) rfl rfl rfl
               have hF129:=hF127.trans hF5
               clear hF5
               have hE129:(w127.setCell ⟨p,11,none⟩ (.int .i64 (max (s.most:Int) ((s.opn.length:Int) + 1)))).heap[w106.heap.size]? = some (.cells #[.int .i64 1,.int .i64 (at_:Nat),.string (strOfNums n106),.string ⟨#[]⟩,.slice Av l110.length cv] 95 (0,0)):=(Below.heap_setCell w127 ⟨p,11,none⟩ _ _ hEp).trans hE127
               have hA129:AttrRow (w127.setCell ⟨p,11,none⟩ (.int .i64 (max (s.most:Int) ((s.opn.length:Int) + 1)))) (.slice Av l110.length cv) l110:=RowAt.move hA127 fun k hk=>Below.heap_setCell w127 ⟨p,11,none⟩ _ k (hAp k hk)
               have hbx:=(Below.refl (w127.setCell ⟨p,11,none⟩ (.int .i64 (max (s.most:Int) ((s.opn.length:Int) + 1)))).heap.size (w127.setCell ⟨p,11,none⟩ (.int .i64 (max (s.most:Int) ((s.opn.length:Int) + 1))))).drew
               generalize (w127.setCell ⟨p,11,none⟩ (.int .i64 (max (s.most:Int) ((s.opn.length:Int) + 1)))).drew = w130 at *
               have hS130:=hS129.below hbx
               have hF130:=hF129.trans (Fx.of_below hbx)
               have hP130:PB w130 p bs L.token (stepS (r113) (a110)):=hS130.pb hle127
               have hE130:=(hbx.block w106.heap.size (blk_lt hE129)).trans hE129
               have hA130:=attr_below hA129 hbx
               clear hbx
               have hc8:w130.cell? ⟨p,8,none⟩ = some (.int .i64 s.state):=hS130.cells 8
               have hf8:=hS130.frz 8
               obtain ⟨hS131,hF5⟩:=hS130.set (s':={ { { { { { s with at_:=a106 } with nodes:=s.nodes + 1 } with at_:=a110 } with at_:=stepS (r113) (a110) } with most:=max s.most (s.opn.length + 1) } with state:=1 }) 8 (.int .i64 1) (by decide) rfl rfl rfl rfl
               have hF131:=hF130.trans hF5
               clear hF5
               have hE131:(w130.setCell ⟨p,8,none⟩ (.int .i64 1)).heap[w106.heap.size]? = some (.cells #[.int .i64 1,.int .i64 (at_:Nat),.string (strOfNums n106),.string ⟨#[]⟩,.slice Av l110.length cv] 95 (0,0)):=(Below.heap_setCell w130 ⟨p,8,none⟩ _ _ hEp).trans hE130
               have hA131:AttrRow (w130.setCell ⟨p,8,none⟩ (.int .i64 1)) (.slice Av l110.length cv) l110:=RowAt.move hA130 fun k hk=>Below.heap_setCell w130 ⟨p,8,none⟩ _ k (hAp k hk)
               have hd2:(w130.setCell ⟨p,8,none⟩ (.int .i64 1)).cell? ⟨w106.heap.size,2,none⟩ = some (.string (strOfNums n106)):=blk_cell hE131 2
               have hbx:=(Below.refl (w130.setCell ⟨p,8,none⟩ (.int .i64 1)).heap.size (w130.setCell ⟨p,8,none⟩ (.int .i64 1))).drew
               have hSd:=hS131.below hbx
               have hFd:=hF131.trans (Fx.of_below hbx)
               have hEd:=(hbx.block w106.heap.size (blk_lt hE131)).trans hE131
               have hAd:=attr_below hA131 hbx
               go_wp2
               go_region_with (go_at_call 157;go_loud (refine (push_c hSd n106 (by have:=hg.opn;have:=hL.depth;show s.opn.length ≤ _;omega)).mono ?_;rintro e w7 ⟨rfl,T7,hS7,hF7⟩))
               all_goals
                have hE7:=(hF7.block w106.heap.size (blk_lt hEd) (fun hx=>by have:=hEx _ hx;omega)).trans hEd
                have hA7:AttrRow w7 (.slice Av l110.length cv) l110:=RowAt.move hAd fun k hk=>hF7.block k (RowAt.lt hAd k hk) (hAn k hk)
                have hAn7:∀ k,(Value.slice Av l110.length cv).ownBlock = some k → ¬ PX p T7 k:=fun k hk hx=>(hF7.grow k hx).elim (hAn k hk) (fun h9=>by have:=RowAt.lt hAd k hk;omega)
                have hd0:w7.cell? ⟨w106.heap.size,0,none⟩ = some (.int .i64 1):=blk_cell hE7 0
                have hd1:w7.cell? ⟨w106.heap.size,1,none⟩ = some (.int .i64 (at_:Nat)):=blk_cell hE7 1
                have hd2:w7.cell? ⟨w106.heap.size,2,none⟩ = some (.string (strOfNums n106)):=blk_cell hE7 2
                have hd3:w7.cell? ⟨w106.heap.size,3,none⟩ = some (.string ⟨#[]⟩):=blk_cell hE7 3
                have hd4:w7.cell? ⟨w106.heap.size,4,none⟩ = some (.slice Av l110.length cv):=blk_cell hE7 4
                have hbz:=(Below.refl w7.heap.size w7).alloc (Nat.le_refl _) (.cells #[.int .i64 1,.int .i64 (at_:Nat),.string (strOfNums n106),.string ⟨#[]⟩,.slice Av l110.length cv] 95)
                have hS8:=hS7.below hbz
                have hA8:=attr_below hA7 hbz
                have hnews:=new_cells w7 [.int .i64 1,.int .i64 (at_:Nat),.string (strOfNums n106),.string ⟨#[]⟩,.slice Av l110.length cv] 95
                have hevs:EvRows (w7.alloc (.cells #[.int .i64 1,.int .i64 (at_:Nat),.string (strOfNums n106),.string ⟨#[]⟩,.slice Av l110.length cv] 95)) (PX p T7) [⟨1,at_,n106,[],l110⟩] [.int .i64 1,.int .i64 (at_:Nat),.string (strOfNums n106),.string ⟨#[]⟩,.slice Av l110.length cv]:=⟨_,_,rfl,hA8,hAn7,rfl⟩
                have hnx:¬ PX p T7 w7.heap.size:=fun hx=>by have h1:=hS7.xlt _ hx;omega
                have hnl:w7.heap.size < (w7.alloc (.cells #[.int .i64 1,.int .i64 (at_:Nat),.string (strOfNums n106),.string ⟨#[]⟩,.slice Av l110.length cv] 95)).heap.size:=by simp
                have t133:=True.intro
                go_wp2_with (first
                 | (
                  have _t:=t133
                  go_at_call 155
                  go_loud (
                   clear _t
                   refine (tell_c hS8 [⟨1,at_,n106,[],l110⟩] [.int .i64 1,.int .i64 (at_:Nat),.string (strOfNums n106),.string ⟨#[]⟩,.slice Av l110.length cv] ⟨w7.heap.size,0,none⟩ 1 hnews hevs hnx hnl (by simp) (by show s.ready.length ≤ 100;rw [hr0];simp) (by show s.text.length ≤ _;have:=hg.text;have:=hL.token;omega)).mono ?_
                   clear t133
                   rintro e w9 ⟨rfl,T9,hS9,hF9⟩
                   subst hR
                   go_wp2
                   go_end0
                   exact ⟨rfl,T9,hS9,((hFd.trans hF7).trans (Fx.of_below hbz)).trans hF9⟩)))))))))))))))
end Go.Proofs.YtbaokjfhigjpdaaGreatDoorX
end
section
set_option linter.unusedVariables false
namespace Go.Proofs.YtbaokjfhigjpdaaGreatDoorX
open Go.RowKit Go.Shelf Go.Proofs.YtbaokjfhigjpdaaGreatDoor.PXmlBase Go.Proofs.YtbaokjfhigjpdaaGreatDoorW.PrintWords
set_option maxRecDepth 100000 in
set_option maxHeartbeats 8000000 in
theorem end_c {w0:World} {p B:Nat} {bs:List Int} {L:Lim} {s:St} {T:Tv} (h:PS w0 p B bs L s T) (hL:LOk L) (hg:Good bs L s) (hr0:s.ready = []) (at_:Nat) (hne:s.opn ≠ []) :
    Calls Tryz.prog 158 #[.pointer (some ⟨p,0,none⟩),.int .i64 at_] w0 (OutP w0 p B bs L s T ((endS bs L s at_).map fun x=>(Value.tuple #[],x))):=by
  have hlt:=h.lt
  have hby:=h.bytes
  have htk:L.token ≤ 1099511627776:=by have:=hL.token;omega
  have htk4:L.token ≤ 4294967280:=by have:=hL.token;omega
  generalize hR:endS bs L s at_ = R
  unfold endS at hR
  go_enter Tryz.func158,Tryz.ntmps158
  have hS0:=h
  have hF0:=Fx.refl w0 p T
  have hle0:=hg.le
  have hP0:PB w0 p bs L.token s.at_:=h.pb hle0
  obtain ⟨l,m,ho⟩:∃ l m,s.opn = l ++ [m]:=by
   rcases List.eq_nil_or_concat s.opn with e | ⟨l,m,e⟩
   · exact absurd e hne
   · exact ⟨l,m,by rw [e,List.concat_eq_append]⟩
  have hll:l.length ≤ 1000000:=by have h1:=hg.opn;have h2:=hL.depth;rw [ho,List.length_append] at h1;simp at h1;omega
  have hmb:Bytes m:=hg.names m (by rw [ho];simp)
  have hlast:s.opn.getLastD [] = m:=by rw [ho];simp
  have hdl:s.opn.dropLast = l:=by rw [ho,List.dropLast_concat]
  rw [hlast,hdl] at hR
  have t102:=True.intro
  go_wp2_with (first
   | (
    have _t:=t102
    go_at_call 105
    go_loud (
     clear _t
     have hn:=must_c hP0
     refine hn.mono ?_
     clear hn t102
     rintro e w101 he
     rcases hq101:mustS bs (s.at_) with f | r101
     ·rw [hq101] at hR he
      (try simp only at hR)
      subst hR
      obtain ⟨rfl,hbx⟩:=he
      go_wp2
      exact ⟨rfl,rfl,_,_,hS0.below hbx,hF0.trans (Fx.of_below hbx),rfl,rfl,rfl⟩
     rw [hq101] at hR he
     obtain ⟨rfl,hbx⟩:=he
     have hS101:=hS0.below hbx
     have hF101:=hF0.trans (Fx.of_below hbx)
     have hP101:PB w101 p bs L.token (s.at_):=hS101.pb hle0
     clear hbx
     (try simp only at hR)
     have hpk101:=(must_ok hq101).1
     have hst101:=must_step hby hle0 hq101
     have t104:=True.intro
     go_wp2_with (first
      | (
       have _t:=t104
       go_at_call 153
       go_loud (
        clear _t
        have hn:=name_c2 hP101 htk
        refine hn.mono ?_
        clear hn t104
        rintro e w103 he
        rcases hq103:nameS bs L.token (s.at_) with f | ⟨n103,a103⟩
        ·rw [hq103] at hR he
         (try simp only at hR)
         subst hR
         obtain ⟨rfl,a5,hmx⟩:=he
         go_wp2
         exact ⟨rfl,rfl,_,_,hS101.moved hmx,hF101.trans (Fx.of_mv hmx),rfl,rfl,rfl⟩
        rw [hq103] at hR he
        obtain ⟨rfl,hmx⟩:=he
        have hS103:=hS101.moved hmx
        have hF103:=hF101.trans (Fx.of_mv hmx)
        have hle103:a103 ≤ bs.length:=(name_le hby hle0 hq103).2
        have hP103:PB w103 p bs L.token (a103):=hS103.pb hle103
        clear hmx
        (try simp only at hR)
        have t106:=True.intro
        go_wp2_with (first
         | (
          have _t:=t106
          go_at_call 105
          go_loud (
           clear _t
           have hn:=must_c hP103
           refine hn.mono ?_
           clear hn t106
           rintro e w105 he
           rcases hq105:mustS bs (a103) with f | r105
           ·rw [hq105] at hR he
            (try simp only at hR)
            subst hR
            obtain ⟨rfl,hbx⟩:=he
            go_wp2
            exact ⟨rfl,rfl,_,_,hS103.below hbx,hF103.trans (Fx.of_below hbx),rfl,rfl,rfl⟩
           rw [hq105] at hR he
           obtain ⟨rfl,hbx⟩:=he
           have hS105:=hS103.below hbx
           have hF105:=hF103.trans (Fx.of_below hbx)
           have hP105:PB w105 p bs L.token (a103):=hS105.pb hle103
           clear hbx
           (try simp only at hR)
           have hpk105:=(must_ok hq105).1
           have hst105:=must_step hby hle103 hq105
           have hop:RowAt w105 9 1 T.ov (l.length + 1) (l.map txt ++ [txt m]):=by have h9:=hS105.opn;simp only [ho,List.length_append,List.length_singleton,List.map_append,List.map_cons,List.map_nil] at h9;exact h9
           have hc9:w105.cell? ⟨p,9,none⟩ = some T.ov:=hS105.cells 9
           have hnb:=name_bytes hby hq103
           have t108:=True.intro
           go_wp2_with (first
            | (
             have _t:=t108
             go_at_call 201
             go_loud (
              clear _t
              refine (top_c l m hop hll).mono ?_
              clear t108
              rintro e w107 ⟨rfl,hwe⟩
              have hbx:Below w105.heap.size w105 w107:=by rw [hwe];exact Below.refl _ _
              clear hwe
              have hS107:=hS105.below hbx
              have hF107:=hF105.trans (Fx.of_below hbx)
              have hP107:PB w107 p bs L.token (a103):=hS107.pb hle103
              clear hbx
              have hqe:=eq_str n103 m hnb hmb
              by_cases hnm:n103 ≠ m
              ·rw [if_pos hnm] at hR
               (try simp only at hR)
               have qn:((strOfNums n103).toList != (strOfNums m).toList) = true:=by show (!((strOfNums n103).toList == (strOfNums m).toList)) = true;rw [hqe];simp [hnm]
               have qn2:((strOfNums n103).toList == (strOfNums m).toList) = false:=by rw [hqe];simp [hnm]
               clear hqe
               have t109:=True.intro
               go_wp2_with (first
                | (
                 have _t:=t109
                 go_at_call 102
                 go_loud (
                  clear _t
                  refine (fail_c _ _ _).mono ?_
                  clear t109
                  rintro e wx ⟨rfl,hbx⟩
                  subst hR
                  go_wp2
                  exact ⟨rfl,rfl,_,_,hS107.below hbx,hF107.trans (Fx.of_below hbx),rfl,rfl,rfl⟩)))
              ·rw [if_neg hnm] at hR
               (try simp only at hR)
               have qn:((strOfNums n103).toList != (strOfNums m).toList) = false:=by show (!((strOfNums n103).toList == (strOfNums m).toList)) = false;rw [hqe];simp at hnm;simp [hnm]
               have qn2:((strOfNums n103).toList == (strOfNums m).toList) = true:=by rw [hqe];simp at hnm;simp [hnm]
               clear hqe
               have t111:=True.intro
               go_wp2_with (first
                | (
                 have _t:=t111
                 go_at_call 113
                 go_loud (
                  clear _t
                  have hn:=blanks_c hP107
                  refine hn.mono ?_
                  clear hn t111
                  rintro e w110 he
                  rcases hq110:whiteS bs (a103) with f | a110
                  ·rw [hq110] at hR he
                   (try simp only at hR)
                   subst hR
                   obtain ⟨rfl,a5,hmx⟩:=he
                   go_wp2
                   exact ⟨rfl,rfl,_,_,hS107.moved hmx,hF107.trans (Fx.of_mv hmx),rfl,rfl,rfl⟩
                  rw [hq110] at hR he
                  obtain ⟨rfl,hmx⟩:=he
                  have hS110:=hS107.moved hmx
                  have hF110:=hF107.trans (Fx.of_mv hmx)
                  have hle110:a110 ≤ bs.length:=(white_le hby hle103 hq110).2
                  have hP110:PB w110 p bs L.token (a110):=hS110.pb hle110
                  clear hmx
                  (try simp only at hR)
                  have t113:=True.intro
                  go_wp2_with (first
                   | (
                    have _t:=t113
                    go_at_call 105
                    go_loud (
                     clear _t
                     have hn:=must_c hP110
                     refine hn.mono ?_
                     clear hn t113
                     rintro e w112 he
                     rcases hq112:mustS bs (a110) with f | r112
                     ·rw [hq112] at hR he
                      (try simp only at hR)
                      subst hR
                      obtain ⟨rfl,hbx⟩:=he
                      go_wp2
                      exact ⟨rfl,rfl,_,_,hS110.below hbx,hF110.trans (Fx.of_below hbx),rfl,rfl,rfl⟩
                     rw [hq112] at hR he
                     obtain ⟨rfl,hbx⟩:=he
                     have hS112:=hS110.below hbx
                     have hF112:=hF110.trans (Fx.of_below hbx)
                     have hP112:PB w112 p bs L.token (a110):=hS112.pb hle110
                     clear hbx
                     (try simp only at hR)
                     have hpk112:=(must_ok hq112).1
                     have hst112:=must_step hby hle110 hq112
                     by_cases hgt:r112 ≠ 62
                     ·rw [if_pos hgt] at hR
                      (try simp only at hR)
                      have qg:(r112 != 62) = true:=by rw [bne_iff_ne];exact hgt
                      have t114:=True.intro
                      go_wp2_with (first
                       | (
                        have _t:=t114
                        go_at_call 82
                        go_loud (
                         clear _t
                         refine (odd_c hP112).mono ?_
                         clear t114
                         rintro e wx ⟨rfl,hbx⟩
                         subst hR
                         go_wp2
                         exact ⟨rfl,rfl,_,_,hS112.below hbx,hF112.trans (Fx.of_below hbx),rfl,rfl,rfl⟩)))
                     ·rw [if_neg hgt] at hR
                      (try simp only at hR)
                      have hgt2:r112 = 62:=Classical.byContradiction hgt
                      subst hgt2
                      have t116:=True.intro
                      go_wp2_with (first
                       | (
                        have _t:=t116
                        go_at_call 106
                        go_loud (
                         clear _t
                         refine (next_ok hP112 (hpk112)).mono ?_
                         clear t116
                         rintro e w115 ⟨rfl,hmx⟩
                         have hS115:=hS112.moved hmx
                         have hF115:=hF112.trans (Fx.of_mv hmx)
                         have hle115:stepS (62) (a110) ≤ bs.length:=(peek_step hby (hle110) (hpk112)).1
                         have hP115:PB w115 p bs L.token (stepS (62) (a110)):=hS115.pb hle115
                         clear hmx
                         have t117:=True.intro
                         go_wp2_with (first
                          | (
                           have _t:=t117
                           go_at_call 202
                           go_loud (
                            clear _t
                            refine (pop_c hS115 l m ho hll).mono ?_
                            clear t117
                            rintro e w7 ⟨rfl,T7,hS7,hF7⟩
                            have hF77:=hF115.trans hF7
                            have hbz:=(Below.refl w7.heap.size w7).alloc (Nat.le_refl _) (.cells #[.int .i64 2,.int .i64 (at_:Nat),.string (strOfNums n103),.string ⟨#[]⟩,.slice none 0 0] 95)
                            have hS8:=hS7.below hbz
                            have hnews:=new_cells w7 [.int .i64 2,.int .i64 (at_:Nat),.string (strOfNums n103),.string ⟨#[]⟩,.slice none 0 0] 95
                            have hevs:EvRows (w7.alloc (.cells #[.int .i64 2,.int .i64 (at_:Nat),.string (strOfNums n103),.string ⟨#[]⟩,.slice none 0 0] 95)) (PX p T7) [⟨2,at_,n103,[],[]⟩] [.int .i64 2,.int .i64 (at_:Nat),.string (strOfNums n103),.string ⟨#[]⟩,.slice none 0 0]:=⟨_,_,rfl,RowAt.nil _ _ _,(fun k hk=>by simp [Value.ownBlock] at hk),rfl⟩
                            have hnx:¬ PX p T7 w7.heap.size:=fun hx=>by have h1:=hS7.xlt _ hx;omega
                            have hnl:w7.heap.size < (w7.alloc (.cells #[.int .i64 2,.int .i64 (at_:Nat),.string (strOfNums n103),.string ⟨#[]⟩,.slice none 0 0] 95)).heap.size:=by simp
                            have t118:=True.intro
                            go_wp2_with (first
                             | (
                              have _t:=t118
                              go_at_call 155
                              go_loud (
                               clear _t
                               refine (tell_c hS8 [⟨2,at_,n103,[],[]⟩] [.int .i64 2,.int .i64 (at_:Nat),.string (strOfNums n103),.string ⟨#[]⟩,.slice none 0 0] ⟨w7.heap.size,0,none⟩ 1 hnews hevs hnx hnl (by simp) (by show s.ready.length ≤ 100;rw [hr0];simp) (by show s.text.length ≤ _;have:=hg.text;have:=hL.token;omega)).mono ?_
                               clear t118
                               rintro e w9 ⟨rfl,T9,hS9,hF9⟩
                               have tl:=True.intro
                               go_wp2_with (first
                                | (
                                 have _t:=tl
                                 go_at_call 156
                                 go_loud (
                                  clear _t
                                  refine (left_c hS9).mono ?_
                                  clear tl
                                  rintro e wa ⟨rfl,hSa,hFa⟩
                                  subst hR
                                  go_wp2
                                  go_end0
                                  exact ⟨rfl,T9,hSa,((hF77.trans (Fx.of_below hbz)).trans hF9).trans hFa⟩))))))))))))))))))))))))))))))
end Go.Proofs.YtbaokjfhigjpdaaGreatDoorX
end
section
set_option linter.unusedVariables false
namespace Go.Proofs.YtbaokjfhigjpdaaGreatDoorX
open Go.RowKit Go.Shelf Go.Proofs.YtbaokjfhigjpdaaGreatDoor.PXmlBase Go.Proofs.YtbaokjfhigjpdaaGreatDoorW.PrintWords
def Went (bs:List Int) (L:Lim) (s s':St):Prop:=Good bs L s' ∧ s.at_ < s'.at_ ∧ (s'.ready ≠ [] ∨ (s'.ready = [] ∧ s'.opn = s.opn ∧ s'.state = s.state ∧ s'.most = s.most ∧ s'.depth = s.depth))
theorem attrsL_real {bs:List Int} {tk na:Nat} (hb:Bytes bs):∀ (k:Nat) (out:List XA) (a:Nat) (x:List XA × Nat),a ≤ bs.length → bs.length < k + a → attrsL bs tk na k out a = .ok x → x.2 ≠ bs.length
  | 0,out,a,x,hle,hk,h=>by omega
  | k + 1,out,a,x,hle,hk,h=>by
   unfold attrsL at h
   split at h
   · cases h
   ·rename_i a1 h1
    obtain ⟨g1,g2⟩:=white_le hb hle h1
    split at h
    · cases h
    ·rename_i r hm
     split at h
     ·cases h
      exact (must_ok hm).2
     ·split at h
      · cases h
      ·split at h
       · cases h
       ·split at h
        · cases h
        ·rename_i n a2 h2
         obtain ⟨g3,g4⟩:=name_le hb g2 h2
         simp only at g3 g4
         split at h
         · cases h
         ·split at h
          · cases h
          ·rename_i a3 h3
           obtain ⟨g5,g6⟩:=eq_le hb g4 h3
           split at h
           · cases h
           ·split at h
            · cases h
            ·rename_i v a4 h4
             obtain ⟨g7,g8⟩:=value_le hb g6 h4
             simp only at g7 g8
             exact attrsL_real hb k _ _ _ g8 (by omega) h
theorem attrs_real {bs:List Int} {tk na a:Nat} {x:List XA × Nat} (hb:Bytes bs) (hle:a ≤ bs.length) (h:attrsS bs tk na a = .ok x):x.2 ≠ bs.length:=attrsL_real hb _ _ _ _ hle (by omega) h
theorem tag_good {bs:List Int} {L:Lim} {s s':St} {at_:Nat} (hb:Bytes bs) (h:Good bs L s) (hr:s.ready = []) (ht:tagS bs L s at_ = .ok s'):Good bs L s' ∧ s'.ready ≠ [] ∧ s.at_ < s'.at_:=by
 unfold tagS at ht
 split at ht
 · cases ht
 ·rename_i hn
  have hd:s.opn.length ≠ L.depth:=fun e=>hn (.inl e)
  have hn2:s.nodes ≠ L.nodes:=fun e=>hn (.inr e)
  split at ht
  · cases ht
  ·rename_i n a1 h1
   obtain ⟨g1,g2⟩:=name_le hb h.le h1
   have hnb:=name_bytes hb h1
   simp only at g1 g2 hnb
   split at ht
   · cases ht
   ·rename_i l a2 h2
    obtain ⟨g3,g4⟩:=attrs_le hb g2 h2
    simp only at g3 g4
    split at ht
    · cases ht
    ·rename_i r h3
     have g5:=(peek_step hb g4 h3).1
     split at ht
     ·rename_i hr47
      have hgt:a2 < stepS r a2:=step_gt h3 (by omega)
      split at ht
      · cases ht
      ·rename_i r2 h4
       obtain ⟨g6,g7⟩:=must_step hb g5 h4
       split at ht
       · cases ht
       ·cases ht
        obtain ⟨k1,k2,k3⟩:=tagE_good (bs:=bs) (slash:=a2) (at_:=at_) (l:=l) (e:=true) h hr g7 hd hn2 hnb
        exact ⟨k1,k2,by rw [k3];omega⟩
     ·rename_i hr47
      have hgt:a2 < stepS r a2:=by
       by_cases he:a2 = bs.length
       ·exfalso
        exact attrs_real hb g2 h2 he
       ·refine step_gt h3 ?_
        rintro rfl
        have:=(peek_step hb g4 h3).2.1 (by omega)
        cases this
      cases ht
      obtain ⟨k1,k2,k3⟩:=tagE_good (bs:=bs) (slash:=a2) (at_:=at_) (l:=l) (e:=false) h hr g5 hd hn2 hnb
      exact ⟨k1,k2,by rw [k3];omega⟩
theorem end_good {bs:List Int} {L:Lim} {s s':St} {at_:Nat} (hb:Bytes bs) (h:Good bs L s) (hr:s.ready = []) (ht:endS bs L s at_ = .ok s'):Good bs L s' ∧ s'.ready ≠ [] ∧ s.at_ < s'.at_:=by
 unfold endS at ht
 split at ht
 · cases ht
 ·split at ht
  · cases ht
  ·rename_i n a1 h1
   obtain ⟨g1,g2⟩:=name_le hb h.le h1
   simp only at g1 g2
   split at ht
   · cases ht
   ·split at ht
    · cases ht
    ·split at ht
     · cases ht
     ·rename_i a2 h2
      obtain ⟨g3,g4⟩:=white_le hb g2 h2
      split at ht
      · cases ht
      ·rename_i r h3
       obtain ⟨g5,g6⟩:=must_step hb g4 h3
       split at ht
       · cases ht
       ·cases ht
        have hf:=tell_few { s with at_:=stepS r a2,opn:=s.opn.dropLast } [⟨2,at_,n,[],[]⟩]
        obtain ⟨k1,_,_,_,k5,_⟩:=left_same (tellS { s with at_:=stepS r a2,opn:=s.opn.dropLast } [⟨2,at_,n,[],[]⟩])
        refine ⟨Good.left ⟨g6,h.nodes,by have:=h.opn;show s.opn.dropLast.length ≤ _;rw [List.length_dropLast];omega,Nat.zero_le _,fun x hx=>h.names x (List.dropLast_subset _ hx),Nat.le_trans hf (by simp [hr])⟩,?_,?_⟩
        ·rw [k5]
         exact tell_ne _ _ (by simp)
        ·rw [k1]
         show s.at_ < stepS r a2
         omega
theorem cdata_good {bs:List Int} {L:Lim} {at_:Nat} (hb:Bytes bs):∀ (k:Nat) (s s':St),Good bs L s → bs.length < k + s.at_ → cdataL bs L at_ k s = .ok s' → Good bs L s' ∧ s.at_ ≤ s'.at_ ∧ s'.ready = s.ready ∧ s'.opn = s.opn ∧ s'.state = s.state ∧ s'.most = s.most ∧ s'.depth = s.depth
  | 0,s,s',h,hk,ht=>by have:=h.le;omega
  | k + 1,s,s',h,hk,ht=>by
   unfold cdataL at ht
   split at ht
   ·rename_i hh
    cases ht
    exact ⟨h.moved (has_le h.le hh),Nat.le_add_right _ _,rfl,rfl,rfl,rfl,rfl⟩
   ·split at ht
    · cases ht
    ·rename_i r hm
     split at ht
     · cases ht
     ·rename_i s1 hl
      obtain ⟨k1,k2,k3,k4,k5,k6,k7,_⟩:=line_good hb h (must_step hb h.le hm) hl
      obtain ⟨m1,m2,m3,m4,m5,m6,m7⟩:=cdata_good hb k s1 s' k1 (by omega) ht
      exact ⟨m1,by omega,m3.trans k3,m4.trans k4,m5.trans k5,m6.trans k6,m7.trans k7⟩
theorem markT_good {bs:List Int} {L:Lim} {s s':St} (hb:Bytes bs) (h:Good bs L s) (hr:s.ready = []) (hne:s.at_ ≠ bs.length) (ht:markT bs L s = .ok s'):Went bs L s s':=by
 unfold markT at ht
 split at ht
 · cases ht
 ·rename_i r0 a1 h0
  obtain ⟨g1,g2⟩:=next_le hb h.le h0
  have g0:s.at_ < a1:=by
   unfold nextS at h0
   split at h0
   · cases h0
   ·rename_i r1 hp
    cases h0
    refine step_gt hp ?_
    rintro rfl
    have:=(peek_step hb h.le hp).2.1 (by have:=h.le;omega)
    cases this
  simp only at g1 g2
  split at ht
  · cases ht
  ·rename_i r hm
   obtain ⟨g3,g4⟩:=must_step hb g2 hm
   split at ht
   ·split at ht
    · cases ht
    ·rename_i a2 h2
     obtain ⟨g5,g6⟩:=instruction_le hb g4 h2
     cases ht
     exact ⟨h.moved g6,by show s.at_ < a2;omega,.inr ⟨hr,rfl,rfl,rfl,rfl⟩⟩
   ·split at ht
    ·obtain ⟨k1,k2,k3⟩:=end_good hb (h.moved g4) hr ht
     exact ⟨k1,by simp only at k3;omega,.inl k2⟩
    ·split at ht
     ·obtain ⟨k1,k2,k3⟩:=tag_good hb (h.moved g2) hr ht
      exact ⟨k1,by simp only at k3;omega,.inl k2⟩
     · cases ht
theorem mark_good {bs:List Int} {L:Lim} {s s':St} (hb:Bytes bs) (h:Good bs L s) (hr:s.ready = []) (hne:s.at_ ≠ bs.length) (ht:markS bs L s = .ok s'):Went bs L s s':=by
 unfold markS at ht
 split at ht
 ·rename_i hh
  have g3:s.at_ + 4 ≤ bs.length:=has_le h.le hh
  split at ht
  · cases ht
  ·rename_i a1 h1
   obtain ⟨g4,g5⟩:=note_le hb g3 h1
   cases ht
   exact ⟨h.moved g5,by show s.at_ < a1;omega,.inr ⟨hr,rfl,rfl,rfl,rfl⟩⟩
 ·split at ht
  ·rename_i hh
   have g3:s.at_ + 9 ≤ bs.length:=has_le h.le hh
   obtain ⟨m1,m2,m3,m4,m5,m6,m7⟩:=cdata_good hb _ _ s' (h.moved g3) (by simp only;omega) ht
   exact ⟨m1,by simp only at m2;omega,.inr ⟨m3.trans hr,m4,m5,m6,m7⟩⟩
  ·split at ht
   ·split at ht
    · cases ht
    ·unfold markU at ht
     split at ht
     · cases ht
     · exact markT_good hb h hr hne ht
   ·unfold markU at ht
    split at ht
    · cases ht
    · exact markT_good hb h hr hne ht
theorem contentT_good {bs:List Int} {L:Lim} {s s':St} (hb:Bytes bs) (h:Good bs L s) (hr:s.ready = []) (ht:contentT bs L s = .ok s'):Went bs L s s':=by
 unfold contentT at ht
 split at ht
 · cases ht
 ·rename_i r hm
  split at ht
  · exact mark_good hb h hr (must_ok hm).2 ht
  ·split at ht
   ·split at ht
    · cases ht
    ·rename_i c a1 h1
     obtain ⟨g1,g2,g3⟩:=reference_le hb h.le h1
     simp only at g1 g2
     obtain ⟨k1,k2,k3,k4,k5,k6,k7,_⟩:=put_good (h.moved g2) ht
     exact ⟨k1,by rw [k2];exact g1,.inr ⟨k3.trans hr,k4,k5,k6,k7⟩⟩
   ·split at ht
    · cases ht
    ·obtain ⟨k1,k2,k3,k4,k5,k6,k7,_⟩:=line_good hb h (must_step hb h.le hm) ht
     exact ⟨k1,k2,.inr ⟨k3.trans hr,k4,k5,k6,k7⟩⟩
theorem PS.atOf {w:World} {p B:Nat} {bs:List Int} {L:Lim} {s:St} {T:Tv} (h:PS w p B bs L s T):atOf p w = s.at_:=(Mv.of_below (Below.refl _ w) h.lt h.here).atOf
end Go.Proofs.YtbaokjfhigjpdaaGreatDoorX
end
section
set_option linter.unusedVariables false
namespace Go.Proofs.YtbaokjfhigjpdaaGreatDoorX
open Go.RowKit Go.Shelf Go.Proofs.YtbaokjfhigjpdaaGreatDoor.PXmlBase Go.Proofs.YtbaokjfhigjpdaaGreatDoorW.PrintWords
theorem early2_c {w:World} {p:Nat} {bs:List Int} {tk a:Nat} (h:PB w p bs tk a) (x y:ByteArray) (hx:x.size ≤ 1099511627776) (hy:y.size ≤ 1099511627776) :
    Calls Tryz.prog 117 #[.pointer (some ⟨p,0,none⟩),.slice (some ⟨w.heap.size,0,none⟩) 2 2] (w.alloc (.cells #[.string x,.string y] 9)) fun e W'=>OutE (earlyS bs [bytesOf x,bytesOf y] a) e ∧ Below w.heap.size w W':=by
  have hb:=(Below.refl w.heap.size w).alloc (Nat.le_refl _) (.cells #[.string x,.string y] 9)
  refine (early_c (h.below hb) w.heap.size 2 [x,y] (by simpa using ⟨hx,hy⟩) (fun j hj=>?_) (by simp)).mono fun e W' ⟨h1,h2⟩=>⟨h1,hb.trans (h2.mono hb.size)⟩
  unfold World.cell?
  rw [heap_alloc_new]
  match j,hj with
  | 0,_=>rfl
  | 1,_=>rfl
set_option maxRecDepth 100000 in
set_option maxHeartbeats 8000000 in
theorem mark_c {w0:World} {p B:Nat} {bs:List Int} {L:Lim} {s:St} {T:Tv} (h:PS w0 p B bs L s T) (hL:LOk L) (hg:Good bs L s) (hr0:s.ready = []) (hne:s.opn ≠ []) (hend:s.at_ ≠ bs.length) :
    Calls Tryz.prog 109 #[.pointer (some ⟨p,0,none⟩)] w0 (OutP w0 p B bs L s T ((markS bs L s).map fun x=>(Value.tuple #[],x))):=by
  have hlt:=h.lt
  have hby:=h.bytes
  have htk:L.token ≤ 1099511627776:=by have:=hL.token;omega
  have htk4:L.token ≤ 4294967280:=by have:=hL.token;omega
  generalize hR:markS bs L s = R
  unfold markS at hR
  go_enter Tryz.func109,Tryz.ntmps109
  have hS0:=h
  have hF0:=Fx.refl w0 p T
  have hle0:=hg.le
  have hP0:PB w0 p bs L.token s.at_:=h.pb hle0
  have hc0_7:w0.cell? ⟨p,7,none⟩ = some (.int .i64 (s.at_)):=hS0.cells 7
  have t102:=True.intro
  go_wp2_with (first
   | (
    have _t:=t102
    go_at_call 114
    go_loud (
     clear _t
     have hn:=takes_c hP0 (⟨#[60,33,45,45]⟩:ByteArray) (by decide)
     unfold takesS at hn
     rw [show bytesOf (⟨#[60,33,45,45]⟩:ByteArray) = [60,33,45,45] from rfl] at hn
     rcases hh101:(hasS bs [60,33,45,45] (s.at_)).1 with _ | _
     ·rw [hh101] at hn hR
      rw [if_neg (by decide)] at hn hR
      (try simp only at hR)
      refine hn.mono ?_
      clear hn t102
      rintro e w101 ⟨rfl,hmx⟩
      have hS101:=hS0.moved hmx
      have hF101:=hF0.trans (Fx.of_mv hmx)
      have hle101:s.at_ ≤ bs.length:=hle0
      have hP101:PB w101 p bs L.token (s.at_):=hS101.pb hle101
      clear hmx
      have t104:=True.intro
      go_wp2_with (first
       | (
        have _t:=t104
        go_at_call 114
        go_loud (
         clear _t
         have hn:=takes_c hP101 (⟨#[60,33,91,67,68,65,84,65,91]⟩:ByteArray) (by decide)
         unfold takesS at hn
         rw [show bytesOf (⟨#[60,33,91,67,68,65,84,65,91]⟩:ByteArray) = [60,33,91,67,68,65,84,65,91] from rfl] at hn
         rcases hh103:(hasS bs [60,33,91,67,68,65,84,65,91] (s.at_)).1 with _ | _
         ·rw [hh103] at hn hR
          rw [if_neg (by decide)] at hn hR
          (try simp only at hR)
          refine hn.mono ?_
          clear hn t104
          rintro e w103 ⟨rfl,hmx⟩
          have hS103:=hS101.moved hmx
          have hF103:=hF101.trans (Fx.of_mv hmx)
          have hle103:s.at_ ≤ bs.length:=hle101
          have hP103:PB w103 p bs L.token (s.at_):=hS103.pb hle103
          clear hmx
          by_cases hl1:s.at_ + 1 < bs.length
          ·rw [if_pos hl1] at hR
           (try simp only at hR)
           have qf:(s.at_:Int) + 1 < (bs.length:Int):=by omega
           have hwr:IntKind.i64.wrap ((s.at_:Int) + 1) = (s.at_:Int) + 1:=IntWalk.i64_in _ (by have:=h.small;have:=hg.le;omega)
           have hc103_7:w103.cell? ⟨p,7,none⟩ = some (.int .i64 (s.at_)):=hS103.cells 7
           obtain ⟨ba103,cap103,hrow103,_,_⟩:=hP103.row
           go_wp2
           go_region
           have hbx:=(Below.refl w103.heap.size w103).drew
           generalize w103.drew = w105 at *
           have hS105:=hS103.below hbx
           have hF105:=hF103.trans (Fx.of_below hbx)
           have hP105:PB w105 p bs L.token (s.at_):=hS105.pb hle103
           clear hbx
           have t107:=True.intro
           go_wp2_with (first
            | (
             have _t:=t107
             go_at_call 117
             go_loud (
              clear _t
              have hn:=early2_c hP105 (⟨#[60,33,45,45]⟩:ByteArray) (⟨#[60,33,91,67,68,65,84,65,91]⟩:ByteArray) (by decide) (by decide)
              rw [show bytesOf (⟨#[60,33,45,45]⟩:ByteArray) = [60,33,45,45] from rfl,show bytesOf (⟨#[60,33,91,67,68,65,84,65,91]⟩:ByteArray) = [60,33,91,67,68,65,84,65,91] from rfl] at hn
              refine hn.mono ?_
              clear hn t107
              rintro e w106 he
              rcases hq106:earlyS bs [[60,33,45,45],[60,33,91,67,68,65,84,65,91]] (s.at_) with _ | f
              ·rw [hq106] at hR he
               obtain ⟨rfl,hbx⟩:=he
               have hS106:=hS105.below hbx
               have hF106:=hF105.trans (Fx.of_below hbx)
               have hP106:PB w106 p bs L.token (s.at_):=hS106.pb hle103
               clear hbx
               (try simp only at hR)
               unfold markU at hR
               have t109:=True.intro
               go_wp2_with (first
                | (
                 have _t:=t109
                 go_at_call 81
                 go_loud (
                  clear _t
                  have hn:=stray_c hP106
                  refine hn.mono ?_
                  clear hn t109
                  rintro e w108 he
                  rcases hq108:strayS bs (s.at_) with _ | f
                  ·rw [hq108] at hR he
                   obtain ⟨rfl,hbx⟩:=he
                   have hS108:=hS106.below hbx
                   have hF108:=hF106.trans (Fx.of_below hbx)
                   have hP108:PB w108 p bs L.token (s.at_):=hS108.pb hle103
                   clear hbx
                   (try simp only at hR)
                   unfold markT at hR
                   have t111:=True.intro
                   go_wp2_with (first
                    | (
                     have _t:=t111
                     go_at_call 106
                     go_loud (
                      clear _t
                      have hn:=next_c hP108
                      refine hn.mono ?_
                      clear hn t111
                      rintro e w110 he
                      rcases hq110:nextS bs (s.at_) with f | ⟨r110,a110⟩
                      ·rw [hq110] at hR he
                       (try simp only at hR)
                       subst hR
                       obtain ⟨rfl,a5,hmx⟩:=he
                       go_wp2
                       exact ⟨rfl,rfl,_,_,hS108.moved hmx,hF108.trans (Fx.of_mv hmx),rfl,rfl,rfl⟩
                      rw [hq110] at hR he
                      obtain ⟨rfl,hmx⟩:=he
                      have hS110:=hS108.moved hmx
                      have hF110:=hF108.trans (Fx.of_mv hmx)
                      have hle110:a110 ≤ bs.length:=(next_le hby hle103 hq110).2
                      have hP110:PB w110 p bs L.token (a110):=hS110.pb hle110
                      clear hmx
                      (try simp only at hR)
                      have t113:=True.intro
                      go_wp2_with (first
                       | (
                        have _t:=t113
                        go_at_call 105
                        go_loud (
                         clear _t
                         have hn:=must_c hP110
                         refine hn.mono ?_
                         clear hn t113
                         rintro e w112 he
                         rcases hq112:mustS bs (a110) with f | r112
                         ·rw [hq112] at hR he
                          (try simp only at hR)
                          subst hR
                          obtain ⟨rfl,hbx⟩:=he
                          go_wp2
                          exact ⟨rfl,rfl,_,_,hS110.below hbx,hF110.trans (Fx.of_below hbx),rfl,rfl,rfl⟩
                         rw [hq112] at hR he
                         obtain ⟨rfl,hbx⟩:=he
                         have hS112:=hS110.below hbx
                         have hF112:=hF110.trans (Fx.of_below hbx)
                         have hP112:PB w112 p bs L.token (a110):=hS112.pb hle110
                         clear hbx
                         (try simp only at hR)
                         have hpk112:=(must_ok hq112).1
                         have hst112:=must_step hby hle110 hq112
                         by_cases h63:r112 = 63
                         ·rw [if_pos h63] at hR
                          (try simp only at hR)
                          subst h63
                          have qx:True:=True.intro
                          have t115:=True.intro
                          go_wp2_with (first
                           | (
                            have _t:=t115
                            go_at_call 106
                            go_loud (
                             clear _t
                             refine (next_ok hP112 (hpk112)).mono ?_
                             clear t115
                             rintro e w114 ⟨rfl,hmx⟩
                             have hS114:=hS112.moved hmx
                             have hF114:=hF112.trans (Fx.of_mv hmx)
                             have hle114:stepS (63) (a110) ≤ bs.length:=(peek_step hby (hle110) (hpk112)).1
                             have hP114:PB w114 p bs L.token (stepS (63) (a110)):=hS114.pb hle114
                             clear hmx
                             have t117:=True.intro
                             go_wp2_with (first
                              | (
                               have _t:=t117
                               go_at_call 116
                               go_loud (
                                clear _t
                                have hn:=instruction_c hP114 htk4 hS114.envp
                                refine hn.mono ?_
                                clear hn t117
                                rintro e w116 he
                                rcases hq116:instructionS bs L.token (stepS (63) (a110)) with f | a116
                                ·rw [hq116] at hR he
                                 (try simp only at hR)
                                 subst hR
                                 obtain ⟨rfl,a5,hmx⟩:=he
                                 go_wp2
                                 exact ⟨rfl,rfl,_,_,hS114.moved hmx,hF114.trans (Fx.of_mv hmx),rfl,rfl,rfl⟩
                                rw [hq116] at hR he
                                obtain ⟨rfl,hmx⟩:=he
                                have hS116:=hS114.moved hmx
                                have hF116:=hF114.trans (Fx.of_mv hmx)
                                have hle116:a116 ≤ bs.length:=(instruction_le hby hle114 hq116).2
                                have hP116:PB w116 p bs L.token (a116):=hS116.pb hle116
                                clear hmx
                                (try simp only at hR)
                                (try simp only at hR)
                                subst hR
                                go_wp2
                                go_end0
                                exact ⟨rfl,_,hS116,hF116⟩))))))
                         ·rw [if_neg h63] at hR
                          (try simp only at hR)
                          have q63:(r112 == 63) = false:=by rw [beq_eq_false_iff_ne];exact h63
                          by_cases h47:r112 = 47
                          ·rw [if_pos h47] at hR
                           (try simp only at hR)
                           subst h47
                           have t119:=True.intro
                           go_wp2_with (first
                            | (
                             have _t:=t119
                             go_at_call 106
                             go_loud (
                              clear _t
                              refine (next_ok hP112 (hpk112)).mono ?_
                              clear t119
                              rintro e w118 ⟨rfl,hmx⟩
                              have hS118:=hS112.moved hmx
                              have hF118:=hF112.trans (Fx.of_mv hmx)
                              have hle118:stepS (47) (a110) ≤ bs.length:=(peek_step hby (hle110) (hpk112)).1
                              have hP118:PB w118 p bs L.token (stepS (47) (a110)):=hS118.pb hle118
                              clear hmx
                              have t121:=True.intro
                              go_wp2_with (first
                               | (
                                have _t:=t121
                                go_at_call 158
                                go_loud (
                                 clear _t
                                 have hn:=end_c hS118 hL (hg.moved hle118) hr0 s.at_ hne
                                 refine hn.mono ?_
                                 clear hn t121
                                 rintro e w120 he
                                 rcases hq120:endS bs L { { { { s with at_:=s.at_ } with at_:=s.at_ } with at_:=a110 } with at_:=stepS (47) (a110) } s.at_ with f | s120
                                 ·rw [hq120] at hR he
                                  (try simp only at hR)
                                  subst hR
                                  obtain ⟨rfl,s5,T5,hS5,hF5,e1,e2,e3⟩:=he
                                  go_wp2
                                  exact ⟨rfl,rfl,s5,T5,hS5,hF118.trans hF5,e1,e2,e3⟩
                                 rw [hq120] at hR he
                                 obtain ⟨rfl,T120,hS120,hF5⟩:=he
                                 (try simp only at hR)
                                 subst hR
                                 go_wp2
                                 go_end0
                                 exact ⟨rfl,_,hS120,hF118.trans hF5⟩))))))
                          ·rw [if_neg h47] at hR
                           (try simp only at hR)
                           have q47:(r112 == 47) = false:=by rw [beq_eq_false_iff_ne];exact h47
                           rcases hst:startB r112 with _ | _
                           ·rw [if_neg (show ¬ (startB r112 = true) from fun e=>by rw [hst] at e;cases e)] at hR
                            have t123:=True.intro
                            go_wp2_with (first
                             | (
                              have _t:=t123
                              go_at_call 107
                              go_loud (
                               clear _t
                               have hn2:=start_c r112 w112
                               rw [hst] at hn2
                               refine hn2.mono ?_
                               clear hn2 t123
                               rintro e w122 ⟨rfl,hbx⟩
                               have hS122:=hS112.below hbx
                               have hF122:=hF112.trans (Fx.of_below hbx)
                               have hP122:PB w122 p bs L.token (a110):=hS122.pb hle110
                               clear hbx
                               have t124:=True.intro
                               go_wp2_with (first
                                | (
                                 have _t:=t124
                                 go_at_call 82
                                 go_loud (
                                  clear _t
                                  refine (odd_c hP122).mono ?_
                                  clear t124
                                  rintro e wx ⟨rfl,hbx⟩
                                  subst hR
                                  go_wp2
                                  exact ⟨rfl,rfl,_,_,hS122.below hbx,hF122.trans (Fx.of_below hbx),rfl,rfl,rfl⟩))))))
                           ·rw [if_pos (show startB r112 = true from hst)] at hR
                            have t126:=True.intro
                            go_wp2_with (first
                             | (
                              have _t:=t126
                              go_at_call 107
                              go_loud (
                               clear _t
                               have hn2:=start_c r112 w112
                               rw [hst] at hn2
                               refine hn2.mono ?_
                               clear hn2 t126
                               rintro e w125 ⟨rfl,hbx⟩
                               have hS125:=hS112.below hbx
                               have hF125:=hF112.trans (Fx.of_below hbx)
                               have hP125:PB w125 p bs L.token (a110):=hS125.pb hle110
                               clear hbx
                               have t128:=True.intro
                               go_wp2_with (first
                                | (
                                 have _t:=t128
                                 go_at_call 108
                                 go_loud (
                                  clear _t
                                  have hn:=tag_c hS125 hL (hg.moved hle110) hr0 s.at_
                                  refine hn.mono ?_
                                  clear hn t128
                                  rintro e w127 he
                                  rcases hq127:tagS bs L { { { s with at_:=s.at_ } with at_:=s.at_ } with at_:=a110 } s.at_ with f | s127
                                  ·rw [hq127] at hR he
                                   (try simp only at hR)
                                   subst hR
                                   obtain ⟨rfl,s5,T5,hS5,hF5,e1,e2,e3⟩:=he
                                   go_wp2
                                   exact ⟨rfl,rfl,s5,T5,hS5,hF125.trans hF5,e1,e2,e3⟩
                                  rw [hq127] at hR he
                                  obtain ⟨rfl,T127,hS127,hF5⟩:=he
                                  (try simp only at hR)
                                  subst hR
                                  go_wp2
                                  go_end0
                                  exact ⟨rfl,_,hS127,hF125.trans hF5⟩))))))))))))
                  ·rw [hq108] at hR he
                   (try simp only at hR)
                   subst hR
                   obtain ⟨rfl,hbx⟩:=he
                   go_wp2
                   exact ⟨rfl,rfl,_,_,hS106.below hbx,hF106.trans (Fx.of_below hbx),rfl,rfl,rfl⟩)))
              ·rw [hq106] at hR he
               (try simp only at hR)
               subst hR
               obtain ⟨rfl,hbx⟩:=he
               go_wp2
               exact ⟨rfl,rfl,_,_,hS105.below hbx,hF105.trans (Fx.of_below hbx),rfl,rfl,rfl⟩)))
          ·rw [if_neg hl1] at hR
           (try simp only at hR)
           have qf:¬ ((s.at_:Int) + 1 < (bs.length:Int)):=by omega
           have hwr:IntKind.i64.wrap ((s.at_:Int) + 1) = (s.at_:Int) + 1:=IntWalk.i64_in _ (by have:=h.small;have:=hg.le;omega)
           have hc103_7:w103.cell? ⟨p,7,none⟩ = some (.int .i64 (s.at_)):=hS103.cells 7
           obtain ⟨ba103,cap103,hrow103,_,_⟩:=hP103.row
           go_wp2
           go_region
           have hbx:=(Below.refl w103.heap.size w103).drew
           generalize w103.drew = w129 at *
           have hS129:=hS103.below hbx
           have hF129:=hF103.trans (Fx.of_below hbx)
           have hP129:PB w129 p bs L.token (s.at_):=hS129.pb hle103
           clear hbx
           unfold markU at hR
           have t131:=True.intro
           go_wp2_with (first
            | (
             have _t:=t131
             go_at_call 81
             go_loud (
              clear _t
              have hn:=stray_c hP129
              refine hn.mono ?_
              clear hn t131
              rintro e w130 he
              rcases hq130:strayS bs (s.at_) with _ | f
              ·rw [hq130] at hR he
               obtain ⟨rfl,hbx⟩:=he
               have hS130:=hS129.below hbx
               have hF130:=hF129.trans (Fx.of_below hbx)
               have hP130:PB w130 p bs L.token (s.at_):=hS130.pb hle103
               clear hbx
               (try simp only at hR)
               unfold markT at hR
               have t133:=True.intro
               go_wp2_with (first
                | (
                 have _t:=t133
                 go_at_call 106
                 go_loud (
                  clear _t
                  have hn:=next_c hP130
                  refine hn.mono ?_
                  clear hn t133
                  rintro e w132 he
                  rcases hq132:nextS bs (s.at_) with f | ⟨r132,a132⟩
                  ·rw [hq132] at hR he
                   (try simp only at hR)
                   subst hR
                   obtain ⟨rfl,a5,hmx⟩:=he
                   go_wp2
                   exact ⟨rfl,rfl,_,_,hS130.moved hmx,hF130.trans (Fx.of_mv hmx),rfl,rfl,rfl⟩
                  rw [hq132] at hR he
                  obtain ⟨rfl,hmx⟩:=he
                  have hS132:=hS130.moved hmx
                  have hF132:=hF130.trans (Fx.of_mv hmx)
                  have hle132:a132 ≤ bs.length:=(next_le hby hle103 hq132).2
                  have hP132:PB w132 p bs L.token (a132):=hS132.pb hle132
                  clear hmx
                  (try simp only at hR)
                  have t135:=True.intro
                  go_wp2_with (first
                   | (
                    have _t:=t135
                    go_at_call 105
                    go_loud (
                     clear _t
                     have hn:=must_c hP132
                     refine hn.mono ?_
                     clear hn t135
                     rintro e w134 he
                     rcases hq134:mustS bs (a132) with f | r134
                     ·rw [hq134] at hR he
                      (try simp only at hR)
                      subst hR
                      obtain ⟨rfl,hbx⟩:=he
                      go_wp2
                      exact ⟨rfl,rfl,_,_,hS132.below hbx,hF132.trans (Fx.of_below hbx),rfl,rfl,rfl⟩
                     rw [hq134] at hR he
                     obtain ⟨rfl,hbx⟩:=he
                     have hS134:=hS132.below hbx
                     have hF134:=hF132.trans (Fx.of_below hbx)
                     have hP134:PB w134 p bs L.token (a132):=hS134.pb hle132
                     clear hbx
                     (try simp only at hR)
                     have hpk134:=(must_ok hq134).1
                     have hst134:=must_step hby hle132 hq134
                     by_cases h63:r134 = 63
                     ·rw [if_pos h63] at hR
                      (try simp only at hR)
                      subst h63
                      have qx:True:=True.intro
                      have t137:=True.intro
                      go_wp2_with (first
                       | (
                        have _t:=t137
                        go_at_call 106
                        go_loud (
                         clear _t
                         refine (next_ok hP134 (hpk134)).mono ?_
                         clear t137
                         rintro e w136 ⟨rfl,hmx⟩
                         have hS136:=hS134.moved hmx
                         have hF136:=hF134.trans (Fx.of_mv hmx)
                         have hle136:stepS (63) (a132) ≤ bs.length:=(peek_step hby (hle132) (hpk134)).1
                         have hP136:PB w136 p bs L.token (stepS (63) (a132)):=hS136.pb hle136
                         clear hmx
                         have t139:=True.intro
                         go_wp2_with (first
                          | (
                           have _t:=t139
                           go_at_call 116
                           go_loud (
                            clear _t
                            have hn:=instruction_c hP136 htk4 hS136.envp
                            refine hn.mono ?_
                            clear hn t139
                            rintro e w138 he
                            rcases hq138:instructionS bs L.token (stepS (63) (a132)) with f | a138
                            ·rw [hq138] at hR he
                             (try simp only at hR)
                             subst hR
                             obtain ⟨rfl,a5,hmx⟩:=he
                             go_wp2
                             exact ⟨rfl,rfl,_,_,hS136.moved hmx,hF136.trans (Fx.of_mv hmx),rfl,rfl,rfl⟩
                            rw [hq138] at hR he
                            obtain ⟨rfl,hmx⟩:=he
                            have hS138:=hS136.moved hmx
                            have hF138:=hF136.trans (Fx.of_mv hmx)
                            have hle138:a138 ≤ bs.length:=(instruction_le hby hle136 hq138).2
                            have hP138:PB w138 p bs L.token (a138):=hS138.pb hle138
                            clear hmx
                            (try simp only at hR)
                            (try simp only at hR)
                            subst hR
                            go_wp2
                            go_end0
                            exact ⟨rfl,_,hS138,hF138⟩))))))
                     ·rw [if_neg h63] at hR
                      (try simp only at hR)
                      have q63:(r134 == 63) = false:=by rw [beq_eq_false_iff_ne];exact h63
                      by_cases h47:r134 = 47
                      ·rw [if_pos h47] at hR
                       (try simp only at hR)
                       subst h47
                       have t141:=True.intro
                       go_wp2_with (first
                        | (
                         have _t:=t141
                         go_at_call 106
                         go_loud (
                          clear _t
                          refine (next_ok hP134 (hpk134)).mono ?_
                          clear t141
                          rintro e w140 ⟨rfl,hmx⟩
                          have hS140:=hS134.moved hmx
                          have hF140:=hF134.trans (Fx.of_mv hmx)
                          have hle140:stepS (47) (a132) ≤ bs.length:=(peek_step hby (hle132) (hpk134)).1
                          have hP140:PB w140 p bs L.token (stepS (47) (a132)):=hS140.pb hle140
                          clear hmx
                          have t143:=True.intro
                          go_wp2_with (first
                           | (
                            have _t:=t143
                            go_at_call 158
                            go_loud (
                             clear _t
                             have hn:=end_c hS140 hL (hg.moved hle140) hr0 s.at_ hne
                             refine hn.mono ?_
                             clear hn t143
                             rintro e w142 he
                             rcases hq142:endS bs L { { { { s with at_:=s.at_ } with at_:=s.at_ } with at_:=a132 } with at_:=stepS (47) (a132) } s.at_ with f | s142
                             ·rw [hq142] at hR he
                              (try simp only at hR)
                              subst hR
                              obtain ⟨rfl,s5,T5,hS5,hF5,e1,e2,e3⟩:=he
                              go_wp2
                              exact ⟨rfl,rfl,s5,T5,hS5,hF140.trans hF5,e1,e2,e3⟩
                             rw [hq142] at hR he
                             obtain ⟨rfl,T142,hS142,hF5⟩:=he
                             (try simp only at hR)
                             subst hR
                             go_wp2
                             go_end0
                             exact ⟨rfl,_,hS142,hF140.trans hF5⟩))))))
                      ·rw [if_neg h47] at hR
                       (try simp only at hR)
                       have q47:(r134 == 47) = false:=by rw [beq_eq_false_iff_ne];exact h47
                       rcases hst:startB r134 with _ | _
                       ·rw [if_neg (show ¬ (startB r134 = true) from fun e=>by rw [hst] at e;cases e)] at hR
                        have t145:=True.intro
                        go_wp2_with (first
                         | (
                          have _t:=t145
                          go_at_call 107
                          go_loud (
                           clear _t
                           have hn2:=start_c r134 w134
                           rw [hst] at hn2
                           refine hn2.mono ?_
                           clear hn2 t145
                           rintro e w144 ⟨rfl,hbx⟩
                           have hS144:=hS134.below hbx
                           have hF144:=hF134.trans (Fx.of_below hbx)
                           have hP144:PB w144 p bs L.token (a132):=hS144.pb hle132
                           clear hbx
                           have t146:=True.intro
                           go_wp2_with (first
                            | (
                             have _t:=t146
                             go_at_call 82
                             go_loud (
                              clear _t
                              refine (odd_c hP144).mono ?_
                              clear t146
                              rintro e wx ⟨rfl,hbx⟩
                              subst hR
                              go_wp2
                              exact ⟨rfl,rfl,_,_,hS144.below hbx,hF144.trans (Fx.of_below hbx),rfl,rfl,rfl⟩))))))
                       ·rw [if_pos (show startB r134 = true from hst)] at hR
                        have t148:=True.intro
                        go_wp2_with (first
                         | (
                          have _t:=t148
                          go_at_call 107
                          go_loud (
                           clear _t
                           have hn2:=start_c r134 w134
                           rw [hst] at hn2
                           refine hn2.mono ?_
                           clear hn2 t148
                           rintro e w147 ⟨rfl,hbx⟩
                           have hS147:=hS134.below hbx
                           have hF147:=hF134.trans (Fx.of_below hbx)
                           have hP147:PB w147 p bs L.token (a132):=hS147.pb hle132
                           clear hbx
                           have t150:=True.intro
                           go_wp2_with (first
                            | (
                             have _t:=t150
                             go_at_call 108
                             go_loud (
                              clear _t
                              have hn:=tag_c hS147 hL (hg.moved hle132) hr0 s.at_
                              refine hn.mono ?_
                              clear hn t150
                              rintro e w149 he
                              rcases hq149:tagS bs L { { { s with at_:=s.at_ } with at_:=s.at_ } with at_:=a132 } s.at_ with f | s149
                              ·rw [hq149] at hR he
                               (try simp only at hR)
                               subst hR
                               obtain ⟨rfl,s5,T5,hS5,hF5,e1,e2,e3⟩:=he
                               go_wp2
                               exact ⟨rfl,rfl,s5,T5,hS5,hF147.trans hF5,e1,e2,e3⟩
                              rw [hq149] at hR he
                              obtain ⟨rfl,T149,hS149,hF5⟩:=he
                              (try simp only at hR)
                              subst hR
                              go_wp2
                              go_end0
                              exact ⟨rfl,_,hS149,hF147.trans hF5⟩))))))))))))
              ·rw [hq130] at hR he
               (try simp only at hR)
               subst hR
               obtain ⟨rfl,hbx⟩:=he
               go_wp2
               exact ⟨rfl,rfl,_,_,hS129.below hbx,hF129.trans (Fx.of_below hbx),rfl,rfl,rfl⟩)))
         ·rw [hh103] at hn hR
          rw [if_pos rfl] at hn hR
          (try simp only at hR)
          refine hn.mono ?_
          clear hn t104
          rintro e w103 ⟨rfl,hmx⟩
          have hS103:=hS101.moved hmx
          have hF103:=hF101.trans (Fx.of_mv hmx)
          have hle103:s.at_ + 9 ≤ bs.length:=has_le hle101 hh103
          have hP103:PB w103 p bs L.token (s.at_ + 9):=hS103.pb hle103
          clear hmx
          go_wp2
          go_loopw [18] (fun _ wr=>∃ (s10:St) (T10:Tv) (k:Nat),PS wr p B bs L s10 T10 ∧ Fx w0 wr p T T10 ∧ Good bs L s10 ∧ (s10.ready = s.ready ∧ s10.most = s.most ∧ s10.depth = s.depth) ∧ bs.length < k + s10.at_ ∧ cdataL bs L s.at_ k s10 = R) (fun _ wr=>bs.length - atOf p wr)
          case atStart=>exact ⟨_,T,bs.length + 1,hS103,hF103,hg.moved hle103,⟨rfl,rfl,rfl⟩,by show bs.length < bs.length + 1 + (s.at_ + 9);omega,hR⟩
          case round=>
           rename World=>w10
           obtain ⟨s10,T10,k,hS10,hF10,hg10,⟨hk1,hk2,hk3⟩,h3,hR⟩:=hrel
           have hle10:=hg10.le
           have hP10:PB w10 p bs L.token s10.at_:=hS10.pb hle10
           obtain ⟨k',rfl⟩:∃ k',k = k' + 1:=⟨k - 1,by omega⟩
           unfold cdataL at hR
           have t152:=True.intro
           go_wp2_with (first
            | (
             have _t:=t152
             go_at_call 114
             go_loud (
              clear _t
              have hn:=takes_c hP10 (⟨#[93,93,62]⟩:ByteArray) (by decide)
              unfold takesS at hn
              rw [show bytesOf (⟨#[93,93,62]⟩:ByteArray) = [93,93,62] from rfl] at hn
              rcases hh151:(hasS bs [93,93,62] (s10.at_)).1 with _ | _
              ·rw [hh151] at hn hR
               rw [if_neg (by decide)] at hn hR
               (try simp only at hR)
               refine hn.mono ?_
               clear hn t152
               rintro e w151 ⟨rfl,hmx⟩
               have hS151:=hS10.moved hmx
               have hF151:=hF10.trans (Fx.of_mv hmx)
               have hle151:s10.at_ ≤ bs.length:=hle10
               have hP151:PB w151 p bs L.token (s10.at_):=hS151.pb hle151
               clear hmx
               have t154:=True.intro
               go_wp2_with (first
                | (
                 have _t:=t154
                 go_at_call 105
                 go_loud (
                  clear _t
                  have hn:=must_c hP151
                  refine hn.mono ?_
                  clear hn t154
                  rintro e w153 he
                  rcases hq153:mustS bs (s10.at_) with f | r153
                  ·rw [hq153] at hR he
                   (try simp only at hR)
                   subst hR
                   obtain ⟨rfl,hbx⟩:=he
                   go_wp2
                   exact ⟨rfl,rfl,_,_,hS151.below hbx,hF151.trans (Fx.of_below hbx),hk1,hk2,hk3⟩
                  rw [hq153] at hR he
                  obtain ⟨rfl,hbx⟩:=he
                  have hS153:=hS151.below hbx
                  have hF153:=hF151.trans (Fx.of_below hbx)
                  have hP153:PB w153 p bs L.token (s10.at_):=hS153.pb hle151
                  clear hbx
                  (try simp only at hR)
                  have hpk153:=(must_ok hq153).1
                  have hst153:=must_step hby hle151 hq153
                  have t156:=True.intro
                  go_wp2_with (first
                   | (
                    have _t:=t156
                    go_at_call 112
                    go_loud (
                     clear _t
                     have hn:=line_c hS153 hL (hg10.moved hle151) s.at_ r153 hpk153 (must_real hq153)
                     refine hn.mono ?_
                     clear hn t156
                     rintro e w155 he
                     rcases hq155:lineS bs L { s10 with at_:=s10.at_ } s.at_ r153 with f | s155
                     ·rw [hq155] at hR he
                      (try simp only at hR)
                      subst hR
                      obtain ⟨rfl,s5,T5,hS5,hF5,e1,e2,e3⟩:=he
                      go_wp2
                      exact ⟨rfl,rfl,s5,T5,hS5,hF153.trans hF5,e1.trans hk1,e2.trans hk2,e3.trans hk3⟩
                     rw [hq155] at hR he
                     obtain ⟨rfl,T155,hS155,hF5⟩:=he
                     have hF155:=hF153.trans hF5
                     clear hF5
                     obtain ⟨hg155,hu155,hy1,hy2,hy3,hy4,hy5,_⟩:=line_good hby hg10 (must_step hby hle10 hq153) hq155
                     have hle155:=hg155.le
                     have hP155:PB w155 p bs L.token (s155.at_):=hS155.pb hle155
                     (try simp only at hR)
                     go_wp2
                     exact ⟨⟨s155,T155,k',hS155,hF155,hg155,⟨hy1.trans hk1,hy4.trans hk2,hy5.trans hk3⟩,by omega,hR⟩,by rw [hS155.atOf,hS10.atOf];omega⟩))))))
              ·rw [hh151] at hn hR
               rw [if_pos rfl] at hn hR
               (try simp only at hR)
               refine hn.mono ?_
               clear hn t152
               rintro e w151 ⟨rfl,hmx⟩
               have hS151:=hS10.moved hmx
               have hF151:=hF10.trans (Fx.of_mv hmx)
               have hle151:s10.at_ + 3 ≤ bs.length:=has_le hle10 hh151
               have hP151:PB w151 p bs L.token (s10.at_ + 3):=hS151.pb hle151
               clear hmx
               (try simp only at hR)
               subst hR
               go_wp2
               go_end0
               exact ⟨rfl,_,hS151,hF151⟩))))))
     ·rw [hh101] at hn hR
      rw [if_pos rfl] at hn hR
      (try simp only at hR)
      refine hn.mono ?_
      clear hn t102
      rintro e w101 ⟨rfl,hmx⟩
      have hS101:=hS0.moved hmx
      have hF101:=hF0.trans (Fx.of_mv hmx)
      have hle101:s.at_ + 4 ≤ bs.length:=has_le hle0 hh101
      have hP101:PB w101 p bs L.token (s.at_ + 4):=hS101.pb hle101
      clear hmx
      have t158:=True.intro
      go_wp2_with (first
       | (
        have _t:=t158
        go_at_call 115
        go_loud (
         clear _t
         have hn:=note_c hP101
         refine hn.mono ?_
         clear hn t158
         rintro e w157 he
         rcases hq157:noteS bs (s.at_ + 4) with f | a157
         ·rw [hq157] at hR he
          (try simp only at hR)
          subst hR
          obtain ⟨rfl,a5,hmx⟩:=he
          go_wp2
          exact ⟨rfl,rfl,_,_,hS101.moved hmx,hF101.trans (Fx.of_mv hmx),rfl,rfl,rfl⟩
         rw [hq157] at hR he
         obtain ⟨rfl,hmx⟩:=he
         have hS157:=hS101.moved hmx
         have hF157:=hF101.trans (Fx.of_mv hmx)
         have hle157:a157 ≤ bs.length:=(note_le hby hle101 hq157).2
         have hP157:PB w157 p bs L.token (a157):=hS157.pb hle157
         clear hmx
         (try simp only at hR)
         (try simp only at hR)
         subst hR
         go_wp2
         go_end0
         exact ⟨rfl,_,hS157,hF157⟩))))))
end Go.Proofs.YtbaokjfhigjpdaaGreatDoorX
end
section
set_option linter.unusedVariables false
namespace Go.Proofs.YtbaokjfhigjpdaaGreatDoorX
open Go.RowKit Go.Shelf Go.Proofs.YtbaokjfhigjpdaaGreatDoor.PXmlBase Go.Proofs.YtbaokjfhigjpdaaGreatDoorW.PrintWords
set_option maxRecDepth 100000 in
set_option maxHeartbeats 8000000 in
theorem content_c {w0:World} {p B:Nat} {bs:List Int} {L:Lim} {s:St} {T:Tv} (h:PS w0 p B bs L s T) (hL:LOk L) (hg:Good bs L s) (hne:s.opn ≠ []) :
    Calls Tryz.prog 79 #[.pointer (some ⟨p,0,none⟩)] w0 (OutP w0 p B bs L s T ((contentS bs L s).map fun x=>(Value.tuple #[],x))):=by
  have hlt:=h.lt
  have hby:=h.bytes
  have htk:L.token ≤ 1099511627776:=by have:=hL.token;omega
  have htk4:L.token ≤ 4294967280:=by have:=hL.token;omega
  generalize hR:contentS bs L s = R
  unfold contentS at hR
  go_enter Tryz.func79,Tryz.ntmps79
  have hS0:=h
  have hF0:=Fx.refl w0 p T
  have hle0:=hg.le
  have hP0:PB w0 p bs L.token s.at_:=h.pb hle0
  go_wp2
  go_loopw [2] (fun _ wr=>∃ (s10:St) (T10:Tv) (k:Nat),PS wr p B bs L s10 T10 ∧ Fx w0 wr p T T10 ∧ Good bs L s10 ∧ (s10.ready = [] → s10.opn = s.opn ∧ s.ready = [] ∧ s10.most = s.most ∧ s10.depth = s.depth) ∧ bs.length + 2 ≤ k + s10.at_ ∧ contentL bs L k s10 = R) (fun _ wr=>bs.length - atOf p wr)
  case atStart=>exact ⟨s,T,bs.length + 2,hS0,hF0,hg,fun e=>⟨rfl,e,rfl,rfl⟩,by omega,hR⟩
  case round=>
   rename World=>w10
   obtain ⟨s10,T10,k,hS10,hF10,hg10,hkk,h3,hR⟩:=hrel
   have hle10:=hg10.le
   have hP10:PB w10 p bs L.token s10.at_:=hS10.pb hle10
   obtain ⟨k',rfl⟩:∃ k',k = k' + 1:=⟨k - 1,by omega⟩
   unfold contentL at hR
   obtain ⟨cs10,hcs10,_⟩:=hS10.ready
   obtain ⟨A2,c2,hT2,_⟩:=hcs10.slice
   have h15:w10.cell? ⟨p,15,none⟩ = some (.slice A2 s10.ready.length c2):=(hS10.cells 15).trans (congrArg some hT2)
   clear hcs10
   by_cases hrd:s10.ready = []
   ·rw [if_neg (fun e=>e hrd)] at hR
    unfold contentT at hR
    obtain ⟨hk0,hk4,hk2,hk3⟩:=hkk hrd
    have hk1:s10.ready = s.ready:=hrd.trans hk4.symm
    have hne10:s10.opn ≠ []:=by rw [hk0];exact hne
    have hz:((s10.ready.length:Int) == 0) = true:=by rw [hrd];rfl
    have hc10_7:w10.cell? ⟨p,7,none⟩ = some (.int .i64 (s10.at_)):=hS10.cells 7
    have t102:=True.intro
    go_wp2_with (first
     | (
      have _t:=t102
      go_at_call 105
      go_loud (
       clear _t
       have hn:=must_c hP10
       refine hn.mono ?_
       clear hn t102
       rintro e w101 he
       rcases hq101:mustS bs (s10.at_) with f | r101
       ·rw [hq101] at hR he
        (try simp only at hR)
        subst hR
        obtain ⟨rfl,hbx⟩:=he
        go_wp2
        exact ⟨rfl,rfl,_,_,hS10.below hbx,hF10.trans (Fx.of_below hbx),hk1,hk2,hk3⟩
       rw [hq101] at hR he
       obtain ⟨rfl,hbx⟩:=he
       have hS101:=hS10.below hbx
       have hF101:=hF10.trans (Fx.of_below hbx)
       have hP101:PB w101 p bs L.token (s10.at_):=hS101.pb hle10
       clear hbx
       (try simp only at hR)
       have hpk101:=(must_ok hq101).1
       have hst101:=must_step hby hle10 hq101
       by_cases h60:r101 = 60
       ·rw [if_pos h60] at hR
        (try simp only at hR)
        subst h60
        have t104:=True.intro
        go_wp2_with (first
         | (
          have _t:=t104
          go_at_call 109
          go_loud (
           clear _t
           have hn:=mark_c hS101 hL hg10 hrd hne10 (must_ok hq101).2
           refine hn.mono ?_
           clear hn t104
           rintro e w103 he
           rcases hq103:markS bs L s10 with f | s103
           ·rw [hq103] at hR he
            (try simp only at hR)
            subst hR
            obtain ⟨rfl,s5,T5,hS5,hF5,e1,e2,e3⟩:=he
            go_wp2
            exact ⟨rfl,rfl,s5,T5,hS5,hF101.trans hF5,e1.trans hk1,e2.trans hk2,e3.trans hk3⟩
           rw [hq103] at hR he
           obtain ⟨rfl,T103,hS103,hF5⟩:=he
           have hF103:=hF101.trans hF5
           clear hF5
           have hw103:Went bs L s10 s103:=mark_good hby hg10 hrd (must_ok hq101).2 hq103
           have hle103:=hw103.1.le
           have hP103:PB w103 p bs L.token (s103.at_):=hS103.pb hle103
           (try simp only at hR)
           go_wp2
           exact ⟨⟨s103,T103,k',hS103,hF103,hw103.1,fun hr=>by rcases hw103.2.2 with e | ⟨_,e1,e2,e3,e4⟩;exact absurd hr e;exact ⟨e1.trans hk0,hk4,e3.trans hk2,e4.trans hk3⟩,by have:=hw103.2.1;omega,hR⟩,by rw [hS103.atOf,hS10.atOf];have:=hw103.2.1;omega⟩)))
       ·rw [if_neg h60] at hR
        (try simp only at hR)
        have q60:(r101 == 60) = false:=by rw [beq_eq_false_iff_ne];exact h60
        by_cases h38:r101 = 38
        ·rw [if_pos h38] at hR
         (try simp only at hR)
         subst h38
         have t106:=True.intro
         go_wp2_with (first
          | (
           have _t:=t106
           go_at_call 111
           go_loud (
            clear _t
            have hn:=reference_c hP101
            refine hn.mono ?_
            clear hn t106
            rintro e w105 he
            rcases hq105:referenceS bs (s10.at_) with f | ⟨c105,a105⟩
            ·rw [hq105] at hR he
             (try simp only at hR)
             subst hR
             obtain ⟨rfl,a5,hmx⟩:=he
             go_wp2
             exact ⟨rfl,rfl,_,_,hS101.moved hmx,hF101.trans (Fx.of_mv hmx),hk1,hk2,hk3⟩
            rw [hq105] at hR he
            obtain ⟨rfl,hmx⟩:=he
            have hS105:=hS101.moved hmx
            have hF105:=hF101.trans (Fx.of_mv hmx)
            have hle105:a105 ≤ bs.length:=(reference_le hby hle10 hq105).2.1
            have hP105:PB w105 p bs L.token (a105):=hS105.pb hle105
            clear hmx
            (try simp only at hR)
            have t108:=True.intro
            go_wp2_with (first
             | (
              have _t:=t108
              go_at_call 110
              go_loud (
               clear _t
               have hn:=put_c hS105 (by have:=hL.token;omega) hg10.text s10.at_ c105 (reference_le hby hle10 hq105).2.2
               refine hn.mono ?_
               clear hn t108
               rintro e w107 he
               rcases hq107:putS L { s10 with at_:=a105 } s10.at_ c105 with f | s107
               ·rw [hq107] at hR he
                (try simp only at hR)
                subst hR
                obtain ⟨rfl,s5,T5,hS5,hF5,e1,e2,e3⟩:=he
                go_wp2
                exact ⟨rfl,rfl,s5,T5,hS5,hF105.trans hF5,e1.trans hk1,e2.trans hk2,e3.trans hk3⟩
               rw [hq107] at hR he
               obtain ⟨rfl,T107,hS107,hF5⟩:=he
               have hF107:=hF105.trans hF5
               clear hF5
               have hp107:=put_good (hg10.moved hle105) hq107
               have hw107:Went bs L s10 s107:=⟨hp107.1,by rw [hp107.2.1];exact (reference_le hby hle10 hq105).1,.inr ⟨hp107.2.2.1.trans hrd,hp107.2.2.2.1,hp107.2.2.2.2.1,hp107.2.2.2.2.2.1,hp107.2.2.2.2.2.2.1⟩⟩
               have hle107:=hw107.1.le
               have hP107:PB w107 p bs L.token (s107.at_):=hS107.pb hle107
               (try simp only at hR)
               go_wp2
               exact ⟨⟨s107,T107,k',hS107,hF107,hw107.1,fun hr=>by rcases hw107.2.2 with e | ⟨_,e1,e2,e3,e4⟩;exact absurd hr e;exact ⟨e1.trans hk0,hk4,e3.trans hk2,e4.trans hk3⟩,by have:=hw107.2.1;omega,hR⟩,by rw [hS107.atOf,hS10.atOf];have:=hw107.2.1;omega⟩))))))
        ·rw [if_neg h38] at hR
         (try simp only at hR)
         have q38:(r101 == 38) = false:=by rw [beq_eq_false_iff_ne];exact h38
         have t110:=True.intro
         go_wp2_with (first
          | (
           have _t:=t110
           go_at_call 103
           go_loud (
            clear _t
            have hn:=has_c hP101 (⟨#[93,93,62]⟩:ByteArray) (by decide)
            rw [show bytesOf (⟨#[93,93,62]⟩:ByteArray) = [93,93,62] from rfl] at hn
            generalize (hasS bs [93,93,62] (s10.at_)).2 = cut109 at hn
            rcases hh109:(hasS bs [93,93,62] (s10.at_)).1 with _ | _
            ·rw [hh109] at hn
             refine hn.mono ?_
             clear hn t110
             rintro e w109 ⟨rfl,hbx⟩
             have hS109:=hS101.below hbx
             have hF109:=hF101.trans (Fx.of_below hbx)
             have hP109:PB w109 p bs L.token (s10.at_):=hS109.pb hle10
             clear hbx
             rw [if_neg (by rw [hh109];decide)] at hR
             have t112:=True.intro
             go_wp2_with (first
              | (
               have _t:=t112
               go_at_call 112
               go_loud (
                clear _t
                have hn:=line_c hS109 hL hg10 s10.at_ r101 hpk101 (must_real hq101)
                refine hn.mono ?_
                clear hn t112
                rintro e w111 he
                rcases hq111:lineS bs L s10 s10.at_ r101 with f | s111
                ·rw [hq111] at hR he
                 (try simp only at hR)
                 subst hR
                 obtain ⟨rfl,s5,T5,hS5,hF5,e1,e2,e3⟩:=he
                 go_wp2
                 exact ⟨rfl,rfl,s5,T5,hS5,hF109.trans hF5,e1.trans hk1,e2.trans hk2,e3.trans hk3⟩
                rw [hq111] at hR he
                obtain ⟨rfl,T111,hS111,hF5⟩:=he
                have hF111:=hF109.trans hF5
                clear hF5
                have hp111:=line_good hby hg10 (must_step hby hle10 hq101) hq111
                have hw111:Went bs L s10 s111:=⟨hp111.1,hp111.2.1,.inr ⟨hp111.2.2.1.trans hrd,hp111.2.2.2.1,hp111.2.2.2.2.1,hp111.2.2.2.2.2.1,hp111.2.2.2.2.2.2.1⟩⟩
                have hle111:=hw111.1.le
                have hP111:PB w111 p bs L.token (s111.at_):=hS111.pb hle111
                (try simp only at hR)
                go_wp2
                exact ⟨⟨s111,T111,k',hS111,hF111,hw111.1,fun hr=>by rcases hw111.2.2 with e | ⟨_,e1,e2,e3,e4⟩;exact absurd hr e;exact ⟨e1.trans hk0,hk4,e3.trans hk2,e4.trans hk3⟩,by have:=hw111.2.1;omega,hR⟩,by rw [hS111.atOf,hS10.atOf];have:=hw111.2.1;omega⟩)))
            ·rw [hh109] at hn
             refine hn.mono ?_
             clear hn t110
             rintro e w109 ⟨rfl,hbx⟩
             have hS109:=hS101.below hbx
             have hF109:=hF101.trans (Fx.of_below hbx)
             have hP109:PB w109 p bs L.token (s10.at_):=hS109.pb hle10
             clear hbx
             rw [if_pos hh109] at hR
             have t113:=True.intro
             go_wp2_with (first
              | (
               have _t:=t113
               go_at_call 82
               go_loud (
                clear _t
                refine (odd_c hP109).mono ?_
                clear t113
                rintro e wx ⟨rfl,hbx⟩
                subst hR
                go_wp2
                exact ⟨rfl,rfl,_,_,hS109.below hbx,hF109.trans (Fx.of_below hbx),hk1,hk2,hk3⟩)))))))))
   ·rw [if_pos hrd] at hR
    subst hR
    have hz:((s10.ready.length:Int) == 0) = false:=by rw [beq_eq_false_iff_ne];intro e;exact hrd (List.eq_nil_of_length_eq_zero (by omega))
    go_wp2
    go_end0
    exact ⟨rfl,_,hS10,hF10⟩
end Go.Proofs.YtbaokjfhigjpdaaGreatDoorX
end
