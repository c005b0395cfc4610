/- What is proved: what the claims of this seat share, part 16: a program of ours merged it out of our own texts, the print's words and the laid shelf. Conditions: those of each. -/
import Derived.Test.YtbaokjfhigjpdaaGreatDoorMB15
import Derived.Carry
import Derived.Maps.OwnIn
import Derived.Maps.OwnSet
set_option linter.unusedVariables false
set_option linter.unusedSimpArgs false
section
namespace Go.Proofs.YtbaokjfhigjpdaaGreatDoorN
open Go.RowKit
def sget {β:Type}:List (ByteArray × β) → ByteArray → Option β
  | [],_=>none
  | (k,v) :: m,x=>if x = k then some v else sget m x
structure SMap (w:World) (b:Nat) (m:List (ByteArray × ByteArray)):Prop where mk ::
  out:∃ es clock,w.heap[b]? = some (.map es clock) ∧ es.toList.map (fun e=>(e.key,e.val)) = m.map (fun p=>(Value.string p.1,Value.string p.2)) ∧ MapKept.Stamped es clock
theorem beqB (a b:ByteArray):(a == b) = decide (a = b):=by
 first | exact MapKept.bytes_beq a b | (rw [Bool.eq_iff_iff];simp [MapKept.bytes_beq])
theorem find_smap (k:ByteArray):∀ (es:List MapEntry) (m:List (ByteArray × ByteArray)) (i:Nat),es.map (fun e=>(e.key,e.val)) = m.map (fun p=>(Value.string p.1,Value.string p.2)) →
    (sget m k = none ∧ Instr.findNow .string (.string k) es i = some none) ∨ (∃ j v,sget m k = some v ∧ Instr.findNow .string (.string k) es i = some (some (j,.string v)))
  | [],[],i,_=>.inl ⟨rfl,rfl⟩
  | [],_ :: _,_,h=>by simp at h
  | _ :: _,[],_,h=>by simp at h
  | e :: es,(k',v') :: m,i,h=>by
   simp only [List.map_cons,List.cons.injEq,Prod.mk.injEq] at h
   obtain ⟨⟨hk,hv⟩,ht⟩:=h
   unfold Instr.findNow
   rw [hk]
   by_cases e1:k = k'
   ·subst e1
    refine .inr ⟨i,v',by simp [sget],?_⟩
    simp [Instr.sameNow,beqB,hv]
   · have hs:Instr.sameNow .string (.string k) (.string k') = some false:=by
       simp [Instr.sameNow,beqB,e1]
     rw [hs]
     simp only [sget,if_neg e1]
     exact find_smap k es m (i + 1) ht
theorem sget_ne {β:Type} {k:ByteArray}:∀ {m:List (ByteArray × β)},sget m k = none → ∀ p ∈ m,p.1 ≠ k
  | [],_,p,hp=>by cases hp
  | (k',v) :: m,h,p,hp=>by
   unfold sget at h
   split at h
   · cases h
   ·rename_i hne
    rcases List.mem_cons.1 hp with rfl | hp
    · exact fun e=>hne e.symm
    · exact sget_ne h p hp
theorem keys_ne {k:ByteArray} {es:List MapEntry} {m:List (ByteArray × ByteArray)} (h:sget m k = none) (he:es.map (fun e=>(e.key,e.val)) = m.map fun p=>(Value.string p.1,Value.string p.2)):∀ x ∈ es,x.key ≠ Value.string k:=by
 intro x hx e
 have h1:(x.key,x.val) ∈ es.map (fun e=>(e.key,e.val)):=List.mem_map_of_mem hx
 rw [he] at h1
 obtain ⟨p,hp,e2⟩:=List.mem_map.1 h1
 have e3:Value.string p.1 = x.key:=congrArg Prod.fst e2
 rw [e] at e3
 exact sget_ne h p hp (Value.string.inj e3)
variable {P:Program} {w:World} {b:Nat} {m:List (ByteArray × ByteArray)}
theorem SMap.look (h:SMap w b m) {t k e:TypeId} (ht:P.underlying t = some (.map k e)) (hk:P.underlying k = some .string) (hz:(zeroValue e).run P w = .ok (.string ⟨#[]⟩) w) (s:ByteArray) (c:Bool) :
    (Instr.lookup t (.map (some b)) (.string s) c).run P w = .ok (if c then .tuple #[.string ((sget m s).getD ⟨#[]⟩),.bool (sget m s).isSome] else .string ((sget m s).getD ⟨#[]⟩)) w:=by
  obtain ⟨es,clock,hb,he,_⟩:=h.out
  rcases find_smap s es.toList m 0 he with ⟨h1,h2⟩ | ⟨j,v,h1,h2⟩
  · simp [Instr.lookup,run_underlying ht,MapKept.run_getObj_map hb,MapKept.run_checkKey hk (show MapKept.IsKey .string (.string s) by simp [MapKept.IsKey]),MapKept.run_findKey hk h2,hz,Result.andThen,h1]
  · simp [Instr.lookup,run_underlying ht,MapKept.run_getObj_map hb,MapKept.run_checkKey hk (show MapKept.IsKey .string (.string s) by simp [MapKept.IsKey]),MapKept.run_findKey hk h2,Result.andThen,h1]
theorem SMap.store_new (h:SMap w b m) {t k e:TypeId} (ht:P.underlying t = some (.map k e)) (hk:P.underlying k = some .string) (s v:ByteArray) (hs:sget m s = none) :
    ∃ w',(Instr.mapUpdate t (.map (some b)) (.string s) (.string v)).run P w = .ok () w' ∧ SMap w' b (m ++ [(s,v)]) ∧ w.grownBy w' (some b):=by
  obtain ⟨es,clock,hb,he,hst⟩:=h.out
  rcases find_smap s es.toList m 0 he with ⟨h1,h2⟩ | ⟨j,v',h1,h2⟩
  ·refine ⟨_,by simp [Instr.mapUpdate,run_underlying ht,MapKept.run_getObj_map hb,MapKept.run_checkKey hk (show MapKept.IsKey .string (.string s) by simp [MapKept.IsKey]),MapKept.run_findKey hk h2,MapKept.run_setObj_map _ hb,Result.andThen];rfl,⟨⟨_,_,(MapKept.heap_set hb).1,?_,MapKept.stamped_push hst (keys_ne hs he)⟩⟩,?_⟩
   · simp [he]
   · exact ⟨rfl,rfl,rfl,by simp,fun i _ hi=>(MapKept.heap_set hb).2 i (fun e=>hi (by rw [e]))⟩
  · rw [hs] at h1;cases h1
theorem SMap.lt (h:SMap w b m):b < w.heap.size:=by
 obtain ⟨es,clock,hb,_⟩:=h.out
 exact (Array.getElem?_eq_some_iff.1 hb).1
theorem SMap.of_block (h:SMap w b m) {w':World} (e:w'.heap[b]? = w.heap[b]?):SMap w' b m:=by
 obtain ⟨es,clock,hb,he⟩:=h.out
 exact ⟨es,clock,e.trans hb,he⟩
theorem SMap.kept (h:SMap w b m) {w':World} {row:Option Nat} (hg:w.grownBy w' row) (hne:some b ≠ row):SMap w' b m:=h.of_block (hg.block b h.lt hne)
theorem SMap.alloc (h:SMap w b m) (o:Obj):SMap (w.alloc o) b m:=h.kept (World.grownBy_alloc w o none) (by simp)
theorem SMap.drew (h:SMap w b m):SMap w.drew b m:=h.of_block rfl
theorem SMap.setCell (h:SMap w b m) (p:Addr) (u:Value):SMap (w.setCell p u) b m:=by
 obtain ⟨es,clock,hb,he⟩:=h.out
 refine ⟨es,clock,?_,he⟩
 simp only [World.setCell,Array.getElem?_modify]
 split
 · subst_vars;rw [hb];rfl
 · exact hb
theorem SMap_made (w:World):SMap (w.alloc (.map #[] 0)) w.heap.size []:=⟨#[],0,(MapKept.heap_alloc w _).1,rfl,MapKept.stamped_empty 0⟩
section
variable {F:Fence} {nF:Nat} {ops:Array Oper} {rest:List Oper} {o:Oper} {a:Act} {Q:Exit → Act → World → Prop}
theorem wpListIn_lookup_smap_ok (hg:o.guard = none) (mo x:Operand) (t:TypeId) (hop:o.op = Op.lookup t mo x true) (k e:TypeId) (ht:P.underlying t = some (.map k e)) (hk:P.underlying k = some .string)
    (hz:(zeroValue e).run P w = .ok (.string ⟨#[]⟩) w) (hm:a.eval mo = .map (some b)) (hown:SMap w b m) (s:ByteArray) (hx:a.eval x = .string s)
    (hK:wpListIn F nF P ops Q rest (a.put o.dst (.tuple #[.string ((sget m s).getD ⟨#[]⟩),.bool (sget m s).isSome])) w) :
    wpListIn F nF P ops Q (o :: rest) a w:=by
  refine wpListIn_plain hg fun K' hK'=>?_
  have hrun:=hown.look ht hk hz s true
  unfold Oper.wpIn
  refine ⟨by simp [Oper.about,hop],?_⟩
  rw [Oper.semAt_plain F _ _ (by rw [hop];intro c hc';cases hc')]
  simp [execOp,hop,hm,hx,hrun,Result.andThen]
  exact hK' _ _ hK
theorem wpList_lookup_smap_ok (hg:o.guard = none) (mo x:Operand) (t:TypeId) (hop:o.op = Op.lookup t mo x true) (k e:TypeId) (ht:P.underlying t = some (.map k e)) (hk:P.underlying k = some .string)
    (hz:(zeroValue e).run P w = .ok (.string ⟨#[]⟩) w) (hm:a.eval mo = .map (some b)) (hown:SMap w b m) (s:ByteArray) (hx:a.eval x = .string s)
    (hK:wpList P ops Q rest (a.put o.dst (.tuple #[.string ((sget m s).getD ⟨#[]⟩),.bool (sget m s).isSome])) w) :
    wpList P ops Q (o :: rest) a w:=by
  refine wpList_plain hg fun K' hK'=>?_
  have hrun:=hown.look ht hk hz s true
  unfold Oper.wp
  simp [execOp,hop,hm,hx,hrun,Result.andThen]
  exact hK' _ _ hK
theorem wpList_store_smap (hg:o.guard = none) (mo x v:Operand) (t:TypeId) (hop:o.op = Op.mapUpdate t mo x v) (k e:TypeId) (ht:P.underlying t = some (.map k e)) (hk:P.underlying k = some .string)
    (hm:a.eval mo = .map (some b)) (hown:SMap w b m) (s y:ByteArray) (hx:a.eval x = .string s) (hv:a.eval v = .string y) (hs:sget m s = none)
    (hK:∀ w',SMap w' b (m ++ [(s,y)]) → w.grownBy w' (some b) → wpList P ops Q rest (a.put o.dst undef) w') :
    wpList P ops Q (o :: rest) a w:=by
  refine wpList_plain hg fun K' hK'=>?_
  obtain ⟨w',hrun,r1,r2⟩:=hown.store_new (P:=P) ht hk s y hs
  unfold Oper.wp
  simp [execOp,hop,hm,hx,hv,hrun,Result.andThen]
  exact hK' _ _ (hK w' r1 r2)
end
end Go.Proofs.YtbaokjfhigjpdaaGreatDoorN
end
