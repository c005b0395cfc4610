/- What is proved: what the claims of this seat share, part 19: a program of ours merged it out of our own texts, the print's words and the laid shelf. Conditions: those of each. -/
import Derived.Test.YtbaokjfhigjpdaaGreatDoorMB18
import Derived.Lib.SlMapMerge
import Derived.Maps.Ext
import Derived.Maps.RangeWalk
import Derived.Sort.KeysCollected
set_option linter.unusedVariables false
set_option linter.unusedSimpArgs false
section
set_option linter.unusedVariables false
namespace Go.Proofs.YtbaokjfhigjpdaaGreatDoorN
open Go.RowKit Go.Shelf Go.Maps
abbrev DU:=DataW Unit
def strR:Value → Option (DU × List MemPlace)
  | .string s=>some (.lit (.string s.data.toList),[])
  | _=>none
theorem strR_mk (s:ByteArray):strR (.string s) = some (.lit (.string s.data.toList),[]):=rfl
theorem strR_inv {v:Value} {y:DU × List MemPlace} (h:strR v = some y):∃ s:ByteArray,v = .string s ∧ y = (.lit (.string s.data.toList),[]):=by
 cases v <;> simp [strR] at h
 exact ⟨_,rfl,h.symm⟩
def entD (m:Binds):List (Lit × DU):=m.map fun p=>(Lit.string p.1.data.toList,.lit (.string p.2.data.toList))
def datD (m:Binds):DU:=.map ((entD m).foldr DataW.insert [])
theorem keyOf_str_mk {P:Program} {k:TypeId} (hk:P.underlying k = some .string) {s:ByteArray} (hs:s.size ≤ maxLen):keyOf P k (.string s) = some (.string s.data.toList):=by
 simp [keyOf,hk,mapKey,hs]
theorem rd_str {P:Program} {k:TypeId} (hk:P.underlying k = some .string) {x:MapEntry} {a b:ByteArray} (h1:x.key = .string a) (h2:x.val = .string b) (ha:a.size ≤ maxLen) :
    WideElems.rd P k strR x = some (Lit.string a.data.toList,(.lit (.string b.data.toList):DU)):=by
  unfold WideElems.rd
  rw [h1,keyOf_str_mk hk ha,h2,strR_mk]
  rfl
theorem rg_list {P:Program} {k:TypeId} (hk:P.underlying k = some .string):∀ (es:List MapEntry) (m:Binds),es.map (fun e=>(e.key,e.val)) = m.map (fun p=>(Value.string p.1,Value.string p.2)) → (∀ p ∈ m,p.1.size ≤ maxLen) →
    (∀ x ∈ es,∃ y,WideElems.rd P k strR x = some y) ∧ es.map (WideElems.rg P k strR) = entD m
  | [],[],_,_=>⟨fun _ hx=>absurd hx (by simp),rfl⟩
  | [],_ :: _,h,_=>by simp at h
  | _ :: _,[],h,_=>by simp at h
  | e :: es,p :: m,h,hs=>by
   simp only [List.map_cons,List.cons.injEq,Prod.mk.injEq] at h
   obtain ⟨⟨hk1,hv1⟩,ht⟩:=h
   have h1:=rd_str hk hk1 hv1 (hs p (List.mem_cons_self ..))
   obtain ⟨i1,i2⟩:=rg_list hk es m ht (fun q hq=>hs q (List.mem_cons_of_mem _ hq))
   refine ⟨fun x hx=>?_,?_⟩
   ·rcases List.mem_cons.1 hx with rfl | hx
    · exact ⟨_,h1⟩
    · exact i1 x hx
   ·rw [List.map_cons,i2]
    have:WideElems.rg P k strR e = (Lit.string p.1.data.toList,.lit (.string p.2.data.toList)):=by
     rw [WideElems.rg_of h1]
    rw [this]
    rfl
theorem SMap.owns {P:Program} {k:TypeId} (hk:P.underlying k = some .string) {w:World} {b:Nat} {m:Binds} (h:SMap w b m) (hl:m.length ≤ maxLen) (hs:∀ p ∈ m,p.1.size ≤ maxLen):w.ownsMap P k strR b m.length (datD m):=by
 obtain ⟨es,clock,hb,he,hst⟩:=h.out
 have hlen:es.size = m.length:=by
  have:=congrArg List.length he
  simpa using this
 obtain ⟨h1,h2⟩:=rg_list hk es.toList m he hs
 refine ⟨es,clock,hb,⟨by omega,hst,h1⟩,by omega,?_⟩
 unfold datD
 rw [h2]
theorem size_datD (m:Binds):Maps.size (datD m) = m.length:=by
 unfold datD
 rw [Maps.size_eq,length_sorted]
 unfold entD
 rw [List.length_map]
def allD (L:List Binds):DU:=L.foldl (fun D m=>Lib.mergeD D (datD m)) (.map [])
def sumL (L:List Binds):Nat:=(L.map List.length).sum
theorem allD_snoc (L:List Binds) (m:Binds):allD (L ++ [m]) = Lib.mergeD (allD L) (datD m):=by
 unfold allD
 rw [List.foldl_append]
 rfl
theorem sumL_snoc (L:List Binds) (m:Binds):sumL (L ++ [m]) = sumL L + m.length:=by
 unfold sumL
 simp
def xmlK:Lit:=.string [120,109,108]
def keepE (p:Lit × DU):Bool:=!(match p.2 with | .lit (.string [])=>true | _=>false) && !(p.1.sameKey xmlK)
def Ks (es0:List (Lit × DU)) (left:Lit → Bool):DU:=.map (es0.filter fun p=>keepE p || left p.1)
variable {es0:List (Lit × DU)} {left:Lit → Bool}
theorem Ks_start (hkeys:∀ p ∈ es0,WideAt.IsKeyLit p.1):Ks es0 (Maps.has (.map es0)) = .map es0:=by
 unfold Ks
 rw [List.filter_eq_self.2 (fun p hp=>by
  have:Maps.has (DataW.map es0) p.1 = true:=List.any_eq_true.2 ⟨p,hp,WideAt.sameKey_self (hkeys p hp)⟩
  simp [this])]
theorem Ks_end (hl:∀ kl,left kl = false):Ks es0 left = .map (es0.filter keepE):=by
 unfold Ks
 congr 1
 exact List.filter_congr (fun p _=>by simp [hl])
theorem Ks_came (hap:es0.Pairwise (fun p q=>p.1 ≠ q.1)) {kl:Lit} (hk:WideAt.IsKeyLit kl) (hlk:left kl = true) {d:DU} (hat:∀ zd,(Ks es0 left).atKey kl zd = d):∀ p ∈ es0,p.1 = kl → p.2 = d:=by
 intro p hp hpk
 have hm:(kl,p.2) ∈ es0.filter fun p=>keepE p || left p.1:=List.mem_filter.2 ⟨by rw [← hpk];exact hp,by simp [hlk]⟩
 exact (WideAt.atKey_mem .nil hk (hap.filter _) hm).symm.trans (hat .nil)
theorem Ks_struck (hap:es0.Pairwise (fun p q=>p.1 ≠ q.1)) {kl:Lit} (hk:WideAt.IsKeyLit kl) (hlk:left kl = true) {d:DU} (hat:∀ zd,(Ks es0 left).atKey kl zd = d) (hd:keepE (kl,d) = false):(Ks es0 left).del kl = Ks es0 (fun z=>left z && !z.sameKey kl):=by
 have hc:=Ks_came hap hk hlk hat
 show DataW.map ((es0.filter fun p=>keepE p || left p.1).filter fun p=>!p.1.sameKey kl) = _
 unfold Ks
 rw [List.filter_filter]
 congr 1
 refine List.filter_congr (fun p hp=>?_)
 cases hs:p.1.sameKey kl
 · simp [hs]
 ·have e:p = (kl,d):=Prod.ext (WideAt.sameKey_eq hs) (hc p hp (WideAt.sameKey_eq hs))
  simp [e,hd,WideAt.sameKey_self hk]
theorem Ks_stays (hap:es0.Pairwise (fun p q=>p.1 ≠ q.1)) {kl:Lit} (hk:WideAt.IsKeyLit kl) (hlk:left kl = true) {d:DU} (hat:∀ zd,(Ks es0 left).atKey kl zd = d) (hd:keepE (kl,d) = true):Ks es0 left = Ks es0 (fun z=>left z && !z.sameKey kl):=by
 have hc:=Ks_came hap hk hlk hat
 unfold Ks
 congr 1
 refine List.filter_congr (fun p hp=>?_)
 cases hs:p.1.sameKey kl
 · simp [hs]
 ·have e:p = (kl,d):=Prod.ext (WideAt.sameKey_eq hs) (hc p hp (WideAt.sameKey_eq hs))
  simp [e,hd]
def entsOf:DU → List (Lit × DU)
  | .map es=>es
  | _=>[]
def keptD (L:List Binds):DU:=.map ((entsOf (allD L)).filter keepE)
def txtOf:DU → ByteArray
  | .lit (.string b)=>⟨b.toArray⟩
  | _=>⟨#[]⟩
def bindsL (L:List Binds):List (ByteArray × ByteArray):=((strKeys (keptD L)).mergeSort fun x y=>decide (x ≤ y)).map fun k=>(⟨k.toArray⟩,txtOf ((keptD L).atKey (.string k) (.lit (.string []))))
def flatB (l:List (ByteArray × ByteArray)):List Value:=l.flatMap fun p=>[.string p.1,.string p.2]
end Go.Proofs.YtbaokjfhigjpdaaGreatDoorN
end
section
set_option linter.unusedVariables false
namespace Go.Proofs.YtbaokjfhigjpdaaGreatDoorN
open Go.RowKit Go.Shelf
def resolveS (L:List Binds) (q:ByteArray) (attr:Bool):(ByteArray × ByteArray) × Int :=
  if (qnS q).2.2 = false then ((⟨#[]⟩,⟨#[]⟩),2)
  else if attr = true ∧ (qnS q).1 = ⟨#[]⟩ then ((⟨#[]⟩,(qnS q).2.1),0)
  else if (spaceS L (qnS q).1).2 = false then ((⟨#[]⟩,⟨#[]⟩),4)
  else (((spaceS L (qnS q).1).1,(qnS q).2.1),0)
def nameV (n:ByteArray × ByteArray):Value:=.agg #[.string n.1,.string n.2]
theorem new_cell (w:World) (cs:Array Value) (t:TypeId) (i:Nat) {v:Value} (h:cs[i]? = some v):(w.alloc (.cells cs t)).cell? ⟨w.heap.size,i,none⟩ = some v:=by
 unfold World.cell?
 rw [heap_alloc_new]
 exact h
theorem new_free (w:World) (cs:Array Value) (t:TypeId) (i:Nat):(w.alloc (.cells cs t)).frozen? ⟨w.heap.size,i,none⟩ = false:=by
 unfold World.frozen?
 rw [heap_alloc_new]
 simp
theorem cellB {n:Nat} {a b:World} (hb:Below n a b) {p:Addr} {v:Value} (h:a.cell? p = some v) (hp:p.block < n):b.cell? p = some v:=(hb.cell hp).trans h
theorem freeB {n:Nat} {a b:World} (hb:Below n a b) {p:Addr} (h:a.frozen? p = false) (hp:p.block < n):b.frozen? p = false:=(World.frozen?_of_block (hb.block _ hp)).trans h
theorem set2 (w:World) (b:Nat) (x y:Value) {u v:Value} (h0:w.cell? ⟨b,0,none⟩ = some u) (h1:w.cell? ⟨b,1,none⟩ = some v) :
    ((w.setCell ⟨b,0,none⟩ x).setCell ⟨b,1,none⟩ y).cell? ⟨b,0,none⟩ = some x ∧ ((w.setCell ⟨b,0,none⟩ x).setCell ⟨b,1,none⟩ y).cell? ⟨b,1,none⟩ = some y:=by
  have e1:(w.setCell ⟨b,0,none⟩ x).cell? ⟨b,1,none⟩ = some v:=by rw [World.cell?_setCell_other];exact h1;simp
  exact ⟨by rw [World.cell?_setCell_other];exact cellSet w ⟨b,0,none⟩ x h0;simp,cellSet _ ⟨b,1,none⟩ y e1⟩
set_option maxRecDepth 100000 in
set_option maxHeartbeats 2000000 in
theorem resolve_c {w:World} {p:Nat} {sv:Value} {L:List Binds} (h:Sc w p sv L) (hL:L.length < 1099511627776) (q:ByteArray) (hq:q.size < 4398046511104) (attr:Bool) :
    Calls Tryz.prog 87 #[.pointer (some ⟨p,0,none⟩),.string q,.bool attr] w fun e W'=>e = .returned (.tuple #[nameV (resolveS L q attr).1,.int .i64 (resolveS L q attr).2]) ∧ Below w.heap.size w W':=by
  have hqn:=fun w=>qname_c q hq w
  unfold resolveS nameV
  generalize qnS q = r at *
  obtain ⟨pf,lc,ok⟩:=r
  simp only at hqn ⊢
  cases ok with
  | false=>
   rw [if_pos rfl]
   go_enter Tryz.func87,Tryz.ntmps87
   go_wp2_with (go_at_call 123;refine (hqn _).mono ?_;rintro e w1 ⟨rfl,hb1⟩;have hB1:=((Below.refl w.heap.size w).alloc (Nat.le_refl _) _).trans (hb1.mono (by simp));have c0:=cellB hb1 (new_cell w _ _ 0 rfl) (by simp);have c1:=cellB hb1 (new_cell w _ _ 1 rfl) (by simp);have f0:=freeB hb1 (new_free w _ _ 0) (by simp);have f1:=freeB hb1 (new_free w _ _ 1) (by simp))
   obtain ⟨d0,d1⟩:=set2 w1 w.heap.size (.string ⟨#[]⟩) (.string ⟨#[]⟩) c0 c1
   refine bodyPost_ret (v:=.tuple #[.agg #[.string ⟨#[]⟩,.string ⟨#[]⟩],.int .i64 2]) (by simp [results,Tryz.f87,go_sem,d0,d1]) rfl ⟨rfl,?_⟩
   exact (hB1.setCell (p:=⟨w.heap.size,0,none⟩) (Nat.le_refl _) _).setCell (p:=⟨w.heap.size,1,none⟩) (Nat.le_refl _) _
  | true=>
   rw [if_neg (by simp)]
   have hbool:pf.toList.isEmpty = decide (pf = ⟨#[]⟩):=isEmpty_eq pf
   by_cases hat:attr = true ∧ pf = ⟨#[]⟩
   ·rw [if_pos hat]
    obtain ⟨rfl,rfl⟩:=hat
    clear hbool
    go_enter Tryz.func87,Tryz.ntmps87
    go_wp2_with (go_at_call 123;refine (hqn _).mono ?_;rintro e w1 ⟨rfl,hb1⟩;have hB1:=((Below.refl w.heap.size w).alloc (Nat.le_refl _) _).trans (hb1.mono (by simp));have c0:=cellB hb1 (new_cell w _ _ 0 rfl) (by simp);have c1:=cellB hb1 (new_cell w _ _ 1 rfl) (by simp);have f0:=freeB hb1 (new_free w _ _ 0) (by simp);have f1:=freeB hb1 (new_free w _ _ 1) (by simp))
    obtain ⟨d0,d1⟩:=set2 w1 w.heap.size (.string ⟨#[]⟩) (.string lc) c0 c1
    refine bodyPost_ret (v:=.tuple #[.agg #[.string ⟨#[]⟩,.string lc],.int .i64 0]) (by simp [results,Tryz.f87,go_sem,d0,d1]) rfl ⟨rfl,?_⟩
    exact (hB1.setCell (p:=⟨w.heap.size,0,none⟩) (Nat.le_refl _) _).setCell (p:=⟨w.heap.size,1,none⟩) (Nat.le_refl _) _
   ·rw [if_neg hat]
    have hsp:=fun (w':World) (h':Sc w' p sv L)=>space_c h' hL pf
    generalize spaceS L pf = s at *
    obtain ⟨sp,is⟩:=s
    simp only at hsp ⊢
    have hcase:attr = false ∨ (attr = true ∧ pf.toList.isEmpty = false):=by
     cases attr with
     | false=>exact .inl rfl
     | true=>exact .inr ⟨rfl,by rw [hbool,decide_eq_false_iff_not];exact fun e=>hat ⟨rfl,e⟩⟩
    clear hbool hat
    rcases hcase with rfl | ⟨rfl,hne⟩ <;> cases is
    all_goals
     go_enter Tryz.func87,Tryz.ntmps87
     go_wp2_with (first | (go_at_call 123;refine (hqn _).mono ?_;rintro e w1 ⟨rfl,hb1⟩;have hB1:=((Below.refl w.heap.size w).alloc (Nat.le_refl _) _).trans (hb1.mono (by simp));have hS1:=(h.alloc _).below hb1) | (go_at_call 124;refine (hsp _ hS1).mono ?_;rintro e w2 ⟨rfl,hb2⟩;have hb3:=hb1.trans (hb2.mono hb1.size);have hB2:=hB1.trans (hb2.mono (Nat.le_trans (by simp) hb1.size));have c0:=cellB hb3 (new_cell w _ _ 0 rfl) (by simp);have c1:=cellB hb3 (new_cell w _ _ 1 rfl) (by simp);have f0:=freeB hb3 (new_free w _ _ 0) (by simp);have f1:=freeB hb3 (new_free w _ _ 1) (by simp)))
    all_goals first
     | (
      obtain ⟨d0,d1⟩:=set2 w2 w.heap.size (.string ⟨#[]⟩) (.string ⟨#[]⟩) c0 c1
      refine bodyPost_ret (v:=.tuple #[.agg #[.string ⟨#[]⟩,.string ⟨#[]⟩],.int .i64 4]) (by simp [results,Tryz.f87,go_sem,d0,d1];done) rfl ⟨rfl,?_⟩
      exact (hB2.setCell (p:=⟨w.heap.size,0,none⟩) (Nat.le_refl _) _).setCell (p:=⟨w.heap.size,1,none⟩) (Nat.le_refl _) _)
     | (
      obtain ⟨d0,d1⟩:=set2 w2 w.heap.size (.string sp) (.string lc) c0 c1
      refine bodyPost_ret (v:=.tuple #[.agg #[.string sp,.string lc],.int .i64 0]) (by simp [results,Tryz.f87,go_sem,d0,d1];done) rfl ⟨rfl,?_⟩
      exact (hB2.setCell (p:=⟨w.heap.size,0,none⟩) (Nat.le_refl _) _).setCell (p:=⟨w.heap.size,1,none⟩) (Nat.le_refl _) _)
set_option maxRecDepth 100000 in
set_option maxHeartbeats 2000000 in
theorem Resolve_c {w:World} {p:Nat} {sv:Value} {L:List Binds} (h:Sc w p sv L) (hL:L.length < 1099511627776) (q:ByteArray) (hq:q.size < 4398046511104) :
    Calls Tryz.prog 85 #[.pointer (some ⟨p,0,none⟩),.string q] w fun e W'=>e = .returned (.tuple #[nameV (resolveS L q false).1,.int .i64 (resolveS L q false).2]) ∧ Below w.heap.size w W':=by
  have hr:=fun (w':World) (h':Sc w' p sv L)=>resolve_c h' hL q hq false
  generalize resolveS L q false = s at *
  obtain ⟨⟨sp,lc⟩,er⟩:=s
  unfold nameV at hr ⊢
  simp only at hr ⊢
  go_enter Tryz.func85,Tryz.ntmps85
  go_wp2_with (go_at_call 87;refine (hr _ (h.alloc _)).mono ?_;rintro e w1 ⟨rfl,hb1⟩;have hB1:=((Below.refl w.heap.size w).alloc (Nat.le_refl _) _).trans (hb1.mono (by simp));have c0:=cellB hb1 (new_cell w _ _ 0 rfl) (by simp);have c1:=cellB hb1 (new_cell w _ _ 1 rfl) (by simp);have f0:=freeB hb1 (new_free w _ _ 0) (by simp);have f1:=freeB hb1 (new_free w _ _ 1) (by simp))
  obtain ⟨d0,d1⟩:=set2 w1 w.heap.size (.string sp) (.string lc) c0 c1
  refine bodyPost_ret (v:=.tuple #[.agg #[.string sp,.string lc],.int .i64 er]) (by simp [results,Tryz.f85,go_sem,d0,d1]) rfl ⟨rfl,?_⟩
  exact (hB1.setCell (p:=⟨w.heap.size,0,none⟩) (Nat.le_refl _) _).setCell (p:=⟨w.heap.size,1,none⟩) (Nat.le_refl _) _
end Go.Proofs.YtbaokjfhigjpdaaGreatDoorN
end
section
set_option linter.unusedVariables false
namespace Go.Proofs.YtbaokjfhigjpdaaGreatDoorN
open Go.RowKit Go.Shelf
structure Fr (w w':World) (p:Nat) (sv:Value):Prop where
  os:w'.os = w.os
  tape:w'.tape = w.tape
  output:w'.output = w.output
  size:w.heap.size ≤ w'.heap.size
  block:∀ k,k < w.heap.size → k ≠ p → sv.ownBlock ≠ some k → w'.heap[k]? = w.heap[k]?
theorem Fr.of_below {w w':World} {p:Nat} {sv:Value} (h:Below w.heap.size w w'):Fr w w' p sv:=⟨h.os,h.tape,h.output,h.size,fun k hk _ _=>h.block k hk⟩
theorem Fr.below {w0 w w':World} {p B:Nat} {sv:Value} (h:Fr w w' p sv) (hp:B ≤ p) (hs:∀ k,sv.ownBlock = some k → B ≤ k) (h0:Below B w0 w) (hB:B ≤ w.heap.size):Below B w0 w' :=
  h0.trans ⟨h.os,h.tape,h.output,h.size,fun k hk=>h.block k (by omega) (by omega) (fun e=>by have:=hs k e;omega)⟩
theorem Sc.dropped {w:World} {p:Nat} {L:List Binds} {g cap:Nat} {n:Nat} (h:Sc w p (.slice (some ⟨g,0,none⟩) (n + 1) cap) L) (hn:L.length = n + 1):Sc (w.setCell ⟨p,0,none⟩ (.slice (some ⟨g,0,none⟩) n cap)) p (.slice (some ⟨g,0,none⟩) n cap) L.dropLast:=by
 have hgp:g ≠ p:=fun e=>h.apart (by simp [Value.ownBlock,e])
 obtain ⟨els,h1,h2,h3⟩:=h.rows
 have hl:els.length = n + 1:=by rw [← hn,← h2,List.length_map]
 refine ⟨cellSet w ⟨p,0,none⟩ _ h.cell,by rw [World.frozen?_setCell];exact h.frozen,⟨els.dropLast,?_,by rw [← h2,List.map_dropLast],fun e he=>(h3 e (List.dropLast_subset _ he)).setCell _ _⟩,h.apart,typ_set h.typ⟩
 rcases h1.2 with ⟨e,_⟩ | ⟨g',cap',cur,e,hb,hg,r1,r2,r3,r4⟩
 · simp at e
 ·simp only [Value.slice.injEq,Option.some.injEq,Addr.mk.injEq] at e
  obtain ⟨⟨rfl,_,_⟩,_,rfl⟩:=e
  rw [List.length_dropLast,hl,Nat.add_sub_cancel]
  refine ⟨by simp [hl],.inr ⟨g,cap,cur,rfl,Nat.zero_le _,?_,by omega,r2,r3,?_⟩⟩
  ·rw [Below.heap_setCell w ⟨p,0,none⟩ _ g hgp]
   exact hg
  ·rw [Nat.mul_one] at r4 ⊢
   have hcl:cur.toList.length = cap:=by rw [Array.length_toList];omega
   rw [List.map_dropLast,← r4,List.dropLast_eq_take,List.take_take,List.length_take,hcl]
   congr 1
   omega
set_option maxRecDepth 100000 in
set_option maxHeartbeats 1000000 in
theorem close_some {w:World} {p:Nat} {sv:Value} {L:List Binds} (h:Sc w p sv L) (hL:L.length < 1099511627776) (hne:L ≠ []) :
    Calls Tryz.prog 43 #[.pointer (some ⟨p,0,none⟩)] w fun e W'=>e = .returned (.bool true) ∧ ∃ sv',Sc W' p sv' L.dropLast ∧ sv'.ownBlock = sv.ownBlock ∧ Fr w W' p sv:=by
  obtain ⟨n,hn⟩:∃ n,L.length = n + 1:=⟨L.length - 1,by have:=List.length_pos_iff.2 hne;omega⟩
  have hs:∃ g cap,sv = .slice (some ⟨g,0,none⟩) (n + 1) cap ∧ n + 1 ≤ cap ∧ cap ≤ maxLen:=by
   obtain ⟨els,h1,h2,_⟩:=h.rows
   have hl:els.length = n + 1:=by rw [← hn,← h2,List.length_map]
   rcases h1.2 with ⟨_,he⟩ | ⟨g,cap,cur,rfl,_,_,r1,r2,_⟩
   · omega
   · exact ⟨g,cap,by rw [hl],by omega,r2⟩
  obtain ⟨g,cap,rfl,hcap,hmax⟩:=hs
  have hd:=h.dropped hn
  have hc:=h.cell
  have hf:=h.frozen
  have hmax':(cap:Int) ≤ 9223372036854775807:=by unfold maxLen at hmax;omega
  have e1:((((n:Int) + 1) - 1).toNat) = n:=by omega
  have e2:((n + 1:Nat):Int) = (n:Int) + 1:=by omega
  go_enter Tryz.func43,Tryz.ntmps43
  go_wp2
  go_ret
  exact ⟨rfl,_,hd,rfl,⟨rfl,rfl,rfl,by simp [World.setCell],fun k _ hk _=>Below.heap_setCell w ⟨p,0,none⟩ _ k hk⟩⟩
end Go.Proofs.YtbaokjfhigjpdaaGreatDoorN
end
section
set_option linter.unusedVariables false
namespace Go.Proofs.YtbaokjfhigjpdaaGreatDoorN
open Go.RowKit Go.Shelf Go.Proofs.YtbaokjfhigjpdaaGreatDoorW.PrintWords
theorem eq_string (w:World) (d:Nat) (a b:ByteArray):(Op.equalIn (d + 1) 9 (.string a) (.string b)).run Tryz.prog w = .ok (a == b) w:=by
 unfold Op.equalIn
 simp [run_underlying Tryz.underlying9,Result.andThen]
theorem eq_name (w:World) (a b c d:ByteArray):(Op.equal 23 (nameV (a,b)) (nameV (c,d))).run Tryz.prog w = .ok ((a == c) && (b == d)) w:=by
 unfold Op.equal nameV
 refine eqA_of Tryz.underlying23 (by kernel_rfl) ?_
 refine eqf_cons rfl ?_ ?_ (eq_string w _ a c) (eqf_last rfl ?_ ?_ (eq_string w _ b d))
 all_goals simp [part,go_sem]
theorem check_name (w:World) (a b:ByteArray) (em:Bool) (n:Nat):(Instr.checkKey em (n + 2) 23 (nameV (a,b))).run Tryz.prog w = .ok () w:=by
 have p0:(part 9 #[.string a,.string b] 0).run Tryz.prog w = .ok (.string a) w:=by simp [part,go_sem]
 have p1:(part 9 #[.string a,.string b] 1).run Tryz.prog w = .ok (.string b) w:=by simp [part,go_sem]
 have k0:=MapKept.run_checkKey (w:=w) Tryz.underlying9 (show MapKept.IsKey .string (.string a) by simp [MapKept.IsKey]) em n
 have k1:=MapKept.run_checkKey (w:=w) Tryz.underlying9 (show MapKept.IsKey .string (.string b) by simp [MapKept.IsKey]) em n
 unfold Instr.checkKey nameV
 simp [run_underlying Tryz.underlying23,Result.andThen,p0,p1,k0,k1]
def isHad (m:List (ByteArray × ByteArray)) (n:ByteArray × ByteArray):Bool:=m.any fun x=>decide (x = n)
theorem isHad_iff (m:List (ByteArray × ByteArray)) (n:ByteArray × ByteArray):isHad m n = true ↔ n ∈ m:=by
 unfold isHad
 rw [List.any_eq_true]
 constructor
 ·rintro ⟨x,h1,h2⟩
  rw [decide_eq_true_eq] at h2
  rw [← h2]
  exact h1
 · exact fun h=>⟨n,h,by simp⟩
structure NSet (w:World) (b:Nat) (m:List (ByteArray × ByteArray)):Prop where mk ::
  out:∃ es clock,w.heap[b]? = some (.map es clock) ∧ es.toList.map (fun e=>(e.key,e.val)) = m.map fun n=>(nameV n,Value.bool true)
theorem asking (w:World) (n:ByteArray × ByteArray):∀ (es:List MapEntry) (m:List (ByteArray × ByteArray)) (i:Nat),es.map (fun e=>(e.key,e.val)) = m.map (fun n=>(nameV n,Value.bool true)) →
    (n ∉ m ∧ (Instr.findAsking 23 (nameV n) es i).run Tryz.prog w = .ok none w) ∨ (n ∈ m ∧ ∃ j,(Instr.findAsking 23 (nameV n) es i).run Tryz.prog w = .ok (some (j,.bool true)) w)
  | [],[],i,_=>.inl ⟨by simp,by simp [Instr.findAsking]⟩
  | [],_ :: _,_,h=>by simp at h
  | _ :: _,[],_,h=>by simp at h
  | e :: es,n' :: m,i,h=>by
   simp only [List.map_cons,List.cons.injEq,Prod.mk.injEq] at h
   obtain ⟨⟨hk,hv⟩,ht⟩:=h
   have he:=eq_name w n.1 n.2 n'.1 n'.2
   unfold Instr.findAsking
   rw [hk]
   simp only [Sem.run_bind,he,Result.andThen_ok,beqB]
   by_cases e1:n = n'
   ·subst e1
    refine .inr ⟨List.mem_cons_self,i,?_⟩
    simp [hv]
   · have h2:(decide (n.1 = n'.1) && decide (n.2 = n'.2)) = false:=by
       rw [Bool.eq_false_iff]
       intro h3
       rw [Bool.and_eq_true,decide_eq_true_eq,decide_eq_true_eq] at h3
       exact e1 (Prod.ext h3.1 h3.2)
     rw [h2]
     rcases asking w n es m (i + 1) ht with ⟨h3,h4⟩ | ⟨h3,j,h4⟩
     · exact .inl ⟨by simp [e1,h3],by simpa using h4⟩
     · exact .inr ⟨List.mem_cons_of_mem _ h3,j,by simpa using h4⟩
theorem find_had (w:World) (n:ByteArray × ByteArray) (es:List MapEntry) (m:List (ByteArray × ByteArray)) (h:es.map (fun e=>(e.key,e.val)) = m.map (fun n=>(nameV n,Value.bool true))) :
    (n ∉ m ∧ (Instr.findKey 23 (nameV n) es).run Tryz.prog w = .ok none w) ∨ (n ∈ m ∧ ∃ j,(Instr.findKey 23 (nameV n) es).run Tryz.prog w = .ok (some (j,.bool true)) w):=by
  have ha:=asking w n es m 0 h
  unfold Instr.findKey
  simp only [Sem.run_bind,run_underlying Tryz.underlying23,Result.andThen_ok]
  cases es with
  | nil=>
   cases m with
   | nil=>exact .inl ⟨by simp,by simp [Instr.findNow]⟩
   | cons _ _=>simp at h
  | cons e es=>
   have hn:Instr.findNow (.struct #[{ name := "Space",type:=9,offset:=0,embedded:=false,tag := "",pkgPath := "",byteOffset:=0 },{ name := "Local",type:=9,offset:=1,embedded:=false,tag := "",pkgPath := "",byteOffset:=16 }]) (nameV n) (e :: es) 0 = none:=by
    unfold Instr.findNow Instr.sameNow
    rfl
   rw [hn]
   exact ha
variable {w:World} {b:Nat} {m:List (ByteArray × ByteArray)}
theorem NSet.look (h:NSet w b m) (n:ByteArray × ByteArray):(Instr.lookup 191 (.map (some b)) (nameV n) false).run Tryz.prog w = .ok (.bool (isHad m n)) w:=by
 obtain ⟨es,clock,hb,he⟩:=h.out
 have hz:(zeroValue 4).run Tryz.prog w = .ok (.bool false) w:=by kernel_rfl
 have hc:=fun em=>check_name w n.1 n.2 em 9998
 rcases find_had w n es.toList m he with ⟨h1,h2⟩ | ⟨h1,j,h2⟩
 ·simp [Instr.lookup,run_underlying Tryz.underlying191,MapKept.run_getObj_map hb,hc,h2,hz,Result.andThen]
  rw [Bool.eq_false_iff]
  exact fun e=>h1 ((isHad_iff _ _).1 e)
 ·simp [Instr.lookup,run_underlying Tryz.underlying191,MapKept.run_getObj_map hb,hc,h2,Result.andThen]
  exact (isHad_iff _ _).2 h1
theorem NSet.store_new (h:NSet w b m) (n:ByteArray × ByteArray) (hn:n ∉ m) :
    ∃ w',(Instr.mapUpdate 191 (.map (some b)) (nameV n) (.bool true)).run Tryz.prog w = .ok () w' ∧ NSet w' b (m ++ [n]) ∧ w.grownBy w' (some b):=by
  obtain ⟨es,clock,hb,he⟩:=h.out
  have hc:=fun em=>check_name w n.1 n.2 em 9998
  rcases find_had w n es.toList m he with ⟨h1,h2⟩ | ⟨h1,j,h2⟩
  ·refine ⟨_,by simp [Instr.mapUpdate,run_underlying Tryz.underlying191,MapKept.run_getObj_map hb,hc,h2,MapKept.run_setObj_map _ hb,Result.andThen];rfl,⟨⟨_,_,(MapKept.heap_set hb).1,?_⟩⟩,?_⟩
   · simp [he]
   · exact ⟨rfl,rfl,rfl,by simp,fun i _ hi=>(MapKept.heap_set hb).2 i (fun e=>hi (by rw [e]))⟩
  · exact absurd h1 hn
theorem NSet.lt (h:NSet w b m):b < w.heap.size:=by
 obtain ⟨es,clock,hb,_⟩:=h.out
 exact (Array.getElem?_eq_some_iff.1 hb).1
theorem NSet.of_block (h:NSet w b m) {w':World} (e:w'.heap[b]? = w.heap[b]?):NSet w' b m:=by
 obtain ⟨es,clock,hb,he⟩:=h.out
 exact ⟨es,clock,e.trans hb,he⟩
theorem NSet_made (w:World):NSet (w.alloc (.map #[] 0)) w.heap.size []:=⟨#[],0,(MapKept.heap_alloc w _).1,rfl⟩
section
variable {ops:Array Oper} {rest:List Oper} {o:Oper} {a:Act} {Q:Exit → Act → World → Prop}
theorem wpList_store_nset (hg:o.guard = none) (mo x v:Operand) (hop:o.op = Op.mapUpdate 191 mo x v) (hm:a.eval mo = .map (some b)) (hown:NSet w b m) (n:ByteArray × ByteArray) (hx:a.eval x = nameV n) (hv:a.eval v = .bool true) (hn:n ∉ m)
    (hK:∀ w',NSet w' b (m ++ [n]) → w.grownBy w' (some b) → wpList Tryz.prog ops Q rest (a.put o.dst undef) w') :
    wpList Tryz.prog ops Q (o :: rest) a w:=by
  refine wpList_plain hg fun K' hK'=>?_
  obtain ⟨w',hrun,r1,r2⟩:=hown.store_new n hn
  unfold Oper.wp
  simp [execOp,hop,hm,hx,hv,hrun,Result.andThen]
  exact hK' _ _ (hK w' r1 r2)
end
end Go.Proofs.YtbaokjfhigjpdaaGreatDoorN
end
section
set_option linter.unusedVariables false
namespace Go.Proofs.YtbaokjfhigjpdaaGreatDoorN
open Go.RowKit Go.Shelf Go.Proofs.YtbaokjfhigjpdaaGreatDoorW.PrintWords
abbrev XA:=ByteArray × ByteArray × Int
abbrev NA:=(ByteArray × ByteArray) × ByteArray × Int
def XAttrs (w:World) (av:Value) (xs:List XA):Prop :=
  ∃ a cap,av = .slice a xs.length cap ∧ ∀ i (h:i < xs.length),∃ q,a = some q ∧ w.cell? (q.add (i * 3)) = some (.string xs[i].1) ∧ w.cell? ⟨(q.add (i * 3)).block,(q.add (i * 3)).off + 1,none⟩ = some (.string xs[i].2.1) ∧ w.cell? ⟨(q.add (i * 3)).block,(q.add (i * 3)).off + 2,none⟩ = some (.int .i64 xs[i].2.2)
theorem plain_add (b o n:Nat):(⟨b,o,none⟩:Addr).add n = ⟨b,o + n,none⟩:=by unfold Addr.add;split <;> simp_all
theorem add_block (q:Addr) (n:Nat):(q.add n).block = q.block:=by unfold Addr.add;split <;> rfl
theorem XAttrs.below {w w':World} {av:Value} {xs:List XA} (h:XAttrs w av xs) (hb:Below w.heap.size w w'):XAttrs w' av xs:=by
 obtain ⟨a,cap,rfl,h⟩:=h
 refine ⟨a,cap,rfl,fun i hi=>?_⟩
 obtain ⟨b,ha,c0,c1,c2⟩:=h i hi
 exact ⟨b,ha,cellB hb c0 (lt_of_cell c0),cellB hb c1 (lt_of_cell c1),cellB hb c2 (lt_of_cell c2)⟩
def flatN (l:List NA):List Value:=l.flatMap fun x=>[.string x.1.1,.string x.1.2,.string x.2.1,.int .i64 x.2.2]
def tagTo (L:List Binds):List XA → List NA → Except (Int × Int) (List NA)
  | [],acc=>.ok acc
  | a :: t,acc=>if (bindsS a.1).2 = true then tagTo L t acc
    else if (resolveS L a.1 true).2 ≠ 0 then .error (a.2.2,(resolveS L a.1 true).2)
    else if isHad (acc.map (·.1)) (resolveS L a.1 true).1 = true then .error (a.2.2,5)
    else tagTo L t (acc ++ [((resolveS L a.1 true).1,a.2.1,a.2.2)])
def tagEnd (n:ByteArray × ByteArray) (r:Except (Int × Int) (List NA)):Except (Int × Int) ((ByteArray × ByteArray) × List NA):=match r with
 | .error e=>.error e
 | .ok l=>.ok (n,l)
def tagS (L:List Binds) (name:ByteArray) (at_:Int) (xs:List XA):Except (Int × Int) ((ByteArray × ByteArray) × List NA) :=
  if Lib.hasPrefix name.data.toList ownC = true then .error (at_,2)
  else if (resolveS L name false).2 ≠ 0 then .error (at_,(resolveS L name false).2)
  else tagEnd (resolveS L name false).1 (tagTo L xs [])
def zeroTag:Value:=.agg #[.string ⟨#[]⟩,.string ⟨#[]⟩,.slice none 0 0,.int .i64 0]
def TagOut (n₀:Nat) (at_:Int) (r:Except (Int × Int) ((ByteArray × ByteArray) × List NA)) (e:Ending) (w:World):Prop:=match r with
 | .error (pl,er)=>e = .returned (.tuple #[zeroTag,.int .i64 pl,.int .i64 er])
 | .ok (n,l)=>∃ sl,e = .returned (.tuple #[.agg #[.string n.1,.string n.2,sl,.int .i64 at_],.int .i64 0,.int .i64 0]) ∧ w.ownsRow n₀ 70 4 sl l.length (flatN l)
abbrev w2t (w:World) (kd at_:Int) (name text:ByteArray) (av:Value):World:=(w.alloc (.cells #[.int .i64 kd,.int .i64 at_,.string name,.string text,av] 95)).alloc (.cells #[.string ⟨#[]⟩,.string ⟨#[]⟩,.slice none 0 0,.int .i64 0] 99)
theorem boxes {w wr:World} {kd at_:Int} {name text:ByteArray} {av:Value} (hb:Below (w.heap.size + 2) (w2t w kd at_ name text av) wr) :
    wr.cell? ⟨w.heap.size,1,none⟩ = some (.int .i64 at_) ∧ wr.cell? ⟨w.heap.size,2,none⟩ = some (.string name) ∧ wr.cell? ⟨w.heap.size,4,none⟩ = some av ∧
    wr.cell? ⟨w.heap.size + 1,0,none⟩ = some (.string ⟨#[]⟩) ∧ wr.cell? ⟨w.heap.size + 1,1,none⟩ = some (.string ⟨#[]⟩) ∧ wr.cell? ⟨w.heap.size + 1,2,none⟩ = some (.slice none 0 0) ∧ wr.cell? ⟨w.heap.size + 1,3,none⟩ = some (.int .i64 0) ∧
    wr.frozen? ⟨w.heap.size + 1,0,none⟩ = false ∧ wr.frozen? ⟨w.heap.size + 1,1,none⟩ = false ∧ wr.frozen? ⟨w.heap.size + 1,2,none⟩ = false ∧ wr.frozen? ⟨w.heap.size + 1,3,none⟩ = false:=by
  have hs:(w.alloc (.cells #[.int .i64 kd,.int .i64 at_,.string name,.string text,av] 95)).heap.size = w.heap.size + 1:=by simp
  have c:=fun i v hv=>new_cell (w.alloc (.cells #[.int .i64 kd,.int .i64 at_,.string name,.string text,av] 95)) #[.string ⟨#[]⟩,.string ⟨#[]⟩,.slice none 0 0,.int .i64 0] 99 i (v:=v) hv
  have f:=new_free (w.alloc (.cells #[.int .i64 kd,.int .i64 at_,.string name,.string text,av] 95)) #[.string ⟨#[]⟩,.string ⟨#[]⟩,.slice none 0 0,.int .i64 0] 99
  rw [hs] at c f
  exact ⟨cellB hb (cellA (new_cell w _ _ 1 rfl) _) (by simp),cellB hb (cellA (new_cell w _ _ 2 rfl) _) (by simp),cellB hb (cellA (new_cell w _ _ 4 rfl) _) (by simp),
    cellB hb (c 0 _ rfl) (by simp),cellB hb (c 1 _ rfl) (by simp),cellB hb (c 2 _ rfl) (by simp),cellB hb (c 3 _ rfl) (by simp),freeB hb (f 0) (by simp),freeB hb (f 1) (by simp),freeB hb (f 2) (by simp),freeB hb (f 3) (by simp)⟩
abbrev w4s (w:World) (b:Nat) (x0 x1 x2 x3:Value):World:=(((w.setCell ⟨b,0,none⟩ x0).setCell ⟨b,1,none⟩ x1).setCell ⟨b,2,none⟩ x2).setCell ⟨b,3,none⟩ x3
theorem set4 (w:World) (b:Nat) (x0 x1 x2 x3:Value) {u0 u1 u2 u3:Value} (h0:w.cell? ⟨b,0,none⟩ = some u0) (h1:w.cell? ⟨b,1,none⟩ = some u1) (h2:w.cell? ⟨b,2,none⟩ = some u2) (h3:w.cell? ⟨b,3,none⟩ = some u3) :
    (w4s w b x0 x1 x2 x3).cell? ⟨b,0,none⟩ = some x0 ∧ (w4s w b x0 x1 x2 x3).cell? ⟨b,1,none⟩ = some x1 ∧ (w4s w b x0 x1 x2 x3).cell? ⟨b,2,none⟩ = some x2 ∧ (w4s w b x0 x1 x2 x3).cell? ⟨b,3,none⟩ = some x3:=by
  have o:∀ (w:World) (i j:Nat) (x:Value),i ≠ j → (w.setCell ⟨b,i,none⟩ x).cell? ⟨b,j,none⟩ = w.cell? ⟨b,j,none⟩:=fun w i j x hij=>World.cell?_setCell_other w _ _ _ (by simp [hij])
  refine ⟨?_,?_,?_,?_⟩
  ·rw [o _ 3 0 _ (by decide),o _ 2 0 _ (by decide),o _ 1 0 _ (by decide)]
   exact cellSet _ _ _ h0
  ·rw [o _ 3 1 _ (by decide),o _ 2 1 _ (by decide)]
   exact cellSet _ _ _ (by rw [o _ 0 1 _ (by decide)];exact h1)
  ·rw [o _ 3 2 _ (by decide)]
   exact cellSet _ _ _ (by rw [o _ 1 2 _ (by decide),o _ 0 2 _ (by decide)];exact h2)
  · exact cellSet _ _ _ (by rw [o _ 2 3 _ (by decide),o _ 1 3 _ (by decide),o _ 0 3 _ (by decide)];exact h3)
theorem set4_block (w:World) (b:Nat) (x0 x1 x2 x3:Value) (k:Nat) (hk:k ≠ b):(w4s w b x0 x1 x2 x3).heap[k]? = w.heap[k]?:=by
 rw [Below.heap_setCell _ ⟨b,3,none⟩ _ k hk,Below.heap_setCell _ ⟨b,2,none⟩ _ k hk,Below.heap_setCell _ ⟨b,1,none⟩ _ k hk,Below.heap_setCell _ ⟨b,0,none⟩ _ k hk]
theorem set4_below {B:Nat} {w0 w:World} (h:Below B w0 w) (b:Nat) (hb:B ≤ b) (x0 x1 x2 x3:Value):Below B w0 (w4s w b x0 x1 x2 x3) :=
  (((h.setCell (p:=⟨b,0,none⟩) hb _).setCell (p:=⟨b,1,none⟩) hb _).setCell (p:=⟨b,2,none⟩) hb _).setCell (p:=⟨b,3,none⟩) hb _
theorem tag_err {W:World} {b:Nat} {u0 u1 u2 u3:Value} (r0:W.cell? ⟨b,0,none⟩ = some u0) (r1:W.cell? ⟨b,1,none⟩ = some u1) (r2:W.cell? ⟨b,2,none⟩ = some u2) (r3:W.cell? ⟨b,3,none⟩ = some u3) {T:Array Value} {pl er:Int}
    (h4:T.getD 4 undef = .pointer (some ⟨b,0,none⟩)) (h5:T.getD 5 undef = .int .i64 pl) (h6:T.getD 6 undef = .int .i64 er) {R:Ending → World → Prop}
    (hR:R (.returned (.tuple #[zeroTag,.int .i64 pl,.int .i64 er])) (w4s W b (.string ⟨#[]⟩) (.string ⟨#[]⟩) (.slice none 0 0) (.int .i64 0)).drew) :
    bodyPost Tryz.prog Tryz.f65 R .ret { tmps:=T,defers:=[] } (w4s W b (.string ⟨#[]⟩) (.string ⟨#[]⟩) (.slice none 0 0) (.int .i64 0)).drew:=by
  obtain ⟨d0,d1,d2,d3⟩:=set4 W b (.string ⟨#[]⟩) (.string ⟨#[]⟩) (.slice none 0 0) (.int .i64 0) r0 r1 r2 r3
  refine bodyPost_ret (v:=.tuple #[zeroTag,.int .i64 pl,.int .i64 er]) ?_ rfl hR
  generalize w4s W b (.string ⟨#[]⟩) (.string ⟨#[]⟩) (.slice none 0 0) (.int .i64 0) = W2 at *
  rw [Array.getD_eq_getD_getElem?] at h4 h5 h6
  simp [results,Tryz.f65,go_sem,h4,h5,h6,d0,d1,d2,d3,zeroTag]
structure TSt (w3 wr:World) (sp lc:ByteArray) (at_:Int) (acc:List NA) (ga:Option Addr) (gn gc:Nat):Prop where
  hb:Below w3.heap.size w3 wr
  c0:wr.cell? ⟨w3.heap.size + 1,0,none⟩ = some (.string sp)
  c1:wr.cell? ⟨w3.heap.size + 1,1,none⟩ = some (.string lc)
  c2:wr.cell? ⟨w3.heap.size + 1,2,none⟩ = some (.slice ga gn gc)
  c3:wr.cell? ⟨w3.heap.size + 1,3,none⟩ = some (.int .i64 at_)
  f2:wr.frozen? ⟨w3.heap.size + 1,2,none⟩ = false
  had:NSet wr (w3.heap.size + 1 + 1) (acc.map (·.1))
  row:wr.ownsRow (w3.heap.size + 1 + 1 + 1) 70 4 (.slice ga gn gc) acc.length (flatN acc)
  big:w3.heap.size + 1 + 1 + 1 ≤ wr.heap.size
theorem TSt.below {w3 wr w':World} {sp lc:ByteArray} {at_:Int} {acc:List NA} {ga:Option Addr} {gn gc:Nat} (h:TSt w3 wr sp lc at_ acc ga gn gc) (hb:Below wr.heap.size wr w'):TSt w3 w' sp lc at_ acc ga gn gc :=
  have hbig:=h.big
  ⟨h.hb.trans (hb.mono (by omega)),cellB hb h.c0 (lt_of_cell h.c0),cellB hb h.c1 (lt_of_cell h.c1),cellB hb h.c2 (lt_of_cell h.c2),cellB hb h.c3 (lt_of_cell h.c3),freeB hb h.f2 (lt_of_cell h.c2),h.had.of_block (hb.block _ h.had.lt),ownsRow_of_blocks h.row (fun k hk=>hb.block k (h.row.lt k hk).2),Nat.le_trans hbig hb.size⟩
theorem TSt.alloc {w3 wr:World} {sp lc:ByteArray} {at_:Int} {acc:List NA} {ga:Option Addr} {gn gc:Nat} (h:TSt w3 wr sp lc at_ acc ga gn gc) (o:Obj):TSt w3 (wr.alloc o) sp lc at_ acc ga gn gc:=h.below ((Below.refl _ _).alloc (Nat.le_refl _) o)
theorem TSt_start (w3:World) (sp lc:ByteArray) (at_:Int) (c7:Array Value):TSt w3 (((w3.alloc (.cells c7 23)).alloc (.cells #[.string sp,.string lc,.slice none 0 0,.int .i64 at_] 99)).alloc (.map #[] 0)) sp lc at_ [] none 0 0:=by
 have hs:(w3.alloc (.cells c7 23)).heap.size = w3.heap.size + 1:=by simp
 have c:=fun i v hv=>new_cell (w3.alloc (.cells c7 23)) #[.string sp,.string lc,.slice none 0 0,.int .i64 at_] 99 i (v:=v) hv
 have f:=new_free (w3.alloc (.cells c7 23)) #[.string sp,.string lc,.slice none 0 0,.int .i64 at_] 99
 have hN:=NSet_made ((w3.alloc (.cells c7 23)).alloc (.cells #[.string sp,.string lc,.slice none 0 0,.int .i64 at_] 99))
 rw [hs] at c f
 simp only [World.size_alloc] at hN
 exact ⟨(((Below.refl _ _).alloc (Nat.le_refl _) _).alloc (by simp) _).alloc (by simp;omega) _,cellA (c 0 _ rfl) _,cellA (c 1 _ rfl) _,cellA (c 2 _ rfl) _,cellA (c 3 _ rfl) _,freeB ((Below.refl _ _).alloc (Nat.le_refl _) _) (f 2) (by simp),hN,World.ownsRow_nil _ _ _ _,by simp⟩
theorem cells_new (w:World) (l:List Value) (t:TypeId):∀ j u,l[j]? = some u → (w.alloc (.cells l.toArray t)).cell? ((⟨w.heap.size,0,none⟩:Addr).add j) = some u:=by
 intro j u h
 have ha:(⟨w.heap.size,0,none⟩:Addr).add j = ⟨w.heap.size,j,none⟩:=by unfold Addr.add;split <;> simp_all
 rw [ha]
 exact new_cell w _ t j (by simpa using h)
theorem infoA:(Tryz.prog.info? 70).map (fun i=>(i.zero,i.size,i.bytes)) = some (some (.agg #[.string ⟨#[]⟩,.string ⟨#[]⟩,.string ⟨#[]⟩,.int .i64 0]),4,56):=by kernel_rfl
theorem row_some {w:World} {base:Nat} {e:TypeId} {size n:Nat} {v:Value} {xs:List Value} (h:w.ownsRow base e size v (n + 1) xs):∃ g cap,v = .slice (some ⟨g,0,none⟩) (n + 1) cap:=by
 rcases h.2 with ⟨_,h0⟩ | ⟨g,cap,cur,rfl,_⟩
 · omega
 · exact ⟨g,cap,rfl⟩
theorem TSt.pushed {w3 wr w7 w9:World} {sp lc:ByteArray} {at_:Int} {acc:List NA} {ga:Option Addr} {gn gc:Nat} (h:TSt w3 wr sp lc at_ acc ga gn gc) (n:ByteArray × ByteArray) (vl:ByteArray) (pl:Int) (hN7:NSet w7 (w3.heap.size + 1 + 1) (acc.map (·.1) ++ [n])) (hg7:wr.grownBy w7 (some (w3.heap.size + 1 + 1)))
    (o:Obj) (hg9:(w7.alloc o).grownBy w9 (Value.slice ga gn gc).ownBlock) (g' n' cap':Nat) (hown9:w9.ownsRow (w3.heap.size + 1 + 1 + 1) 70 4 (.slice (some ⟨g',0,none⟩) n' cap') (acc.length + 1) (flatN acc ++ [.string n.1,.string n.2,.string vl,.int .i64 pl])) :
    TSt w3 (w9.setCell ⟨w3.heap.size + 1,2,none⟩ (.slice (some ⟨g',0,none⟩) n' cap')) sp lc at_ (acc ++ [(n,vl,pl)]) (some ⟨g',0,none⟩) n' cap':=by
  have hbig:=h.big
  have hs7:=hg7.size
  have hs9:=hg9.size
  simp only [World.size_alloc] at hs9
  have hrow:∀ j,(Value.slice ga gn gc).ownBlock = some j → w3.heap.size + 1 + 1 + 1 ≤ j:=fun j hj=>(h.row.lt j hj).1
  have keep:∀ j,j < w3.heap.size + 1 + 1 → w9.heap[j]? = wr.heap[j]?:=fun j hj=>by
   rw [hg9.block j (by simp;omega) (fun e=>by have:=hrow j e.symm;omega),Below.heap_alloc _ _ _ (by omega),hg7.block j (by omega) (fun e=>by cases e;omega)]
  have k0:∀ i v,wr.cell? ⟨w3.heap.size + 1,i,none⟩ = some v → w9.cell? ⟨w3.heap.size + 1,i,none⟩ = some v:=fun i v hv=>(World.cell?_of_block (keep (w3.heap.size + 1) (by omega))).trans hv
  have o2:∀ i v,i ≠ 2 → w9.cell? ⟨w3.heap.size + 1,i,none⟩ = some v → (w9.setCell ⟨w3.heap.size + 1,2,none⟩ (.slice (some ⟨g',0,none⟩) n' cap')).cell? ⟨w3.heap.size + 1,i,none⟩ = some v:=fun i v hi hv=>by
   rw [World.cell?_setCell_other _ _ _ _ (by intro e;cases e;exact hi rfl)];exact hv
  have hg':w3.heap.size + 1 + 1 + 1 ≤ g':=(hown9.lt g' rfl).1
  refine ⟨?_,o2 0 _ (by decide) (k0 0 _ h.c0),o2 1 _ (by decide) (k0 1 _ h.c1),cellSet _ _ _ (k0 2 _ h.c2),o2 3 _ (by decide) (k0 3 _ h.c3),?_,?_,?_,?_⟩
  ·refine Below.setCell ?_ (p:=⟨w3.heap.size + 1,2,none⟩) (by simp) _
   exact ⟨(hg9.os.trans hg7.os).trans h.hb.os,(hg9.tape.trans hg7.tape).trans h.hb.tape,(hg9.output.trans hg7.output).trans h.hb.output,by have:=h.hb.size;omega,fun j hj=>(keep j (by omega)).trans (h.hb.block j hj)⟩
  ·rw [World.frozen?_setCell,World.frozen?_of_block (keep (w3.heap.size + 1) (by omega))]
   exact h.f2
  ·rw [List.map_append]
   refine hN7.of_block ?_
   rw [Below.heap_setCell _ ⟨w3.heap.size + 1,2,none⟩ _ _ (by simp),hg9.block _ (by simp;omega) (fun e=>by have:=hrow _ e.symm;omega),Below.heap_alloc _ _ _ (by omega)]
  ·have e1:flatN (acc ++ [(n,vl,pl)]) = flatN acc ++ [.string n.1,.string n.2,.string vl,.int .i64 pl]:=by simp [flatN]
   rw [e1,List.length_append]
   refine ownsRow_of_blocks hown9 (fun j hj=>Below.heap_setCell _ ⟨w3.heap.size + 1,2,none⟩ _ _ ?_)
   have:=(hown9.lt j hj).1
   simp
   omega
  ·simp [World.setCell]
   omega
set_option maxRecDepth 100000 in
set_option maxHeartbeats 8000000 in
theorem tag_c {w:World} {p:Nat} {sv:Value} {L:List Binds} (h:Sc w p sv L) (hL:L.length < 1099511627776) (kd at_:Int) (name text:ByteArray) (av:Value) (xs:List XA) (hn:name.size < 4398046511104) (hx:XAttrs w av xs) (hxl:xs.length < 1099511627776) (hxs:∀ x ∈ xs,x.1.size < 4398046511104) :
    Calls Tryz.prog 65 #[.pointer (some ⟨p,0,none⟩),.agg #[.int .i64 kd,.int .i64 at_,.string name,.string text,av]] w fun e W'=>TagOut w.heap.size at_ (tagS L name at_ xs) e W' ∧ Below w.heap.size w W':=by
  obtain ⟨aa,acap,rfl,hxc⟩:=hx
  have hr:=fun (w':World) (h':Sc w' p sv L)=>Resolve_c h' hL name hn
  unfold tagS
  generalize resolveS L name false = s at *
  obtain ⟨⟨sp,lc⟩,er⟩:=s
  unfold nameV at hr
  simp only at hr ⊢
  have hmm:=@run_makeMap Tryz.prog
  cases hp:Lib.hasPrefix name.data.toList ownC with
  | true=>
   rw [if_pos rfl]
   go_enter Tryz.func65,Tryz.ntmps65
   go_wp2_with (first | (go_at_call 85;refine (hr _ ((h.alloc _).alloc _)).mono ?_;rintro e w3 ⟨rfl,hb3⟩;have hb3':Below (w.heap.size + 2) (w2t w kd at_ name text (.slice aa xs.length acap)) w3:=hb3.mono (by simp);obtain ⟨k1,k2,k4,_⟩:=boxes hb3';have k2':=fun o=>cellA k2 o;have hbo:=hb3'.trans ((Below.refl (w.heap.size + 2) w3).alloc (by have:=hb3'.size;simpa using this) (.cells #[.string sp,.string lc] 23));obtain ⟨k1',_,_,r0,r1,r2,r3,g0,g1,g2,g3⟩:=boxes hbo;have hB3:Below w.heap.size w w3:=(((Below.refl _ w).alloc (Nat.le_refl _) _).alloc (by simp) _).trans (hb3.mono (by simp;omega));have hBo:=hB3.trans ((Below.refl w.heap.size w3).alloc hB3.size (.cells #[.string sp,.string lc] 23))) | (go_at_call 86;refine (hasPrefix_c _ _ _).mono ?_;rintro e w4 ⟨rfl,rfl⟩;rw [hp]))
   go_region
   all_goals
    go_wp2
    refine tag_err r0 r1 r2 r3 rfl rfl rfl ⟨?_,(set4_below hBo _ (by simp) _ _ _ _).drew⟩
    rfl
  | false=>
   by_cases he:er = 0
   ·subst he
    rw [if_neg (by simp),if_neg (by simp)]
    go_enter Tryz.func65,Tryz.ntmps65
    go_wp2_with (first | (go_at_call 85;refine (hr _ ((h.alloc _).alloc _)).mono ?_;rintro e w3 ⟨rfl,hb3⟩;have hb3':Below (w.heap.size + 2) (w2t w kd at_ name text (.slice aa xs.length acap)) w3:=hb3.mono (by simp);obtain ⟨k1,k2,k4,_⟩:=boxes hb3';have k1':=fun o=>cellA k1 o;have k2':=fun o=>cellA k2 o;have k1'':=fun o o'=>cellA (cellA k1 o) o';have k4'':=fun o o' o2=>cellA (cellA (cellA k4 o) o') o2) | (go_at_call 86;refine (hasPrefix_c _ _ _).mono ?_;rintro e w4 ⟨rfl,rfl⟩;rw [hp]))
    have hB3:Below w.heap.size w w3:=(((Below.refl _ w).alloc (Nat.le_refl _) _).alloc (by simp) _).trans (hb3.mono (by simp;omega))
    have hS3:Sc w3 p sv L:=((h.alloc _).alloc _).below hb3
    have hst:=TSt_start w3 sp lc at_ #[.string sp,.string lc]
    clear k1 k2 k4 k1' k2' k1'' k4''
    generalize htt:tagTo L xs [] = res
    go_loopw [41] (fun i wr=>∃ (k:Nat) (acc:List NA) (ga:Option Addr) (gn gc:Nat),k ≤ xs.length ∧ i = .int .i64 k ∧ tagTo L (xs.drop k) acc = res ∧ acc.length ≤ k ∧ TSt w3 wr sp lc at_ acc ga gn gc)
      (fun i _=>xs.length - (intOf i).toNat)
    case atStart=>exact ⟨0,[],none,0,0,Nat.zero_le _,rfl,htt,Nat.le_refl _,hst⟩
    case round=>
     clear hst
     obtain ⟨k,acc,ga,gn,gc,hk,rfl,hto,hacc,hst⟩:=hrel
     have hBw:Below w.heap.size w wr:=hB3.trans (hst.hb.mono hB3.size)
     have hc0:=hst.c0
     have hc1:=hst.c1
     have hc2:=hst.c2
     have hc3:=hst.c3
     by_cases hlt:k < xs.length
     ·obtain ⟨q,rfl,e0,e1,e2⟩:=hxc k hlt
      have hdrop:xs.drop k = xs[k] :: xs.drop (k + 1):=List.drop_eq_getElem_cons hlt
      have hnm:=hxs xs[k] (List.getElem_mem hlt)
      have x0:=cellB hBw e0 (lt_of_cell e0)
      have x1:=cellB hBw e1 (lt_of_cell e1)
      have x2:=cellB hBw e2 (lt_of_cell e2)
      rw [hdrop] at hto
      clear e0 e1 e2 hdrop hxc hxs hr
      generalize xs[k] = xk at hto hnm x0 x1 x2
      obtain ⟨nm,vl,pl⟩:=xk
      simp only at hnm x0 x1 x2
      have hbn:=fun (w':World)=>binds_c nm w'
      unfold tagTo at hto
      simp only at hto
      generalize bindsS nm = bv at hbn hto
      obtain ⟨pf,is⟩:=bv
      simp only at hbn hto
      cases is with
      | true=>
       rw [if_pos rfl] at hto
       go_wp2_with (go_at_call 63;refine (hbn _).mono ?_;rintro e w5 ⟨rfl,hb5⟩;have hst5:=(hst.alloc _).below hb5)
       go_roundw
       case rel=>exact ⟨k + 1,acc,ga,gn,gc,by omega,by simp,hto,by omega,hst5⟩
       case measure=>simp [intOf];omega
      | false=>
       rw [if_neg (by simp)] at hto
       have hrv:=fun (w':World) (h':Sc w' p sv L)=>resolve_c h' hL nm hnm true
       have hSr:=hS3.below hst.hb
       generalize resolveS L nm true = rv at hrv hto
       obtain ⟨⟨s2,l2⟩,er2⟩:=rv
       unfold nameV at hrv
       simp only at hrv hto
       by_cases he2:er2 = 0
       ·subst he2
        rw [if_neg (by simp)] at hto
        cases hhd:isHad (acc.map (·.1)) (s2,l2) with
        | true=>
         rw [hhd,if_pos rfl] at hto
         have hnb:¬ (w.heap.size + 1 = wr.heap.size):=by have:=hst.big;have:=hb3'.size;simp at this;omega
         have hnb':¬ (wr.heap.size = w.heap.size + 1):=fun e=>hnb e.symm
         go_wp2_with (first | (go_at_call 63;refine (hbn _).mono ?_;rintro e w5 ⟨rfl,hb5⟩;have y0:w5.cell? ⟨wr.heap.size,0,none⟩ = some (.string nm):=cellB hb5 (new_cell wr #[.string nm,.string vl,.int .i64 pl] _ 0 rfl) (by simp);have y2:w5.cell? ⟨wr.heap.size,2,none⟩ = some (.int .i64 pl):=cellB hb5 (new_cell wr #[.string nm,.string vl,.int .i64 pl] _ 2 rfl) (by simp)) | (go_at_call 87;refine (hrv _ ((hSr.alloc _).below hb5)).mono ?_;rintro e w6 ⟨rfl,hb6⟩;have hst6:=((hst.alloc _).below hb5).below hb6;have hlook:=(hst6.alloc (.cells #[.string s2,.string l2] 23)).had.look (s2,l2);unfold nameV at hlook;rw [hhd] at hlook;have z2:=cellA (cellB hb6 y2 (lt_of_cell y2)) (.cells #[.string s2,.string l2] 23);have hst6':=hst6.alloc (.cells #[.string s2,.string l2] 23);have hB6:Below w.heap.size w (w6.alloc (.cells #[.string s2,.string l2] 23)):=hB3.trans (hst6'.hb.mono hB3.size);obtain ⟨_,_,_,r0,r1,r2,r3,g0,g1,g2,g3⟩:=boxes (hb3'.trans (hst6'.hb.mono (by have:=hb3'.size;simpa using this)))))
         go_region
         all_goals
          go_wp2
          refine tag_err r0 r1 r2 r3 rfl rfl rfl ⟨?_,(set4_below hB6 _ (by simp) _ _ _ _).drew⟩
          rw [show tagTo L xs [] = .error (pl,5) from htt.trans hto.symm]
          rfl
        | false=>
         rw [hhd,if_neg (by simp)] at hto
         obtain ⟨i0,hi,hz0,hz1,hz2⟩:=info_parts infoA
         have hnot:(s2,l2) ∉ acc.map (·.1):=fun hm=>by rw [(isHad_iff _ _).2 hm] at hhd;cases hhd
         go_wp2_with (first | (go_at_call 63;refine (hbn _).mono ?_;rintro e w5 ⟨rfl,hb5⟩;have y0:w5.cell? ⟨wr.heap.size,0,none⟩ = some (.string nm):=cellB hb5 (new_cell wr #[.string nm,.string vl,.int .i64 pl] _ 0 rfl) (by simp);have y1:w5.cell? ⟨wr.heap.size,1,none⟩ = some (.string vl):=cellB hb5 (new_cell wr #[.string nm,.string vl,.int .i64 pl] _ 1 rfl) (by simp);have y2:w5.cell? ⟨wr.heap.size,2,none⟩ = some (.int .i64 pl):=cellB hb5 (new_cell wr #[.string nm,.string vl,.int .i64 pl] _ 2 rfl) (by simp)) | (go_at_call 87;refine (hrv _ ((hSr.alloc _).below hb5)).mono ?_;rintro e w6 ⟨rfl,hb6⟩;have hst6:=((hst.alloc _).below hb5).below hb6;have hlook:=(hst6.alloc (.cells #[.string s2,.string l2] 23)).had.look (s2,l2);unfold nameV at hlook;rw [hhd] at hlook) | (at_mapUpdate;refine wpList_store_nset rfl _ _ _ rfl rfl (hst6.alloc (.cells #[.string s2,.string l2] 23)).had (s2,l2) rfl rfl hnot ?_;intro w7 hN7 hg7;have hst6':=hst6.alloc (.cells #[.string s2,.string l2] 23);have hbig6:=hst6.big;have z2:=hg7.cell hst6'.c2 (by simp);have zs:=hg7.cell (new_cell w6 #[.string s2,.string l2] 23 0 rfl) (by simp;omega);have zl:w7.cell? ⟨w6.heap.size,1,none⟩ = some (.string l2):=hg7.cell (new_cell w6 #[.string s2,.string l2] 23 1 rfl) (by simp;omega);have hbig0:=hst.big;have zv:=hg7.cell (cellA (cellB hb6 y1 (lt_of_cell y1)) (.cells #[.string s2,.string l2] 23)) (by simp;omega);have zp:=hg7.cell (cellA (cellB hb6 y2 (lt_of_cell y2)) (.cells #[.string s2,.string l2] 23)) (by simp;omega);have hrow7:=ownsRow_of_blocks hst6'.row (fun j hj=>hg7.block j (hst6'.row.lt j hj).2 (fun e=>by have:=(hst6'.row.lt j hj).1;cases e;omega))) | (at_builtin;go_loud (refine wpList_append_own_at _ rfl _ _ 52 rfl (w3.heap.size + 1 + 1 + 1) 70 i0 (.agg #[.string ⟨#[]⟩,.string ⟨#[]⟩,.string ⟨#[]⟩,.int .i64 0]) 4 56 Tryz.underlying52 hi hz0 hz1 hz2 rfl (by decide) _ _ _ rfl (ownsRow_of_blocks hrow7 (fun j hj=>Below.heap_alloc _ _ _ (hrow7.lt j hj).2)) ⟨w7.heap.size,0,none⟩ 1 1 [.string s2,.string l2,.string vl,.int .i64 pl] rfl rfl (cells_new w7 [.string s2,.string l2,.string vl,.int .i64 pl] 70) (by simp [Value.oneCell']) (by unfold maxLen;omega) (by omega) (by have:=hst6'.big;have:=hg7.size;simp;omega) ?_;intro v9 w9 hown9 hg9 _ _;obtain ⟨g9,cap9,rfl⟩:=row_some hown9;have q2:w9.cell? ⟨w3.heap.size + 1,2,none⟩ = some (.slice ga gn gc):=hg9.cell (cellA z2 _) (fun e=>by have:=(hst6'.row.lt (w3.heap.size + 1) e.symm).1;omega);have qf:w9.frozen? ⟨w3.heap.size + 1,2,none⟩ = false:=(World.frozen?_of_block (hg9.block (w3.heap.size + 1) (by have:=lt_of_cell z2;simp at this ⊢;omega) (fun e=>by have:=(hst6'.row.lt (w3.heap.size + 1) e.symm).1;omega))).trans ((World.frozen?_of_block (Below.heap_alloc _ _ _ (lt_of_cell z2))).trans ((World.frozen?_of_block (hg7.block (w3.heap.size + 1) (lt_of_cell hst6'.c2) (by simp))).trans hst6'.f2));have hpush:=hst6'.pushed (s2,l2) vl pl hN7 hg7 _ hg9 g9 _ cap9 hown9)))
         exact ⟨⟨k + 1,_,_,_,_,by omega,by simp,hto,by simp;omega,hpush⟩,by simp [intOf];omega⟩
       ·rw [if_pos he2] at hto
        have hnb:¬ (w.heap.size + 1 = wr.heap.size):=by have:=hst.big;have:=hb3'.size;simp at this;omega
        have hnb':¬ (wr.heap.size = w.heap.size + 1):=fun e=>hnb e.symm
        have heb:(er2 == 0) = false:=by rw [beq_eq_false_iff_ne];exact he2
        have hnb2:(er2 != 0) = true:=by rw [bne_iff_ne];exact he2
        go_wp2_with (first | (go_at_call 63;refine (hbn _).mono ?_;rintro e w5 ⟨rfl,hb5⟩;have y0:w5.cell? ⟨wr.heap.size,0,none⟩ = some (.string nm):=cellB hb5 (new_cell wr #[.string nm,.string vl,.int .i64 pl] _ 0 rfl) (by simp);have y2:w5.cell? ⟨wr.heap.size,2,none⟩ = some (.int .i64 pl):=cellB hb5 (new_cell wr #[.string nm,.string vl,.int .i64 pl] _ 2 rfl) (by simp)) | (go_at_call 87;refine (hrv _ ((hSr.alloc _).below hb5)).mono ?_;rintro e w6 ⟨rfl,hb6⟩;have hst6:=((hst.alloc _).below hb5).below hb6;have z2:=cellA (cellB hb6 y2 (lt_of_cell y2)) (.cells #[.string s2,.string l2] 23);have hst6':=hst6.alloc (.cells #[.string s2,.string l2] 23);have hB6:Below w.heap.size w (w6.alloc (.cells #[.string s2,.string l2] 23)):=hB3.trans (hst6'.hb.mono hB3.size);obtain ⟨_,_,_,r0,r1,r2,r3,g0,g1,g2,g3⟩:=boxes (hb3'.trans (hst6'.hb.mono (by have:=hb3'.size;simpa using this)))))
        go_region
        all_goals
         go_wp2
         refine tag_err r0 r1 r2 r3 rfl rfl rfl ⟨?_,(set4_below hB6 _ (by simp) _ _ _ _).drew⟩
         rw [show tagTo L xs [] = .error (pl,er2) from htt.trans hto.symm]
         rfl
     ·obtain rfl:k = xs.length:=by omega
      obtain ⟨_,_,_,r0,r1,r2,r3,g0,g1,g2,g3⟩:=boxes (hb3'.trans (hst.hb.mono (by have:=hb3'.size;simp at this;omega)))
      rw [List.drop_length] at hto
      have hrow:=hst.row
      have hs3:w.heap.size + 2 ≤ w3.heap.size:=by have:=hb3'.size;simpa using this
      go_wp2
      obtain ⟨d0,d1,d2,d3⟩:=set4 wr (w.heap.size + 1) (.string sp) (.string lc) (.slice ga gn gc) (.int .i64 at_) r0 r1 r2 r3
      refine bodyPost_ret (v:=.tuple #[.agg #[.string sp,.string lc,.slice ga gn gc,.int .i64 at_],.int .i64 0,.int .i64 0]) (by simp [results,Tryz.f65,go_sem,d0,d1,d2,d3]) rfl ⟨?_,set4_below hBw _ (by simp) _ _ _ _⟩
      rw [show tagTo L xs [] = .ok acc from htt.trans hto.symm]
      refine ⟨_,rfl,?_⟩
      refine ownsRow_of_blocks (own_weaken hrow (by omega)) (fun j hj=>set4_block _ _ _ _ _ _ _ ?_)
      have:=(hrow.lt j hj).1
      omega
   ·rw [if_neg (by simp),if_pos he]
    have heb:(er == 0) = false:=by rw [beq_eq_false_iff_ne];exact he
    have hnb2:(er != 0) = true:=by rw [bne_iff_ne];exact he
    go_enter Tryz.func65,Tryz.ntmps65
    go_wp2_with (first | (go_at_call 85;refine (hr _ ((h.alloc _).alloc _)).mono ?_;rintro e w3 ⟨rfl,hb3⟩;have hb3':Below (w.heap.size + 2) (w2t w kd at_ name text (.slice aa xs.length acap)) w3:=hb3.mono (by simp);obtain ⟨k1,k2,k4,_⟩:=boxes hb3';have k2':=fun o=>cellA k2 o;have hbo:=hb3'.trans ((Below.refl (w.heap.size + 2) w3).alloc (by have:=hb3'.size;simpa using this) (.cells #[.string sp,.string lc] 23));obtain ⟨k1',_,_,r0,r1,r2,r3,g0,g1,g2,g3⟩:=boxes hbo;have hB3:Below w.heap.size w w3:=(((Below.refl _ w).alloc (Nat.le_refl _) _).alloc (by simp) _).trans (hb3.mono (by simp;omega));have hBo:=hB3.trans ((Below.refl w.heap.size w3).alloc hB3.size (.cells #[.string sp,.string lc] 23))) | (go_at_call 86;refine (hasPrefix_c _ _ _).mono ?_;rintro e w4 ⟨rfl,rfl⟩;rw [hp]))
    go_region
    all_goals
     go_wp2
     refine tag_err r0 r1 r2 r3 rfl rfl rfl ⟨?_,(set4_below hBo _ (by simp) _ _ _ _).drew⟩
     rfl
end Go.Proofs.YtbaokjfhigjpdaaGreatDoorN
end
section
set_option linter.unusedVariables false
namespace Go.Proofs.YtbaokjfhigjpdaaGreatDoorN
open Go.RowKit Go.Shelf Go.Proofs.YtbaokjfhigjpdaaGreatDoorW.PrintWords
def openTo:List XA → Binds → Except Int Binds
  | [],m=>.ok m
  | a :: t,m=>if (bindsS a.1).2 = false then openTo t m
    else if wrongS a.1 (bindsS a.1).1 a.2.1 = true then .error a.2.2
    else if (sget m (bindsS a.1).1).isSome = true then openTo t m
    else openTo t (m ++ [((bindsS a.1).1,a.2.1)])
def openEnd (L:List Binds) (name:ByteArray) (at_:Int) (xs:List XA) (r:Except Int Binds):Except (Int × Int) ((ByteArray × ByteArray) × List NA) × List Binds:=match r with
 | .error pl=>(.error (pl,2),L)
 | .ok m=>match tagS (L ++ [m]) name at_ xs with
  | .error e=>(.error e,L)
  | .ok r=>(.ok r,L ++ [m])
def openS (L:List Binds) (name:ByteArray) (at_:Int) (xs:List XA):=openEnd L name at_ xs (openTo xs [])
def OpenOut (w:World) (p:Nat) (sv:Value) (at_:Int) (r:Except (Int × Int) ((ByteArray × ByteArray) × List NA) × List Binds) (e:Ending) (W:World):Prop :=
  ∃ sv',Sc W p sv' r.2 ∧ Fr w W p sv ∧ (sv'.ownBlock = sv.ownBlock ∨ ∃ k,sv'.ownBlock = some k ∧ w.heap.size ≤ k) ∧ match r.1 with
  | .error (pl,er)=>e = .returned (.tuple #[zeroTag,.int .i64 pl,.int .i64 er])
  | .ok (n,l)=>∃ sl,e = .returned (.tuple #[.agg #[.string n.1,.string n.2,sl,.int .i64 at_],.int .i64 0,.int .i64 0]) ∧ W.ownsRow w.heap.size 70 4 sl l.length (flatN l) ∧ ∀ k,sl.ownBlock = some k → sv'.ownBlock ≠ some k ∧ k ≠ p
theorem binds_size (s:ByteArray):(bindsS s).1.size ≤ s.size:=by
 unfold bindsS
 split
 · exact Nat.zero_le _
 ·simp only [mkB_size]
  unfold Lib.trimPrefix
  split
  · rw [List.length_drop,data_length];omega
  · rw [data_length];exact Nat.le_refl _
theorem boxes0 {w wr:World} {kd at_:Int} {name text:ByteArray} {av:Value} (hb:Below (w.heap.size + 2) (w2t w kd at_ name text av) wr) :
    wr.cell? ⟨w.heap.size,0,none⟩ = some (.int .i64 kd) ∧ wr.cell? ⟨w.heap.size,3,none⟩ = some (.string text) :=
  ⟨cellB hb (cellA (new_cell w _ _ 0 rfl) _) (by simp),cellB hb (cellA (new_cell w _ _ 3 rfl) _) (by simp)⟩
theorem w2t_below (w:World) (kd at_:Int) (name text:ByteArray) (av:Value):Below w.heap.size w (w2t w kd at_ name text av):=((Below.refl _ w).alloc (Nat.le_refl _) _).alloc (by simp) _
theorem open_err {W:World} {b:Nat} {u0 u1 u2 u3:Value} (r0:W.cell? ⟨b,0,none⟩ = some u0) (r1:W.cell? ⟨b,1,none⟩ = some u1) (r2:W.cell? ⟨b,2,none⟩ = some u2) (r3:W.cell? ⟨b,3,none⟩ = some u3) {T:Array Value} {pl er:Int}
    (h4:T.getD 4 undef = .pointer (some ⟨b,0,none⟩)) (h5:T.getD 5 undef = .int .i64 pl) (h6:T.getD 6 undef = .int .i64 er) {R:Ending → World → Prop}
    (hR:R (.returned (.tuple #[zeroTag,.int .i64 pl,.int .i64 er])) (w4s W b (.string ⟨#[]⟩) (.string ⟨#[]⟩) (.slice none 0 0) (.int .i64 0)).drew) :
    bodyPost Tryz.prog Tryz.f41 R .ret { tmps:=T,defers:=[] } (w4s W b (.string ⟨#[]⟩) (.string ⟨#[]⟩) (.slice none 0 0) (.int .i64 0)).drew:=by
  obtain ⟨d0,d1,d2,d3⟩:=set4 W b (.string ⟨#[]⟩) (.string ⟨#[]⟩) (.slice none 0 0) (.int .i64 0) r0 r1 r2 r3
  refine bodyPost_ret (v:=.tuple #[zeroTag,.int .i64 pl,.int .i64 er]) ?_ rfl hR
  generalize w4s W b (.string ⟨#[]⟩) (.string ⟨#[]⟩) (.slice none 0 0) (.int .i64 0) = W2 at *
  rw [Array.getD_eq_getD_getElem?] at h4 h5 h6
  simp [results,Tryz.f41,go_sem,h4,h5,h6,d0,d1,d2,d3,zeroTag]
theorem open_ret {W:World} {b:Nat} {u0 u1 u2 u3 x0 x1 x2 x3:Value} (r0:W.cell? ⟨b,0,none⟩ = some u0) (r1:W.cell? ⟨b,1,none⟩ = some u1) (r2:W.cell? ⟨b,2,none⟩ = some u2) (r3:W.cell? ⟨b,3,none⟩ = some u3) {T:Array Value} {pl er:Int}
    (h4:T.getD 4 undef = .pointer (some ⟨b,0,none⟩)) (h5:T.getD 5 undef = .int .i64 pl) (h6:T.getD 6 undef = .int .i64 er) {R:Ending → World → Prop}
    (hR:R (.returned (.tuple #[.agg #[x0,x1,x2,x3],.int .i64 pl,.int .i64 er])) (w4s W b x0 x1 x2 x3)) :
    bodyPost Tryz.prog Tryz.f41 R .ret { tmps:=T,defers:=[] } (w4s W b x0 x1 x2 x3):=by
  obtain ⟨d0,d1,d2,d3⟩:=set4 W b x0 x1 x2 x3 r0 r1 r2 r3
  refine bodyPost_ret (v:=.tuple #[.agg #[x0,x1,x2,x3],.int .i64 pl,.int .i64 er]) ?_ rfl hR
  generalize w4s W b x0 x1 x2 x3 = W2 at *
  rw [Array.getD_eq_getD_getElem?] at h4 h5 h6
  simp [results,Tryz.f41,go_sem,h4,h5,h6,d0,d1,d2,d3]
theorem infoM:(Tryz.prog.info? 161).map (fun i=>(i.zero,i.size,i.bytes)) = some (some (.map none),1,8):=by kernel_rfl
theorem row_slice {w:World} {base n:Nat} {e:TypeId} {size:Nat} {v:Value} {xs:List Value} (h:w.ownsRow base e size v n xs):∃ a c,v = .slice a n c:=by
 rcases h.2 with ⟨rfl,h0⟩ | ⟨g,cap,cur,rfl,_⟩
 · exact ⟨none,0,by rw [h0]⟩
 · exact ⟨_,_,rfl⟩
theorem map_not_row {w:World} {b n:Nat} {m:Binds} {base:Nat} {e:TypeId} {size:Nat} {v:Value} {xs:List Value} (hM:SMap w b m) (h:w.ownsRow base e size v n xs):v.ownBlock ≠ some b:=by
 intro hv
 obtain ⟨es,clock,hb,_⟩:=hM.out
 rcases h.2 with ⟨rfl,_⟩ | ⟨g,cap,cur,rfl,_,hg,_⟩
 · simp [Value.ownBlock] at hv
 ·simp [Value.ownBlock] at hv
  subst hv
  rw [hb] at hg
  cases hg
theorem Sc.pushed {wr w9:World} {p:Nat} {sv:Value} {L:List Binds} (h:Sc wr p sv L) {b:Nat} {m:Binds} (hM:SMap wr b m) {els:List (Nat × Binds)} (h1:wr.ownsRow 0 161 1 sv els.length (els.map fun e=>Value.map (some e.1))) (h2:els.map (·.2) = L) (h3:∀ e ∈ els,SMap wr e.1 e.2)
    (o:Obj) {v':Value} (hown9:w9.ownsRow 0 161 1 v' (els.length + 1) ((els.map fun e=>Value.map (some e.1)) ++ [.map (some b)])) (hg9:(wr.alloc o).grownBy w9 sv.ownBlock) (hloc:v'.ownBlock = sv.ownBlock ∨ v'.ownBlock = some (wr.alloc o).heap.size) :
    Sc (w9.setCell ⟨p,0,none⟩ v') p v' (L ++ [m]) ∧ Fr wr (w9.setCell ⟨p,0,none⟩ v') p sv ∧ (v'.ownBlock = sv.ownBlock ∨ ∃ k,v'.ownBlock = some k ∧ wr.heap.size ≤ k):=by
  have hp:=h.lt
  have keep:∀ k,k < wr.heap.size → sv.ownBlock ≠ some k → w9.heap[k]? = wr.heap[k]?:=fun k hk hne=>by
   rw [hg9.block k (by simp;omega) (fun e=>hne e.symm),Below.heap_alloc _ _ _ hk]
  have hap:v'.ownBlock ≠ some p:=by
   rcases hloc with e | e
   · rw [e];exact h.apart
   · rw [e];intro e2;simp at e2;omega
  have hmap:∀ (c:Nat) (mm:Binds),SMap wr c mm → SMap (w9.setCell ⟨p,0,none⟩ v') c mm:=fun c mm hm=>(hm.of_block (keep c hm.lt (map_not_row hm h1))).setCell _ _
  refine ⟨⟨cellSet _ _ _ ((World.cell?_of_block (keep p hp h.apart)).trans h.cell),?_,⟨els ++ [(b,m)],?_,by rw [List.map_append,h2];rfl,?_⟩,hap,typ_set (by obtain ⟨v,hv⟩:=h.typ;exact ⟨v,(keep p hp h.apart).trans hv⟩)⟩,⟨hg9.os,hg9.tape,hg9.output,?_,fun k hk hkp hne=>?_⟩,?_⟩
  ·rw [World.frozen?_setCell,World.frozen?_of_block (keep p hp h.apart)]
   exact h.frozen
  ·have:=ownsRow_of_blocks (w':=w9.setCell ⟨p,0,none⟩ v') hown9 (fun j hj=>Below.heap_setCell _ ⟨p,0,none⟩ _ _ (fun e=>hap (by rw [hj];exact congrArg some e)))
   simpa using this
  ·intro e he
   rcases List.mem_append.1 he with he | he
   · exact hmap _ _ (h3 e he)
   ·simp at he
    subst he
    exact hmap _ _ hM
  ·have:=hg9.size
   simp [World.setCell] at this ⊢
   omega
  ·rw [Below.heap_setCell _ ⟨p,0,none⟩ _ _ hkp]
   exact keep k hk hne
  ·rcases hloc with e | e
   · exact .inl e
   · exact .inr ⟨_,e,by simp⟩
theorem XAttrs.fr {w w':World} {p:Nat} {sv av:Value} {xs:List XA} (h:XAttrs w av xs) (hF:Fr w w' p sv) (hav:xs ≠ [] → ∀ k,av.ownBlock = some k → sv.ownBlock ≠ some k ∧ k ≠ p):XAttrs w' av xs:=by
 obtain ⟨a,cap,rfl,h⟩:=h
 refine ⟨a,cap,rfl,fun i hi=>?_⟩
 obtain ⟨q,ha,c0,c1,c2⟩:=h i hi
 obtain ⟨d1,d2⟩:=hav (fun e=>by subst e;exact absurd hi (Nat.not_lt_zero _)) q.block (by rw [ha];rfl)
 have hl:=lt_of_cell c0
 rw [add_block] at hl
 have hb:=hF.block q.block hl d2 d1
 exact ⟨q,ha,(World.cell?_of_block (by rw [add_block];exact hb)).trans c0,(World.cell?_of_block (by simp only [add_block];exact hb)).trans c1,(World.cell?_of_block (by simp only [add_block];exact hb)).trans c2⟩
theorem Sc.setOther {w:World} {q:Nat} {sv:Value} {L:List Binds} (h:Sc w q sv L) (b i:Nat) (x:Value) (hb:b ≠ q) (hs:sv.ownBlock ≠ some b):Sc (w.setCell ⟨b,i,none⟩ x) q sv L:=by
 obtain ⟨els,h1,h2,h3⟩:=h.rows
 exact ⟨cellS h.cell (fun e=>hb e.symm),by rw [World.frozen?_setCell];exact h.frozen,⟨els,ownsRow_of_blocks h1 (fun j hj=>Below.heap_setCell _ ⟨b,i,none⟩ _ _ (fun e=>hs (by rw [hj];exact congrArg some e))),h2,fun e he=>(h3 e he).setCell _ _⟩,h.apart,by obtain ⟨v,hv⟩:=h.typ;exact ⟨v,(Below.heap_setCell _ ⟨b,i,none⟩ _ _ (fun e=>hb e.symm)).trans hv⟩⟩
theorem Sc.set4 {w:World} {q:Nat} {sv:Value} {L:List Binds} (h:Sc w q sv L) (b:Nat) (x0 x1 x2 x3:Value) (hb:b ≠ q) (hs:sv.ownBlock ≠ some b):Sc (w4s w b x0 x1 x2 x3) q sv L :=
  (((h.setOther b 0 x0 hb hs).setOther b 1 x1 hb hs).setOther b 2 x2 hb hs).setOther b 3 x3 hb hs
theorem Fr.then {a b c:World} {p:Nat} {sv:Value} (h:Fr a b p sv) (hB:Below a.heap.size b c):Fr a c p sv :=
  ⟨hB.os.trans h.os,hB.tape.trans h.tape,hB.output.trans h.output,Nat.le_trans h.size hB.size,fun k hk hp hs=>(hB.block k hk).trans (h.block k hk hp hs)⟩
theorem Fr.ahead {a b c:World} {p:Nat} {sv:Value} (hB:Below a.heap.size a b) (h:Fr b c p sv):Fr a c p sv :=
  ⟨h.os.trans hB.os,h.tape.trans hB.tape,h.output.trans hB.output,Nat.le_trans hB.size h.size,fun k hk hp hs=>(h.block k (Nat.lt_of_lt_of_le hk hB.size) hp hs).trans (hB.block k hk)⟩
theorem tagTo_err {L:List Binds}:∀ (xs:List XA) (acc:List NA) {pl er:Int},tagTo L xs acc = .error (pl,er) → er ≠ 0
  | [],acc,pl,er,h=>by simp [tagTo] at h
  | a :: t,acc,pl,er,h=>by
   unfold tagTo at h
   split at h
   · exact tagTo_err t acc h
   ·split at h
    ·rename_i h2
     cases h
     exact h2
    ·split at h
     ·cases h
      decide
     · exact tagTo_err t _ h
theorem tagS_err {L:List Binds} {name:ByteArray} {at_:Int} {xs:List XA} {pl er:Int} (h:tagS L name at_ xs = .error (pl,er)):er ≠ 0:=by
 unfold tagS at h
 split at h
 ·cases h
  decide
 ·split at h
  ·rename_i h2
   cases h
   exact h2
  ·unfold tagEnd at h
   cases hr:tagTo L xs [] with
   | error e=>
    rw [hr] at h
    cases h
    exact tagTo_err xs [] hr
   | ok l=>
    rw [hr] at h
    cases h
set_option maxRecDepth 100000 in
set_option maxHeartbeats 8000000 in
theorem open_c0 {w:World} {p:Nat} {sv:Value} {L:List Binds} (h:Sc w p sv L) (hL:L.length + 1 < 1099511627776) (kd at_:Int) (name text:ByteArray) (av:Value) (xs:List XA) (hn:name.size < 4398046511104) (hx:XAttrs w av xs) (hxl:xs.length < 1099511627776) (hxs:∀ x ∈ xs,x.1.size < 4398046511104) (hav:xs ≠ [] → ∀ k,av.ownBlock = some k → sv.ownBlock ≠ some k ∧ k ≠ p) :
    Calls Tryz.prog 41 #[.pointer (some ⟨p,0,none⟩),.agg #[.int .i64 kd,.int .i64 at_,.string name,.string text,av]] w fun e W'=>OpenOut w p sv at_ (openS L name at_ xs) e W':=by
  have hx0:=hx
  have hxs0:=hxs
  obtain ⟨aa,acap,rfl,hxc⟩:=hx
  have hmm:=@run_makeMap Tryz.prog
  have hW2:=w2t_below w kd at_ name text (.slice aa xs.length acap)
  obtain ⟨q0,q3⟩:=boxes0 ((Below.refl (w.heap.size + 2) (w2t w kd at_ name text (.slice aa xs.length acap))).alloc (by simp) (.map #[] 0))
  obtain ⟨q1,q2,q4,_⟩:=boxes ((Below.refl (w.heap.size + 2) (w2t w kd at_ name text (.slice aa xs.length acap))).alloc (by simp) (.map #[] 0))
  have hM0:=SMap_made (w2t w kd at_ name text (.slice aa xs.length acap))
  have hB0:Below (w.heap.size + 2) (w2t w kd at_ name text (.slice aa xs.length acap)) ((w2t w kd at_ name text (.slice aa xs.length acap)).alloc (.map #[] 0)):=(Below.refl _ _).alloc (by simp) _
  have hs2:(w2t w kd at_ name text (.slice aa xs.length acap)).heap.size = w.heap.size + 1 + 1:=by simp
  rw [hs2] at hM0
  unfold openS
  go_enter Tryz.func41,Tryz.ntmps41
  go_wp2
  generalize htt:openTo xs [] = res
  go_loopw [21] (fun i wr=>∃ (k:Nat) (m:Binds),k ≤ xs.length ∧ i = .int .i64 k ∧ openTo (xs.drop k) m = res ∧ Below (w.heap.size + 2) (w2t w kd at_ name text (.slice aa xs.length acap)) wr ∧ SMap wr (w.heap.size + 1 + 1) m)
    (fun i _=>xs.length - (intOf i).toNat)
  case atStart=>exact ⟨0,[],Nat.zero_le _,rfl,htt,hB0,hM0⟩
  case round=>
   obtain ⟨k,m,hk,rfl,hto,hBr,hMr⟩:=hrel
   have hBw:Below w.heap.size w wr:=hW2.trans (hBr.mono (by omega))
   have hlt2:=hMr.lt
   by_cases hlt:k < xs.length
   ·obtain ⟨q,rfl,e0,e1,e2⟩:=hxc k hlt
    have hdrop:xs.drop k = xs[k] :: xs.drop (k + 1):=List.drop_eq_getElem_cons hlt
    have hnm:=hxs xs[k] (List.getElem_mem hlt)
    have x0:=cellB hBw e0 (lt_of_cell e0)
    have x1:=cellB hBw e1 (lt_of_cell e1)
    have x2:=cellB hBw e2 (lt_of_cell e2)
    rw [hdrop] at hto
    clear e0 e1 e2 hdrop hxc hxs
    generalize xs[k] = xk at hto hnm x0 x1 x2
    obtain ⟨nm,vl,pl⟩:=xk
    simp only at hnm x0 x1 x2
    have hbn:=fun (w':World)=>binds_c nm w'
    have hbs:=binds_size nm
    unfold openTo at hto
    simp only at hto
    generalize bindsS nm = bv at hbn hto hbs
    obtain ⟨pf,is⟩:=bv
    simp only at hbn hto hbs
    have hz:∀ W:World,(zeroValue 9).run Tryz.prog W = .ok (.string ⟨#[]⟩) W:=fun W=>by kernel_rfl
    have hnb:¬ (w.heap.size + 1 = wr.heap.size):=by omega
    have hnb':¬ (wr.heap.size = w.heap.size + 1):=by omega
    cases is with
    | false=>
     rw [if_pos rfl] at hto
     go_wp2_with (go_at_call 63;refine (hbn _).mono ?_;rintro e w5 ⟨rfl,hb5⟩;have hB5:Below (w.heap.size + 2) (w2t w kd at_ name text (.slice (some q) xs.length acap)) w5:=hBr.trans (((Below.refl (w.heap.size + 2) wr).alloc (by omega) (.cells #[.string nm,.string vl,.int .i64 pl] 163)).trans (hb5.mono (by simp;omega)));have hM5:SMap w5 (w.heap.size + 1 + 1) m:=(hMr.alloc _).of_block (hb5.block _ (by simp;omega));have y0:w5.cell? ⟨wr.heap.size,0,none⟩ = some (.string nm):=cellB hb5 (new_cell wr #[.string nm,.string vl,.int .i64 pl] _ 0 rfl) (by simp);have y1:w5.cell? ⟨wr.heap.size,1,none⟩ = some (.string vl):=cellB hb5 (new_cell wr #[.string nm,.string vl,.int .i64 pl] _ 1 rfl) (by simp);have y2:w5.cell? ⟨wr.heap.size,2,none⟩ = some (.int .i64 pl):=cellB hb5 (new_cell wr #[.string nm,.string vl,.int .i64 pl] _ 2 rfl) (by simp))
     go_roundw
     case rel=>exact ⟨k + 1,m,by omega,by simp,hto,hB5,hM5⟩
     case measure=>simp [intOf];omega
    | true=>
     rw [if_neg (by simp)] at hto
     have hwr:=fun (w':World)=>wrong_c nm pf vl (by omega) w'
     cases hw:wrongS nm pf vl with
     | true=>
      rw [hw,if_pos rfl] at hto
      rw [hw] at hwr
      go_wp2_with (first | (go_at_call 63;refine (hbn _).mono ?_;rintro e w5 ⟨rfl,hb5⟩;have hB5:Below (w.heap.size + 2) (w2t w kd at_ name text (.slice (some q) xs.length acap)) w5:=hBr.trans (((Below.refl (w.heap.size + 2) wr).alloc (by omega) (.cells #[.string nm,.string vl,.int .i64 pl] 163)).trans (hb5.mono (by simp;omega)));have hM5:SMap w5 (w.heap.size + 1 + 1) m:=(hMr.alloc _).of_block (hb5.block _ (by simp;omega));have y0:w5.cell? ⟨wr.heap.size,0,none⟩ = some (.string nm):=cellB hb5 (new_cell wr #[.string nm,.string vl,.int .i64 pl] _ 0 rfl) (by simp);have y1:w5.cell? ⟨wr.heap.size,1,none⟩ = some (.string vl):=cellB hb5 (new_cell wr #[.string nm,.string vl,.int .i64 pl] _ 1 rfl) (by simp);have y2:w5.cell? ⟨wr.heap.size,2,none⟩ = some (.int .i64 pl):=cellB hb5 (new_cell wr #[.string nm,.string vl,.int .i64 pl] _ 2 rfl) (by simp)) | (go_at_call 64;refine (hwr _).mono ?_;rintro e w6 ⟨rfl,hb6⟩;have h56:=hb5.size;have hB6:=hB5.trans (hb6.mono (by simp at h56;omega));have hM6:=hM5.of_block (hb6.block _ hM5.lt);have x1':=cellB hb6 y1 (lt_of_cell y1);have x2':=cellB hb6 y2 (lt_of_cell y2);obtain ⟨_,_,_,r0,r1,r2,r3,g0,g1,g2,g3⟩:=boxes hB6))
      go_region
      all_goals
       go_wp2
       refine open_err r0 r1 r2 r3 rfl rfl rfl ?_
       rw [show openTo xs [] = .error pl from htt.trans hto.symm]
       have hBB:=(set4_below (hW2.trans (hB6.mono (by omega))) (w.heap.size + 1) (by omega) (.string ⟨#[]⟩) (.string ⟨#[]⟩) (.slice none 0 0) (.int .i64 0)).drew
       exact ⟨sv,h.below hBB,Fr.of_below hBB,.inl rfl,rfl⟩
     | false=>
      rw [hw,if_neg (by simp)] at hto
      rw [hw] at hwr
      cases hg:sget m pf with
      | some v=>
       rw [hg,if_pos (show (some v).isSome = true from rfl)] at hto
       go_wp2_with (first | (go_at_call 63;refine (hbn _).mono ?_;rintro e w5 ⟨rfl,hb5⟩;have hB5:Below (w.heap.size + 2) (w2t w kd at_ name text (.slice (some q) xs.length acap)) w5:=hBr.trans (((Below.refl (w.heap.size + 2) wr).alloc (by omega) (.cells #[.string nm,.string vl,.int .i64 pl] 163)).trans (hb5.mono (by simp;omega)));have hM5:SMap w5 (w.heap.size + 1 + 1) m:=(hMr.alloc _).of_block (hb5.block _ (by simp;omega));have y0:w5.cell? ⟨wr.heap.size,0,none⟩ = some (.string nm):=cellB hb5 (new_cell wr #[.string nm,.string vl,.int .i64 pl] _ 0 rfl) (by simp);have y1:w5.cell? ⟨wr.heap.size,1,none⟩ = some (.string vl):=cellB hb5 (new_cell wr #[.string nm,.string vl,.int .i64 pl] _ 1 rfl) (by simp);have y2:w5.cell? ⟨wr.heap.size,2,none⟩ = some (.int .i64 pl):=cellB hb5 (new_cell wr #[.string nm,.string vl,.int .i64 pl] _ 2 rfl) (by simp)) | (go_at_call 64;refine (hwr _).mono ?_;rintro e w6 ⟨rfl,hb6⟩;have h56:=hb5.size;have hB6:=hB5.trans (hb6.mono (by simp at h56;omega));have hM6:=hM5.of_block (hb6.block _ hM5.lt);have x1':=cellB hb6 y1 (lt_of_cell y1);have x2':=cellB hb6 y2 (lt_of_cell y2);obtain ⟨_,_,_,r0,r1,r2,r3,g0,g1,g2,g3⟩:=boxes hB6) | (at_lookup;go_loud (refine wpList_lookup_smap_ok rfl _ _ 161 rfl 9 9 Tryz.underlying161 Tryz.underlying9 (hz w6) rfl hM6 pf rfl ?_;rw [hg])))
       exact ⟨⟨k + 1,m,by omega,by simp,hto,hB6,hM6⟩,by simp [intOf];omega⟩
      | none=>
       rw [hg,if_neg (by simp)] at hto
       go_wp2_with (first | (go_at_call 63;refine (hbn _).mono ?_;rintro e w5 ⟨rfl,hb5⟩;have hB5:Below (w.heap.size + 2) (w2t w kd at_ name text (.slice (some q) xs.length acap)) w5:=hBr.trans (((Below.refl (w.heap.size + 2) wr).alloc (by omega) (.cells #[.string nm,.string vl,.int .i64 pl] 163)).trans (hb5.mono (by simp;omega)));have hM5:SMap w5 (w.heap.size + 1 + 1) m:=(hMr.alloc _).of_block (hb5.block _ (by simp;omega));have y0:w5.cell? ⟨wr.heap.size,0,none⟩ = some (.string nm):=cellB hb5 (new_cell wr #[.string nm,.string vl,.int .i64 pl] _ 0 rfl) (by simp);have y1:w5.cell? ⟨wr.heap.size,1,none⟩ = some (.string vl):=cellB hb5 (new_cell wr #[.string nm,.string vl,.int .i64 pl] _ 1 rfl) (by simp);have y2:w5.cell? ⟨wr.heap.size,2,none⟩ = some (.int .i64 pl):=cellB hb5 (new_cell wr #[.string nm,.string vl,.int .i64 pl] _ 2 rfl) (by simp)) | (go_at_call 64;refine (hwr _).mono ?_;rintro e w6 ⟨rfl,hb6⟩;have h56:=hb5.size;have hB6:=hB5.trans (hb6.mono (by simp at h56;omega));have hM6:=hM5.of_block (hb6.block _ hM5.lt);have x1':=cellB hb6 y1 (lt_of_cell y1);have x2':=cellB hb6 y2 (lt_of_cell y2);obtain ⟨_,_,_,r0,r1,r2,r3,g0,g1,g2,g3⟩:=boxes hB6) | (at_lookup;go_loud (refine wpList_lookup_smap_ok rfl _ _ 161 rfl 9 9 Tryz.underlying161 Tryz.underlying9 (hz w6) rfl hM6 pf rfl ?_;rw [hg])) | (at_mapUpdate;go_loud (refine wpList_store_smap rfl _ _ _ 161 rfl 9 9 Tryz.underlying161 Tryz.underlying9 rfl hM6 pf vl rfl rfl hg ?_;intro w7 hM7 hg7;have hB7:=hB6.grown hg7 (by have:=hM6.lt;omega) (fun j e=>by cases e;omega))))
       exact ⟨⟨k + 1,_,by omega,by simp,hto,hB7,hM7⟩,by simp [intOf];omega⟩
   ·obtain rfl:k = xs.length:=by omega
    obtain ⟨k1,k2,k4,r0,r1,r2,r3,g0,g1,g2,g3⟩:=boxes hBr
    obtain ⟨k0,k3⟩:=boxes0 hBr
    have hSr:=h.below hBw
    have hcr:=hSr.cell
    have hfr:=hSr.frozen
    obtain ⟨els,e1,e2,e3⟩:=hSr.rows
    have hel:els.length = L.length:=by rw [← e2,List.length_map]
    obtain ⟨i0,hi,hz0,hz1,hz2⟩:=info_parts infoM
    have hpl:=h.lt
    obtain ⟨sa,scap,rfl⟩:=h.slice
    have hsv:∀ j,(Value.slice sa L.length scap).ownBlock = some j → j < w.heap.size:=fun j hj=>by
     obtain ⟨els',e1',_⟩:=h.rows
     exact (e1'.lt j hj).2
    have hrs:=hBr.size
    rw [hs2] at hrs
    have hXr:XAttrs wr (.slice aa xs.length acap) xs:=hx0.below hBw
    rw [List.drop_length] at hto
    have htt':openTo xs [] = .ok m:=htt.trans hto.symm
    have hLe:els.length + 1 < 1099511627776:=by omega
    clear hel
    cases hts:tagS (L ++ [m]) name at_ xs with
    | error er0=>
     obtain ⟨pl,er⟩:=er0
     have her:=tagS_err hts
     have heb:(er == 0) = false:=by rw [beq_eq_false_iff_ne];exact her
     have hnb2:(er != 0) = true:=by rw [bne_iff_ne];exact her
     go_wp2_with (first | (at_builtin;go_loud (refine wpList_append_own_at _ rfl _ _ 158 rfl 0 161 i0 (.map none) 1 8 Tryz.underlying158 hi hz0 hz1 hz2 rfl (by decide) _ _ _ rfl (ownsRow_of_blocks e1 (fun j hj=>Below.heap_alloc _ _ _ (e1.lt j hj).2)) ⟨wr.heap.size,0,none⟩ 1 1 [.map (some (w.heap.size + 1 + 1))] rfl rfl (cells_new wr [.map (some (w.heap.size + 1 + 1))] 161) (by simp [Value.oneCell']) (by unfold maxLen;omega) (by omega) (Nat.zero_le _) ?_;intro v9 w9 hown9 hg9 _ hloc9;obtain ⟨g9,cap9,rfl⟩:=row_some hown9;obtain ⟨hS10,hF10,hl10⟩:=hSr.pushed hMr e1 e2 e3 _ hown9 hg9 hloc9;have q2:w9.cell? ⟨p,0,none⟩ = some (.slice sa L.length scap):=(World.cell?_of_block (hg9.block p (by have:=hSr.lt;simp;omega) (fun e=>hSr.apart e.symm))).trans ((World.cell?_of_block (Below.heap_alloc _ _ _ hSr.lt)).trans hcr);have qf:w9.frozen? ⟨p,0,none⟩ = false:=(World.frozen?_of_block (hg9.block p (by have:=hSr.lt;simp;omega) (fun e=>hSr.apart e.symm))).trans ((World.frozen?_of_block (Below.heap_alloc _ _ _ hSr.lt)).trans hfr);have hFw:=Fr.ahead hBw hF10;have hXw:=hx0.fr hFw hav;have kk:∀ i v,wr.cell? ⟨w.heap.size,i,none⟩ = some v → (w9.setCell ⟨p,0,none⟩ (.slice (some ⟨g9,0,none⟩) (els.length + 1) cap9)).cell? ⟨w.heap.size,i,none⟩ = some v:=fun i v hv=>(World.cell?_of_block (hF10.block w.heap.size (by omega) (by omega) (fun e=>by have:=hsv _ e;omega))).trans hv;have z0:=kk 0 _ k0;have z1:=kk 1 _ k1;have z2:=kk 2 _ k2;have z3:=kk 3 _ k3;have z4:=kk 4 _ k4;have htag:=tag_c hS10 (by rw [List.length_append];simpa using hL) kd at_ name text (.slice aa xs.length acap) xs hn hXw hxl hxs0;rw [hts] at htag;have yy:∀ i v,wr.cell? ⟨w.heap.size + 1,i,none⟩ = some v → (w9.setCell ⟨p,0,none⟩ (.slice (some ⟨g9,0,none⟩) (els.length + 1) cap9)).cell? ⟨w.heap.size + 1,i,none⟩ = some v:=fun i v hv=>(World.cell?_of_block (hF10.block (w.heap.size + 1) (by omega) (by omega) (fun e=>by have:=hsv _ e;omega))).trans hv;have yf:∀ i,wr.frozen? ⟨w.heap.size + 1,i,none⟩ = false → (w9.setCell ⟨p,0,none⟩ (.slice (some ⟨g9,0,none⟩) (els.length + 1) cap9)).frozen? ⟨w.heap.size + 1,i,none⟩ = false:=fun i hv=>(World.frozen?_of_block (hF10.block (w.heap.size + 1) (by omega) (by omega) (fun e=>by have:=hsv _ e;omega))).trans hv;have h10:=hF10.size)) | (go_at_call 65;refine htag.mono ?_;rintro e w11 ⟨ho,hb11⟩;unfold TagOut zeroTag at ho;simp only at ho;subst ho;have hS11:=(hS10.below hb11).alloc (.cells #[.string ⟨#[]⟩,.string ⟨#[]⟩,.slice none 0 0,.int .i64 0] 99)) | (go_at_call 43;go_loud (refine (close_some hS11 (by rw [List.length_append];simpa using hL) (by simp)).mono ?_;rintro e w12 ⟨rfl,sv2,hS12,hsv2,hF12⟩;have hne1:(Value.slice (some ⟨g9,0,none⟩) (els.length + 1) cap9).ownBlock ≠ some (w.heap.size + 1):=(by rcases hl10 with e | ⟨j,e,hj⟩;(rw [e];intro e2;have:=hsv _ e2;omega);(rw [e];intro e2;simp at e2;omega));have hs11:=hb11.size;have bl:w12.heap[w.heap.size + 1]? = (w9.setCell ⟨p,0,none⟩ (.slice (some ⟨g9,0,none⟩) (els.length + 1) cap9)).heap[w.heap.size + 1]?:=(hF12.block (w.heap.size + 1) (by simp;omega) (by omega) hne1).trans ((Below.heap_alloc _ _ _ (by omega)).trans (hb11.block _ (by omega)));have y0:=(World.cell?_of_block bl).trans (yy 0 _ r0);have y1:=(World.cell?_of_block bl).trans (yy 1 _ r1);have y2:=(World.cell?_of_block bl).trans (yy 2 _ r2);have y3:=(World.cell?_of_block bl).trans (yy 3 _ r3);have e0:=(World.frozen?_of_block bl).trans (yf 0 g0);have e1':=(World.frozen?_of_block bl).trans (yf 1 g1);have e2':=(World.frozen?_of_block bl).trans (yf 2 g2);have e3':=(World.frozen?_of_block bl).trans (yf 3 g3))))
     refine open_ret y0 y1 y2 y3 rfl rfl rfl ?_
     rw [htt']
     unfold openEnd
     simp only [hts]
     rw [List.dropLast_concat] at hS12
     have hs10:=hF10.size
     refine ⟨sv2,hS12.set4 _ _ _ _ _ (by omega) (by rw [hsv2];exact hne1),?_,?_,rfl⟩
     ·have hF2:Fr w (w11.alloc (.cells #[.string ⟨#[]⟩,.string ⟨#[]⟩,.slice none 0 0,.int .i64 0] 99)) p (.slice sa L.length scap):=hFw.then ((hb11.mono (by omega)).trans ((Below.refl _ _).alloc (by omega) _))
      have hF3:Fr w w12 p (.slice sa L.length scap):=⟨hF12.os.trans hF2.os,hF12.tape.trans hF2.tape,hF12.output.trans hF2.output,Nat.le_trans hF2.size hF12.size,fun k hk hkp hne=>(hF12.block k (Nat.lt_of_lt_of_le hk hF2.size) hkp (by
       rcases hl10 with e | ⟨j,e,hj⟩
       · rw [e];exact hne
       · rw [e];intro e2;simp at e2;omega)).trans (hF2.block k hk hkp hne)⟩
      exact hF3.then (set4_below (Below.refl _ _) _ (by omega) _ _ _ _)
     ·rw [hsv2]
      rcases hl10 with e | ⟨j,e,hj⟩
      · exact .inl e
      · exact .inr ⟨j,e,by omega⟩
    | ok r0=>
     obtain ⟨⟨n1,n2⟩,l⟩:=r0
     go_wp2_with (first | (at_builtin;go_loud (refine wpList_append_own_at _ rfl _ _ 158 rfl 0 161 i0 (.map none) 1 8 Tryz.underlying158 hi hz0 hz1 hz2 rfl (by decide) _ _ _ rfl (ownsRow_of_blocks e1 (fun j hj=>Below.heap_alloc _ _ _ (e1.lt j hj).2)) ⟨wr.heap.size,0,none⟩ 1 1 [.map (some (w.heap.size + 1 + 1))] rfl rfl (cells_new wr [.map (some (w.heap.size + 1 + 1))] 161) (by simp [Value.oneCell']) (by unfold maxLen;omega) (by omega) (Nat.zero_le _) ?_;intro v9 w9 hown9 hg9 _ hloc9;obtain ⟨g9,cap9,rfl⟩:=row_some hown9;obtain ⟨hS10,hF10,hl10⟩:=hSr.pushed hMr e1 e2 e3 _ hown9 hg9 hloc9;have q2:w9.cell? ⟨p,0,none⟩ = some (.slice sa L.length scap):=(World.cell?_of_block (hg9.block p (by have:=hSr.lt;simp;omega) (fun e=>hSr.apart e.symm))).trans ((World.cell?_of_block (Below.heap_alloc _ _ _ hSr.lt)).trans hcr);have qf:w9.frozen? ⟨p,0,none⟩ = false:=(World.frozen?_of_block (hg9.block p (by have:=hSr.lt;simp;omega) (fun e=>hSr.apart e.symm))).trans ((World.frozen?_of_block (Below.heap_alloc _ _ _ hSr.lt)).trans hfr);have hFw:=Fr.ahead hBw hF10;have hXw:=hx0.fr hFw hav;have kk:∀ i v,wr.cell? ⟨w.heap.size,i,none⟩ = some v → (w9.setCell ⟨p,0,none⟩ (.slice (some ⟨g9,0,none⟩) (els.length + 1) cap9)).cell? ⟨w.heap.size,i,none⟩ = some v:=fun i v hv=>(World.cell?_of_block (hF10.block w.heap.size (by omega) (by omega) (fun e=>by have:=hsv _ e;omega))).trans hv;have z0:=kk 0 _ k0;have z1:=kk 1 _ k1;have z2:=kk 2 _ k2;have z3:=kk 3 _ k3;have z4:=kk 4 _ k4;have htag:=tag_c hS10 (by rw [List.length_append];simpa using hL) kd at_ name text (.slice aa xs.length acap) xs hn hXw hxl hxs0;rw [hts] at htag;have yy:∀ i v,wr.cell? ⟨w.heap.size + 1,i,none⟩ = some v → (w9.setCell ⟨p,0,none⟩ (.slice (some ⟨g9,0,none⟩) (els.length + 1) cap9)).cell? ⟨w.heap.size + 1,i,none⟩ = some v:=fun i v hv=>(World.cell?_of_block (hF10.block (w.heap.size + 1) (by omega) (by omega) (fun e=>by have:=hsv _ e;omega))).trans hv;have yf:∀ i,wr.frozen? ⟨w.heap.size + 1,i,none⟩ = false → (w9.setCell ⟨p,0,none⟩ (.slice (some ⟨g9,0,none⟩) (els.length + 1) cap9)).frozen? ⟨w.heap.size + 1,i,none⟩ = false:=fun i hv=>(World.frozen?_of_block (hF10.block (w.heap.size + 1) (by omega) (by omega) (fun e=>by have:=hsv _ e;omega))).trans hv;have h10:=hF10.size)) | (go_at_call 65;refine htag.mono ?_;rintro e w11 ⟨ho,hb11⟩;unfold TagOut at ho;simp only at ho;obtain ⟨sl,rfl,hsl⟩:=ho;obtain ⟨sla,slc,rfl⟩:=row_slice hsl;have y0:=cellA (cellB hb11 (yy 0 _ r0) (lt_of_cell (yy 0 _ r0))) (.cells #[.string n1,.string n2,.slice sla l.length slc,.int .i64 at_] 99);have y1:=cellA (cellB hb11 (yy 1 _ r1) (lt_of_cell (yy 1 _ r1))) (.cells #[.string n1,.string n2,.slice sla l.length slc,.int .i64 at_] 99);have y2:=cellA (cellB hb11 (yy 2 _ r2) (lt_of_cell (yy 2 _ r2))) (.cells #[.string n1,.string n2,.slice sla l.length slc,.int .i64 at_] 99);have y3:=cellA (cellB hb11 (yy 3 _ r3) (lt_of_cell (yy 3 _ r3))) (.cells #[.string n1,.string n2,.slice sla l.length slc,.int .i64 at_] 99);have e0:=freeB ((Below.refl _ _).alloc (Nat.le_refl _) (.cells #[.string n1,.string n2,.slice sla l.length slc,.int .i64 at_] 99)) (freeB hb11 (yf 0 g0) (lt_of_cell (yy 0 _ r0))) (Nat.lt_of_lt_of_le (lt_of_cell (yy 0 _ r0)) hb11.size);have e1':=freeB ((Below.refl _ _).alloc (Nat.le_refl _) (.cells #[.string n1,.string n2,.slice sla l.length slc,.int .i64 at_] 99)) (freeB hb11 (yf 1 g1) (lt_of_cell (yy 1 _ r1))) (Nat.lt_of_lt_of_le (lt_of_cell (yy 1 _ r1)) hb11.size);have e2':=freeB ((Below.refl _ _).alloc (Nat.le_refl _) (.cells #[.string n1,.string n2,.slice sla l.length slc,.int .i64 at_] 99)) (freeB hb11 (yf 2 g2) (lt_of_cell (yy 2 _ r2))) (Nat.lt_of_lt_of_le (lt_of_cell (yy 2 _ r2)) hb11.size);have e3':=freeB ((Below.refl _ _).alloc (Nat.le_refl _) (.cells #[.string n1,.string n2,.slice sla l.length slc,.int .i64 at_] 99)) (freeB hb11 (yf 3 g3) (lt_of_cell (yy 3 _ r3))) (Nat.lt_of_lt_of_le (lt_of_cell (yy 3 _ r3)) hb11.size)))
     have hs10:=hF10.size
     have hW:Below w.heap.size (w9.setCell ⟨p,0,none⟩ (.slice (some ⟨g9,0,none⟩) (els.length + 1) cap9)) (w11.alloc (.cells #[.string n1,.string n2,.slice sla l.length slc,.int .i64 at_] 99)):=(hb11.mono (by omega)).trans ((Below.refl _ _).alloc (by have:=hb11.size;omega) _)
     have hne1:(Value.slice (some ⟨g9,0,none⟩) (els.length + 1) cap9).ownBlock ≠ some (w.heap.size + 1):=by
      rcases hl10 with e | ⟨j,e,hj⟩
      · rw [e];intro e2;have:=hsv _ e2;omega
      · rw [e];intro e2;simp at e2;omega
     have hrow':=fun j hj=>(hsl.lt j hj).1
     have hgl:g9 < (w9.setCell ⟨p,0,none⟩ (.slice (some ⟨g9,0,none⟩) (els.length + 1) cap9)).heap.size:=by
      obtain ⟨els',f1,_⟩:=hS10.rows
      exact (f1.lt g9 rfl).2
     refine open_ret y0 y1 y2 y3 rfl rfl rfl ?_
     rw [htt']
     unfold openEnd
     simp only [hts]
     refine ⟨_,((hS10.below hb11).alloc _).set4 _ _ _ _ _ (by omega) hne1,hFw.then (set4_below hW _ (by omega) _ _ _ _),?_,_,rfl,?_,?_⟩
     ·rcases hl10 with e | ⟨j,e,hj⟩
      · exact .inl e
      · exact .inr ⟨j,e,by omega⟩
     ·refine ownsRow_of_blocks (own_weaken hsl (by omega)) (fun j hj=>?_)
      rw [set4_block _ _ _ _ _ _ _ (by have:=hrow' j hj;omega),Below.heap_alloc _ _ _ (hsl.lt j hj).2]
     ·intro j hj
      have:=hrow' j hj
      refine ⟨?_,by omega⟩
      intro e2
      simp [Value.ownBlock] at e2
      omega
theorem open_c {w:World} {p:Nat} {sv:Value} {L:List Binds} (h:Sc w p sv L) (hL:L.length + 1 < 1099511627776) (kd at_:Int) (name text:ByteArray) (av:Value) (xs:List XA) (hn:name.size < 4398046511104) (hx:XAttrs w av xs) (hxl:xs.length < 1099511627776) (hxs:∀ x ∈ xs,x.1.size < 4398046511104) (hav:∀ k,av.ownBlock = some k → sv.ownBlock ≠ some k ∧ k ≠ p) :
    Calls Tryz.prog 41 #[.pointer (some ⟨p,0,none⟩),.agg #[.int .i64 kd,.int .i64 at_,.string name,.string text,av]] w fun e W'=>OpenOut w p sv at_ (openS L name at_ xs) e W' :=
  open_c0 h hL kd at_ name text av xs hn hx hxl hxs (fun _=>hav)
end Go.Proofs.YtbaokjfhigjpdaaGreatDoorN
end
section
set_option linter.unusedVariables false
namespace Go.Proofs.YtbaokjfhigjpdaaGreatDoorT
open Go.RowKit Go.Shelf
open Go.Proofs.YtbaokjfhigjpdaaGreatDoorN (Sc Fr Binds NA flatN flatB bindsL openS)
open Go.Proofs.YtbaokjfhigjpdaaGreatDoorX (RowAt blk_lt blk_set lt_of_cell alloc_old ownsRow_of_blocks)
structure ND where
  sp:ByteArray
  lc:ByteArray
  at_:Int
  en:Int
  attrs:List NA
  binds:List (ByteArray × ByteArray)
  kids:List Nat
  text:ByteArray
structure NP where
  b:Nat
  av:Value
  bv:Value
  kv:Value
def ndCells (m:NP) (d:ND):Array Value:=#[.string d.sp,.string d.lc,.int .i64 d.at_,.int .i64 d.en,m.av,m.bv,m.kv,.string d.text]
def ptrOf (ms:List NP) (i:Nat):Value:=.pointer ((ms[i]?).map fun m=>⟨m.b,0,none⟩)
def ptrs (ms:List NP) (l:List Nat):List Value:=l.map (ptrOf ms)
def NX (m:NP) (k:Nat):Prop:=k = m.b ∨ m.av.ownBlock = some k ∨ m.bv.ownBlock = some k ∨ m.kv.ownBlock = some k
def TX (ms:List NP) (ov:Value) (k:Nat):Prop:=(∃ m ∈ ms,NX m k) ∨ ov.ownBlock = some k
structure NodeAt (w:World) (ms:List NP) (m:NP) (d:ND):Prop where
  blk:w.heap[m.b]? = some (.cells (ndCells m d) 55 (0,0))
  attrs:RowAt w 70 4 m.av d.attrs.length (flatN d.attrs)
  binds:RowAt w 171 2 m.bv d.binds.length (flatB d.binds)
  kids:w.ownsRow 0 27 1 m.kv d.kids.length (ptrs ms d.kids)
  lt:∀ i ∈ d.kids,i < ms.length
  kne:∀ k,m.kv.ownBlock = some k → d.kids ≠ []
theorem NodeAt.off {w w':World} {ms:List NP} {m:NP} {d:ND} (h:NodeAt w ms m d) (hb:∀ k,NX m k → w'.heap[k]? = w.heap[k]?):NodeAt w' ms m d :=
  ⟨(hb _ (.inl rfl)).trans h.blk,h.attrs.move fun k hk=>hb k (.inr (.inl hk)),h.binds.move fun k hk=>hb k (.inr (.inr (.inl hk))),ownsRow_of_blocks h.kids fun k hk=>hb k (.inr (.inr (.inr hk))),h.lt,h.kne⟩
theorem NodeAt.below {w:World} {ms:List NP} {m:NP} {d:ND} (h:NodeAt w ms m d):∀ k,NX m k → k < w.heap.size:=by
 rintro k (rfl | hk | hk | hk)
 · exact blk_lt h.blk
 · exact h.attrs.lt k hk
 · exact h.binds.lt k hk
 · exact (h.kids.lt k hk).2
theorem NodeAt.apart {w:World} {ms ms':List NP} {m m':NP} {d d':ND} (h:NodeAt w ms m d) (h':NodeAt w ms' m' d'):m.av.ownBlock ≠ some m'.b ∧ m.bv.ownBlock ≠ some m'.b ∧ m.kv.ownBlock ≠ some m'.b ∧ (∀ k,m.kv.ownBlock = some k → m'.av.ownBlock ≠ some k ∧ m'.bv.ownBlock ≠ some k):=by
 have r:∀ {e:TypeId} {size n:Nat} {v:Value} {xs:List Value} {k:Nat},RowAt w e size v n xs → v.ownBlock = some k → ∃ c,w.heap[k]? = some (.cells c e (0,0)):=by
  intro e size n v xs k h hk
  rcases h.2 with ⟨rfl,_⟩ | ⟨g,off,cap,cur,rfl,hg,_⟩
  · simp [Value.ownBlock] at hk
  ·simp [Value.ownBlock] at hk
   subst hk
   exact ⟨cur,hg⟩
 have t:∀ {e e':TypeId} {k:Nat},e ≠ e' → (∃ c,w.heap[k]? = some (.cells c e (0,0))) → (∃ c,w.heap[k]? = some (.cells c e' (0,0))) → False:=by
  rintro e e' k he ⟨c,h1⟩ ⟨c',h2⟩
  rw [h1] at h2
  simp at h2
  exact he h2.2
 have hk:=Go.Proofs.YtbaokjfhigjpdaaGreatDoorX.RowAt.of_own h.kids
 refine ⟨fun e=>t (by decide) (r h.attrs e) ⟨_,h'.blk⟩,fun e=>t (by decide) (r h.binds e) ⟨_,h'.blk⟩,fun e=>t (by decide) (r hk e) ⟨_,h'.blk⟩,fun k e=>⟨fun e'=>t (by decide) (r hk e) (r h'.attrs e'),fun e'=>t (by decide) (r hk e) (r h'.binds e')⟩⟩
structure Ar (w:World) (B:Nat) (ms:List NP) (ns:List ND) (ov:Value) (op:List Nat):Prop where
  len:ms.length = ns.length
  node:∀ (i:Nat) (m:NP) (d:ND),ms[i]? = some m → ns[i]? = some d → NodeAt w ms m d
  inj:∀ (i j:Nat) (m m':NP),ms[i]? = some m → ms[j]? = some m' → m.b = m'.b → i = j
  sep:∀ (i j:Nat) (m m':NP) (k:Nat),ms[i]? = some m → ms[j]? = some m' → m.kv.ownBlock = some k → m'.kv.ownBlock = some k → i = j
  opn:w.ownsRow 0 27 1 ov op.length (ptrs ms op)
  oplt:∀ i ∈ op,i < ms.length
  osep:∀ (i:Nat) (m:NP) (k:Nat),ms[i]? = some m → m.kv.ownBlock = some k → ov.ownBlock ≠ some k
  base:∀ k,TX ms ov k → B ≤ k
section
variable {w w':World} {B:Nat} {ms:List NP} {ns:List ND} {ov:Value} {op:List Nat}
theorem Ar.get (h:Ar w B ms ns ov op) {i:Nat} {m:NP} (hm:ms[i]? = some m):∃ d,ns[i]? = some d ∧ NodeAt w ms m d:=by
 have hl:i < ns.length:=by rw [← h.len];exact (List.getElem?_eq_some_iff.1 hm).1
 exact ⟨ns[i],List.getElem?_eq_getElem hl,h.node i m _ hm (List.getElem?_eq_getElem hl)⟩
theorem Ar.off (h:Ar w B ms ns ov op) (hb:∀ k,TX ms ov k → w'.heap[k]? = w.heap[k]?):Ar w' B ms ns ov op :=
  ⟨h.len,fun i m d hm hd=>(h.node i m d hm hd).off fun k hk=>hb k (.inl ⟨m,List.mem_of_getElem? hm,hk⟩),h.inj,h.sep,ownsRow_of_blocks h.opn fun k hk=>hb k (.inr hk),h.oplt,h.osep,h.base⟩
theorem Ar.below (h:Ar w B ms ns ov op):∀ k,TX ms ov k → k < w.heap.size:=by
 rintro k (⟨m,hm,hk⟩ | hk)
 ·obtain ⟨i,hi⟩:=List.mem_iff_getElem?.1 hm
  obtain ⟨d,_,hn⟩:=h.get hi
  exact hn.below k hk
 · exact (h.opn.lt k hk).2
theorem ptrOf_app {i:Nat} (m:NP) (h:i < ms.length):ptrOf (ms ++ [m]) i = ptrOf ms i:=by
 unfold ptrOf
 rw [List.getElem?_append_left h]
theorem ptrs_app {l:List Nat} (m:NP) (h:∀ i ∈ l,i < ms.length):ptrs (ms ++ [m]) l = ptrs ms l:=List.map_congr_left fun i hi=>ptrOf_app m (h i hi)
theorem NodeAt.app {m m':NP} {d:ND} (h:NodeAt w ms m d):NodeAt w (ms ++ [m']) m d :=
  ⟨h.blk,h.attrs,h.binds,by rw [ptrs_app m' h.lt];exact h.kids,fun i hi=>by have:=h.lt i hi;simp;omega,h.kne⟩
theorem Ar.add (h:Ar w B ms ns ov op) {m:NP} {d:ND} (hn:NodeAt w ms m d) (hkv:m.kv = .slice none 0 0) (hf:∀ k,NX m k → ¬ TX ms ov k) (hB:∀ k,NX m k → B ≤ k):Ar w B (ms ++ [m]) (ns ++ [d]) ov op:=by
 have hl:=h.len
 have old:∀ {i x},(ms ++ [m])[i]? = some x → (ms[i]? = some x ∧ i < ms.length) ∨ (i = ms.length ∧ x = m):=by
  intro i x hi
  rcases Nat.lt_or_ge i ms.length with q | q
  ·rw [List.getElem?_append_left q] at hi
   exact .inl ⟨hi,q⟩
  ·rw [List.getElem?_append_right q] at hi
   obtain ⟨e1,e2⟩:=List.getElem?_eq_some_iff.1 hi
   simp at e1 e2
   exact .inr ⟨by omega,e2.symm⟩
 have nk:∀ k,m.kv.ownBlock ≠ some k:=fun k e=>by rw [hkv] at e;simp [Value.ownBlock] at e
 refine ⟨by simp [hl],?_,?_,?_,by rw [ptrs_app m h.oplt];exact h.opn,fun i hi=>by have:=h.oplt i hi;simp;omega,?_,?_⟩
 ·intro i x y hx hy
  rcases old hx with ⟨hx,q⟩ | ⟨rfl,rfl⟩
  ·rw [List.getElem?_append_left (by omega)] at hy
   exact (h.node i x y hx hy).app
  ·rw [hl,List.getElem?_append_right (Nat.le_refl _)] at hy
   simp at hy
   subst hy
   exact hn.app
 ·intro i j x y hx hy e
  rcases old hx with ⟨hx1,q⟩ | ⟨i1,x1⟩ <;> rcases old hy with ⟨hy1,q'⟩ | ⟨j1,y1⟩
  · exact h.inj i j x y hx1 hy1 e
  · exact absurd (.inl ⟨x,List.mem_of_getElem? hx1,.inl rfl⟩) (hf x.b (.inl (by rw [e,y1])))
  · exact absurd (.inl ⟨y,List.mem_of_getElem? hy1,.inl rfl⟩) (hf y.b (.inl (by rw [← e,x1])))
  · omega
 ·intro i j x y k hx hy e e'
  rcases old hx with ⟨hx1,q⟩ | ⟨i1,x1⟩ <;> rcases old hy with ⟨hy1,q'⟩ | ⟨j1,y1⟩
  · exact h.sep i j x y k hx1 hy1 e e'
  · exact absurd (y1 ▸ e') (nk k)
  · exact absurd (x1 ▸ e) (nk k)
  · omega
 ·intro i x k hx e
  rcases old hx with ⟨hx,q⟩ | ⟨rfl,rfl⟩
  · exact h.osep i x k hx e
  · exact absurd e (nk k)
 ·rintro k (⟨x,hx,hk⟩ | hk)
  ·rcases List.mem_append.1 hx with hx | hx
   · exact h.base k (.inl ⟨x,hx,hk⟩)
   ·simp at hx
    rw [hx] at hk
    exact hB k hk
  · exact h.base k (.inr hk)
theorem ptrs_set {u:Nat} {m m':NP} (hm:ms[u]? = some m) (hb:m'.b = m.b) (l:List Nat):ptrs (ms.set u m') l = ptrs ms l:=by
 refine List.map_congr_left fun i _=>?_
 unfold ptrOf
 rw [List.getElem?_set]
 split
 ·rename_i e
  subst e
  rw [hm,if_pos (List.getElem?_eq_some_iff.1 hm).1]
  simp [hb]
 · rfl
theorem get_set {α:Type} {l:List α} {u i:Nat} {a x:α} (h:(l.set u a)[i]? = some x):(i = u ∧ x = a ∧ u < l.length) ∨ (i ≠ u ∧ l[i]? = some x):=by
 rw [List.getElem?_set] at h
 split at h
 ·rename_i e
  split at h
  ·rename_i q
   simp at h
   exact .inl ⟨e.symm,h.symm,q⟩
  · cases h
 ·rename_i e
  exact .inr ⟨fun q=>e q.symm,h⟩
theorem Ar.kid (h:Ar w B ms ns ov op) {u j:Nat} {m mj:NP} {d:ND} (hm:ms[u]? = some m) (hd:ns[u]? = some d) (hj:ms[j]? = some mj) {w9:World} {o:Obj} {v':Value}
    (hown:w9.ownsRow 0 27 1 v' (d.kids.length + 1) (ptrs ms d.kids ++ [.pointer (some ⟨mj.b,0,none⟩)])) (hg:(w.alloc o).grownBy w9 m.kv.ownBlock) (hat:v'.ownBlock = m.kv.ownBlock ∨ v'.ownBlock = some (w.alloc o).heap.size) (hB:B ≤ w.heap.size) :
    Ar (w9.setCell ⟨m.b,6,none⟩ v') B (ms.set u { m with kv:=v' }) (ns.set u { d with kids:=d.kids ++ [j] }) ov op ∧ (∀ k,k < w.heap.size → k ≠ m.b → m.kv.ownBlock ≠ some k → (w9.setCell ⟨m.b,6,none⟩ v').heap[k]? = w.heap[k]?) ∧ w.heap.size ≤ (w9.setCell ⟨m.b,6,none⟩ v').heap.size ∧ (∀ k,TX (ms.set u { m with kv:=v' }) ov k → TX ms ov k ∨ w.heap.size ≤ k):=by
  have hn:=h.node u m d hm hd
  have hmm:=List.mem_of_getElem? hm
  have hul:=(List.getElem?_eq_some_iff.1 hm).1
  have hsz:(w.alloc o).heap.size = w.heap.size + 1:=by simp
  have keep:∀ k,k < w.heap.size → m.kv.ownBlock ≠ some k → w9.heap[k]? = w.heap[k]?:=fun k hk hne=>(hg.block k (by omega) (fun e=>hne e.symm)).trans (alloc_old w o k hk)
  have keep2:∀ k,k < w.heap.size → k ≠ m.b → m.kv.ownBlock ≠ some k → (w9.setCell ⟨m.b,6,none⟩ v').heap[k]? = w.heap[k]?:=fun k hk hne hne2=>(Below.heap_setCell w9 ⟨m.b,6,none⟩ _ k hne).trans (keep k hk hne2)
  have hap:=hn.apart hn
  have hblk:(w9.setCell ⟨m.b,6,none⟩ v').heap[m.b]? = some (.cells (ndCells { m with kv:=v' } { d with kids:=d.kids ++ [j] }) 55 (0,0)):=blk_set ((keep _ (blk_lt hn.blk) hap.2.2.1).trans hn.blk)
  have hv':∀ k,v'.ownBlock = some k → m.kv.ownBlock = some k ∨ w.heap.size ≤ k:=fun k e=>by
   rcases hat with q | q
   · exact .inl (q ▸ e)
   ·rw [q] at e
    simp at e
    exact .inr (by omega)
  have hvb:v'.ownBlock ≠ some m.b:=fun e=>by
   rcases hv' _ e with q | q
   · exact hap.2.2.1 q
   ·have:=blk_lt hn.blk
    omega
  have low:∀ k,TX ms ov k → k < w.heap.size:=h.below
  have oth:∀ {i:Nat} {x:NP} {y:ND},i ≠ u → ms[i]? = some x → ns[i]? = some y → ∀ k,NX x k → (w9.setCell ⟨m.b,6,none⟩ v').heap[k]? = w.heap[k]?:=by
   intro i x y hi hx hy k hk
   have hnx:=h.node i x y hx hy
   refine keep2 k (low k (.inl ⟨x,List.mem_of_getElem? hx,hk⟩)) ?_ ?_
   ·intro e
    subst e
    obtain ⟨p1,p2,p3,_⟩:=hnx.apart hn
    rcases hk with e | e | e | e
    · exact hi (h.inj i u x m hx hm e.symm)
    · exact p1 e
    · exact p2 e
    · exact p3 e
   ·intro e
    obtain ⟨p1,p2,p3,p4⟩:=hn.apart hnx
    rcases hk with q | q | q | q
    · exact p3 (q ▸ e)
    · exact (p4 k e).1 q
    · exact (p4 k e).2 q
    · exact hi (h.sep i u x m k hx hm q e)
  have hptr:∀ l,ptrs (ms.set u { m with kv:=v' }) l = ptrs ms l:=fun l=>ptrs_set (m':={ m with kv:=v' }) hm rfl l
  have hself:NodeAt (w9.setCell ⟨m.b,6,none⟩ v') (ms.set u { m with kv:=v' }) { m with kv:=v' } { d with kids:=d.kids ++ [j] }:=by
   refine ⟨hblk,hn.attrs.move fun k hk=>keep2 k (hn.below k (.inr (.inl hk))) (fun e=>hap.1 (e ▸ hk)) (fun e=>(hap.2.2.2 k e).1 hk),hn.binds.move fun k hk=>keep2 k (hn.below k (.inr (.inr (.inl hk)))) (fun e=>hap.2.1 (e ▸ hk)) (fun e=>(hap.2.2.2 k e).2 hk),?_,?_,fun k _=>by simp⟩
   ·rw [hptr]
    have:ptrs ms (d.kids ++ [j]) = ptrs ms d.kids ++ [.pointer (some ⟨mj.b,0,none⟩)]:=by
     unfold ptrs
     rw [List.map_append]
     simp [ptrOf,hj]
    show World.ownsRow _ 0 _ 1 v' (d.kids ++ [j]).length (ptrs ms (d.kids ++ [j]))
    rw [this,List.length_append]
    exact ownsRow_of_blocks hown fun k hk=>Below.heap_setCell w9 ⟨m.b,6,none⟩ _ k (fun e=>hvb (by rw [hk];exact congrArg some e))
   ·intro i hi
    rw [List.length_set]
    rcases List.mem_append.1 hi with hi | hi
    · exact hn.lt i hi
    ·simp at hi
     rw [hi]
     exact (List.getElem?_eq_some_iff.1 hj).1
  have hsize:w.heap.size ≤ (w9.setCell ⟨m.b,6,none⟩ v').heap.size:=by
   have:=hg.size
   simp [World.setCell] at this ⊢
   omega
  have htx:∀ k,TX (ms.set u { m with kv:=v' }) ov k → TX ms ov k ∨ w.heap.size ≤ k:=by
   rintro k (⟨x,hx,hk⟩ | hk)
   ·obtain ⟨i,hi⟩:=List.mem_iff_getElem?.1 hx
    rcases get_set hi with ⟨rfl,rfl,_⟩ | ⟨_,hi⟩
    ·rcases hk with e | e | e | e
     · exact .inl (.inl ⟨m,hmm,.inl e⟩)
     · exact .inl (.inl ⟨m,hmm,.inr (.inl e)⟩)
     · exact .inl (.inl ⟨m,hmm,.inr (.inr (.inl e))⟩)
     ·rcases hv' k e with q | q
      · exact .inl (.inl ⟨m,hmm,.inr (.inr (.inr q))⟩)
      · exact .inr q
    · exact .inl (.inl ⟨x,List.mem_of_getElem? hi,hk⟩)
   · exact .inl (.inr hk)
  refine ⟨⟨by simp [h.len],?_,?_,?_,?_,fun i hi=>by rw [List.length_set];exact h.oplt i hi,?_,fun k hk=>(htx k hk).elim (h.base k) (fun q=>Nat.le_trans hB q)⟩,keep2,hsize,htx⟩
  ·intro i x y hx hy
   rcases get_set hx with ⟨rfl,rfl,_⟩ | ⟨hi,hx⟩
   ·rcases get_set hy with ⟨_,rfl,_⟩ | ⟨hi,_⟩
    · exact hself
    · exact absurd rfl hi
   ·rcases get_set hy with ⟨e,_,_⟩ | ⟨_,hy⟩
    · exact absurd e hi
    ·have hnx:=(h.node i x y hx hy).off (oth hi hx hy)
     exact ⟨hnx.blk,hnx.attrs,hnx.binds,by rw [hptr];exact hnx.kids,fun q hq=>by rw [List.length_set];exact hnx.lt q hq,hnx.kne⟩
  ·intro i i' x y hx hy e
   rcases get_set hx with ⟨i1,x1,_⟩ | ⟨hi,hx1⟩ <;> rcases get_set hy with ⟨j1,y1,_⟩ | ⟨hi',hy1⟩
   · omega
   ·subst i1
    exact h.inj _ _ m y hm hy1 (by rw [← e,x1])
   ·subst j1
    exact h.inj _ _ x m hx1 hm (by rw [e,y1])
   · exact h.inj _ _ x y hx1 hy1 e
  ·intro i i' x y k hx hy e e'
   rcases get_set hx with ⟨i1,x1,_⟩ | ⟨hi,hx1⟩ <;> rcases get_set hy with ⟨j1,y1,_⟩ | ⟨hi',hy1⟩
   · omega
   ·subst i1
    rcases hv' k (by rw [x1] at e;exact e) with q | q
    · exact h.sep _ _ m y k hm hy1 q e'
    ·have:=low k (.inl ⟨y,List.mem_of_getElem? hy1,.inr (.inr (.inr e'))⟩)
     omega
   ·subst j1
    rcases hv' k (by rw [y1] at e';exact e') with q | q
    · exact h.sep _ _ x m k hx1 hm e q
    ·have:=low k (.inl ⟨x,List.mem_of_getElem? hx1,.inr (.inr (.inr e))⟩)
     omega
   · exact h.sep _ _ x y k hx1 hy1 e e'
  ·rw [hptr]
   refine ownsRow_of_blocks h.opn fun k hk=>keep2 k (low k (.inr hk)) (fun e=>?_) (fun e=>h.osep u m k hm e hk)
   subst e
   have t:=hn.blk
   rcases h.opn.2 with ⟨q,_⟩ | ⟨g,cap,cur,q,_,hg',_⟩
   ·rw [q] at hk
    simp [Value.ownBlock] at hk
   ·rw [q] at hk
    simp [Value.ownBlock] at hk
    subst hk
    rw [hg'] at t
    simp at t
  ·intro i x k hx e
   rcases get_set hx with ⟨rfl,rfl,_⟩ | ⟨hi,hx⟩
   ·rcases hv' k e with q | q
    · exact h.osep _ m k hm q
    ·intro e2
     have:=low k (.inr e2)
     omega
   · exact h.osep i x k hx e
theorem Ar.ended (h:Ar w B ms ns ov op) {u:Nat} {m:NP} {d:ND} (hm:ms[u]? = some m) (hd:ns[u]? = some d) (en:Int):Ar (w.setCell ⟨m.b,3,none⟩ (.int .i64 en)) B ms (ns.set u { d with en:=en }) ov op:=by
 have hn:=h.node u m d hm hd
 have keep:∀ k,k ≠ m.b → (w.setCell ⟨m.b,3,none⟩ (.int .i64 en)).heap[k]? = w.heap[k]?:=fun k hk=>Below.heap_setCell w ⟨m.b,3,none⟩ _ k hk
 have hap:=hn.apart hn
 refine ⟨by simp [h.len],?_,h.inj,h.sep,?_,h.oplt,h.osep,h.base⟩
 ·intro i x y hx hy
  rcases get_set hy with ⟨rfl,rfl,_⟩ | ⟨hi,hy⟩
  ·rw [hm] at hx
   cases hx
   exact ⟨blk_set hn.blk,hn.attrs.move fun k hk=>keep k (fun e=>hap.1 (e ▸ hk)),hn.binds.move fun k hk=>keep k (fun e=>hap.2.1 (e ▸ hk)),ownsRow_of_blocks hn.kids fun k hk=>keep k (fun e=>hap.2.2.1 (e ▸ hk)),hn.lt,hn.kne⟩
  ·have hnx:=h.node i x y hx hy
   refine hnx.off fun k hk=>keep k fun e=>?_
   subst e
   obtain ⟨p1,p2,p3,_⟩:=hnx.apart hn
   rcases hk with e | e | e | e
   · exact hi (h.inj i u x m hx hm e.symm)
   · exact p1 e
   · exact p2 e
   · exact p3 e
 ·refine ownsRow_of_blocks h.opn fun k hk=>keep k fun e=>?_
  subst e
  have t:=hn.blk
  rcases h.opn.2 with ⟨q,_⟩ | ⟨g,cap,cur,q,_,hg',_⟩
  ·rw [q] at hk
   simp [Value.ownBlock] at hk
  ·rw [q] at hk
   simp [Value.ownBlock] at hk
   subst hk
   rw [hg'] at t
   simp at t
theorem Ar.push (h:Ar w B ms ns ov op) {j:Nat} {mj:NP} (hj:ms[j]? = some mj) {w9:World} {o:Obj} {v':Value}
    (hown:w9.ownsRow 0 27 1 v' (op.length + 1) (ptrs ms op ++ [.pointer (some ⟨mj.b,0,none⟩)])) (hg:(w.alloc o).grownBy w9 ov.ownBlock) (hat:v'.ownBlock = ov.ownBlock ∨ v'.ownBlock = some (w.alloc o).heap.size) (hB:B ≤ w.heap.size) :
    Ar w9 B ms ns v' (op ++ [j]) ∧ (∀ k,k < w.heap.size → ov.ownBlock ≠ some k → w9.heap[k]? = w.heap[k]?) ∧ w.heap.size ≤ w9.heap.size ∧ (∀ k,TX ms v' k → TX ms ov k ∨ w.heap.size ≤ k):=by
  have hsz:(w.alloc o).heap.size = w.heap.size + 1:=by simp
  have keep:∀ k,k < w.heap.size → ov.ownBlock ≠ some k → w9.heap[k]? = w.heap[k]?:=fun k hk hne=>(hg.block k (by omega) (fun e=>hne e.symm)).trans (alloc_old w o k hk)
  have hv':∀ k,v'.ownBlock = some k → ov.ownBlock = some k ∨ w.heap.size ≤ k:=fun k e=>by
   rcases hat with q | q
   · exact .inl (q ▸ e)
   ·rw [q] at e
    simp at e
    exact .inr (by omega)
  have low:=h.below
  have htx:∀ k,TX ms v' k → TX ms ov k ∨ w.heap.size ≤ k:=by
   rintro k (hk | hk)
   · exact .inl (.inl hk)
   · exact (hv' k hk).imp .inr id
  have type:∀ {i:Nat} {x:NP} {y:ND},ms[i]? = some x → ns[i]? = some y → ∀ k,NX x k → ov.ownBlock ≠ some k:=by
   intro i x y hx hy k hk e
   have hn:=h.node i x y hx hy
   rcases h.opn.2 with ⟨q,_⟩ | ⟨g,cap,cur,q,_,hg',_⟩
   ·rw [q] at e
    simp [Value.ownBlock] at e
   ·have e2:=e
    rw [q] at e2
    simp [Value.ownBlock] at e2
    subst e2
    rcases hk with e3 | e3 | e3 | e3
    ·have t:=hn.blk
     rw [← e3,hg'] at t
     simp at t
    ·rcases hn.attrs.2 with ⟨q2,_⟩ | ⟨g2,off,cap2,cur2,q2,t,_⟩
     ·rw [q2] at e3
      simp [Value.ownBlock] at e3
     ·rw [q2] at e3
      simp [Value.ownBlock] at e3
      rw [e3,hg'] at t
      simp at t
    ·rcases hn.binds.2 with ⟨q2,_⟩ | ⟨g2,off,cap2,cur2,q2,t,_⟩
     ·rw [q2] at e3
      simp [Value.ownBlock] at e3
     ·rw [q2] at e3
      simp [Value.ownBlock] at e3
      rw [e3,hg'] at t
      simp at t
    · exact h.osep i x _ hx e3 e
  refine ⟨⟨h.len,fun i x y hx hy=>(h.node i x y hx hy).off fun k hk=>keep k (low k (.inl ⟨x,List.mem_of_getElem? hx,hk⟩)) (type hx hy k hk),h.inj,h.sep,?_,?_,?_,fun k hk=>(htx k hk).elim (h.base k) (fun q=>Nat.le_trans hB q)⟩,keep,?_,htx⟩
  ·rw [List.length_append]
   have:ptrs ms (op ++ [j]) = ptrs ms op ++ [.pointer (some ⟨mj.b,0,none⟩)]:=by
    unfold ptrs
    rw [List.map_append]
    simp [ptrOf,hj]
   rw [this]
   exact hown
  ·intro i hi
   rcases List.mem_append.1 hi with hi | hi
   · exact h.oplt i hi
   ·simp at hi
    rw [hi]
    exact (List.getElem?_eq_some_iff.1 hj).1
  ·intro i x k hx e e2
   obtain ⟨y,hy,_⟩:=h.get hx
   rcases hv' k e2 with q | q
   · exact h.osep i x k hx e q
   ·have:=low k (.inl ⟨x,List.mem_of_getElem? hx,.inr (.inr (.inr e))⟩)
    omega
  ·have:=hg.size
   omega
theorem Ar.pop {A:Option Addr} {n c:Nat} (h:Ar w B ms ns (.slice A (n + 1) c) op) (hn:op.length = n + 1):Ar w B ms ns (.slice A n c) op.dropLast:=by
 have own:(Value.slice A n c).ownBlock = (Value.slice A (n + 1) c).ownBlock:=by cases A <;> rfl
 refine ⟨h.len,h.node,h.inj,h.sep,?_,fun i hi=>h.oplt i (List.dropLast_subset _ hi),fun i m k hm e e2=>h.osep i m k hm e (own ▸ e2),?_⟩
 ·have h1:=h.opn
  rcases h1.2 with ⟨e,_⟩ | ⟨g,cap,cur,e,hb,hg,r1,r2,r3,r4⟩
  · simp at e
  ·simp only [Value.slice.injEq] at e
   obtain ⟨rfl,_,rfl⟩:=e
   refine ⟨by simp [ptrs,hn],.inr ⟨g,c,cur,by simp [hn],hb,hg,by simp [hn];omega,r2,r3,?_⟩⟩
   rw [Nat.mul_one] at r4 ⊢
   unfold ptrs at r4 ⊢
   have hl:cur.toList.length = cur.size:=Array.length_toList
   rw [List.map_dropLast,← r4,List.length_dropLast,List.dropLast_eq_take,List.length_take,List.take_take]
   congr 1
   omega
 ·rintro k (hk | hk)
  · exact h.base k (.inl hk)
  · exact h.base k (.inr (own ▸ hk))
end
end Go.Proofs.YtbaokjfhigjpdaaGreatDoorT
end
section
set_option linter.unusedVariables false
namespace Go.Proofs.YtbaokjfhigjpdaaGreatDoorX
open Go.RowKit Go.Shelf Go.Proofs.YtbaokjfhigjpdaaGreatDoor.PXmlBase Go.Proofs.YtbaokjfhigjpdaaGreatDoorW.PrintWords
def NoPs (w:World) (k:Nat):Prop:=∃ c t v,w.heap[k]? = some (.cells c t (0,0)) ∧ t ≠ 163 ∧ c[0]? = some v ∧ ∀ x,v ≠ .int .u8 x
theorem PS.offM {w w':World} {p B:Nat} {bs:List Int} {L:Lim} {s:St} {T:Tv} (h:PS w p B bs L s T) {M:Nat → Prop} (hX:∀ k,M k → ¬ PX p T k) (hN:∀ k,M k → k < w.heap.size → NoPs w k) (hB:∀ k,M k → B ≤ k)
    (hset:∀ j,j < w.heap.size → ¬ M j → w'.heap[j]? = w.heap[j]?) (hsz:w.heap.size ≤ w'.heap.size) (hos:w'.os = w.os) (htp:w'.tape = w.tape) (hou:w'.output = w.output):PS w' p B bs L s T:=by
  have hpx:∀ k,PX p T k → w'.heap[k]? = w.heap[k]?:=fun k hk=>hset k (h.xlt k hk) (fun hm=>hX k hm hk)
  have hp:=hpx p (.inl rfl)
  refine ⟨fun j=>(World.cell?_of_block hp).trans (h.cells j),fun j=>(World.frozen?_of_block hp).trans (h.frz j),?_,h.bytes,h.small,?_,?_,?_,h.base,?_,h.po,h.pt,h.pr,h.ot,h.or_,h.tr⟩
  ·obtain ⟨ba,cap,h1,h2,h3⟩:=h.row
   refine ⟨ba,cap,h1,h2,fun j hj=>?_⟩
   obtain ⟨g,e,hg,hc⟩:=h3 j hj
   refine ⟨g,e,hg,(World.cell?_of_block (hset g (lt_of_cell hc) (fun hm=>?_))).trans hc⟩
   obtain ⟨g',e',_,hc'⟩:=h3 0 (by omega)
   rw [e'] at e
   cases e
   obtain ⟨c,t,v,q1,_,q2,q3⟩:=hN g hm (lt_of_cell hc)
   rw [blk_cell q1 0,q2] at hc'
   exact q3 _ (Option.some.inj hc')
  · exact h.opn.move fun j hj=>hpx j (.inr (.inl hj))
  · exact h.text.move fun j hj=>hpx j (.inr (.inr (.inl hj)))
  ·obtain ⟨cs,h1,h2⟩:=h.ready
   refine ⟨cs,h1.move fun j hj=>hpx j (.inr (.inr (.inr hj))),h2.on fun k c hk hx=>⟨hset k (blk_lt hk) (fun hm=>?_),hx⟩⟩
   obtain ⟨c',t,v,q1,q2,_⟩:=hN k hm (blk_lt hk)
   rw [hk] at q1
   simp at q1
   exact q2 q1.2.symm
  ·obtain ⟨w0,h1,h2,h3⟩:=h.env
   exact ⟨w0,h1,⟨hos.trans h2.os,htp.trans h2.tape,hou.trans h2.output,Nat.le_trans h2.size hsz,fun j hj=>(hset j (Nat.lt_of_lt_of_le hj h2.size) (fun hm=>by have:=hB j hm;omega)).trans (h2.block j hj)⟩,h3⟩
end Go.Proofs.YtbaokjfhigjpdaaGreatDoorX
end
section
set_option linter.unusedVariables false
namespace Go.Proofs.YtbaokjfhigjpdaaGreatDoorN
open Go.RowKit Go.Shelf
theorem Sc.offM {w w':World} {q:Nat} {sv:Value} {L:List Binds} (h:Sc w q sv L) (hset:∀ j,j < w.heap.size → (j = q ∨ sv.ownBlock = some j ∨ ∃ es c,w.heap[j]? = some (.map es c)) → w'.heap[j]? = w.heap[j]?):Sc w' q sv L:=by
 obtain ⟨els,h1,h2,h3⟩:=h.rows
 have hq:=hset q h.lt (.inl rfl)
 refine ⟨(World.cell?_of_block hq).trans h.cell,(World.frozen?_of_block hq).trans h.frozen,⟨els,ownsRow_of_blocks h1 fun k hk=>hset k (h1.lt k hk).2 (.inr (.inl hk)),h2,fun e he=>?_⟩,h.apart,by obtain ⟨v,hv⟩:=h.typ;exact ⟨v,hq.trans hv⟩⟩
 have hm:=h3 e he
 obtain ⟨es,clock,hb,_⟩:=hm.out
 exact hm.of_block (hset _ hm.lt (.inr (.inr ⟨es,clock,hb⟩)))
theorem Sc.svlt {w:World} {q:Nat} {sv:Value} {L:List Binds} (h:Sc w q sv L):∀ k,sv.ownBlock = some k → k < w.heap.size:=by
 obtain ⟨els,h1,_⟩:=h.rows
 exact fun k hk=>(h1.lt k hk).2
theorem Sc.svty {w:World} {q:Nat} {sv:Value} {L:List Binds} (h:Sc w q sv L) {k:Nat} (hk:sv.ownBlock = some k):∃ c,w.heap[k]? = some (.cells c 161 (0,0)) ∧ (L ≠ [] → ∃ b,c[0]? = some (.map (some b))):=by
 obtain ⟨els,h1,h2,_⟩:=h.rows
 rcases h1.2 with ⟨rfl,_⟩ | ⟨g,cap,cur,rfl,_,hg,r1,r2,r3,r4⟩
 · simp [Value.ownBlock] at hk
 ·simp [Value.ownBlock] at hk
  subst hk
  refine ⟨cur,hg,fun hL=>?_⟩
  cases els with
  | nil=>exact absurd h2.symm hL
  | cons e r=>
   refine ⟨e.1,?_⟩
   have:(cur.toList.take ((e :: r).length * 1))[0]? = some (.map (some e.1)):=by rw [r4];rfl
   rw [List.getElem?_take] at this
   split at this
   · simpa using this
   · cases this
set_option maxRecDepth 100000 in
set_option maxHeartbeats 1000000 in
theorem close_set {w:World} {p:Nat} {sv:Value} {L:List Binds} (h:Sc w p sv L) (hL:L.length < 1099511627776) (hne:L ≠ []) :
    Calls Tryz.prog 43 #[.pointer (some ⟨p,0,none⟩)] w fun e W'=>e = .returned (.bool true) ∧ ∃ sv',Sc W' p sv' L.dropLast ∧ sv'.ownBlock = sv.ownBlock ∧ W' = w.setCell ⟨p,0,none⟩ sv':=by
  obtain ⟨n,hn⟩:∃ n,L.length = n + 1:=⟨L.length - 1,by have:=List.length_pos_iff.2 hne;omega⟩
  have hs:∃ g cap,sv = .slice (some ⟨g,0,none⟩) (n + 1) cap ∧ n + 1 ≤ cap ∧ cap ≤ maxLen:=by
   obtain ⟨els,h1,h2,_⟩:=h.rows
   have hl:els.length = n + 1:=by rw [← hn,← h2,List.length_map]
   rcases h1.2 with ⟨_,he⟩ | ⟨g,cap,cur,rfl,_,_,r1,r2,_⟩
   · omega
   · exact ⟨g,cap,by rw [hl],by omega,r2⟩
  obtain ⟨g,cap,rfl,hcap,hmax⟩:=hs
  have hd:=h.dropped hn
  have hc:=h.cell
  have hf:=h.frozen
  have hmax':(cap:Int) ≤ 9223372036854775807:=by unfold maxLen at hmax;omega
  have e1:((((n:Int) + 1) - 1).toNat) = n:=by omega
  have e2:((n + 1:Nat):Int) = (n:Int) + 1:=by omega
  go_enter Tryz.func43,Tryz.ntmps43
  go_wp2
  go_ret
  exact ⟨rfl,_,hd,rfl,rfl⟩
end Go.Proofs.YtbaokjfhigjpdaaGreatDoorN
end
section
set_option linter.unusedVariables false
namespace Go.Proofs.YtbaokjfhigjpdaaGreatDoorT
open Go.RowKit Go.Shelf
open Go.Proofs.YtbaokjfhigjpdaaGreatDoorN (Sc Fr Binds NA flatN flatB bindsL openS)
open Go.Proofs.YtbaokjfhigjpdaaGreatDoorX (RowAt PS PX Fx Lim St Tv NoPs blk_lt blk_set blk_cell lt_of_cell alloc_old ownsRow_of_blocks)
structure Pz (w0 wr:World) (p:Nat) (bs:List Int) (L:Lim) (s:St) (T:Tv) (q:Nat) (sv:Value) (Ls:List Binds) (ms:List NP) (ns:List ND) (ov:Value) (op:List Nat):Prop where
  below:Below w0.heap.size w0 wr
  ps:PS wr p w0.heap.size bs L s T
  sc:Sc wr q sv Ls
  ar:Ar wr w0.heap.size ms ns ov op
  qB:w0.heap.size ≤ q
  sB:∀ k,sv.ownBlock = some k → w0.heap.size ≤ k
  s0:∀ k,sv.ownBlock = some k → ∃ b,wr.cell? ⟨k,0,none⟩ = some (.map (some b))
  dps:∀ k,PX p T k → k ≠ q ∧ sv.ownBlock ≠ some k
  dpt:∀ k,PX p T k → ¬ TX ms ov k
  dst:∀ k,TX ms ov k → k ≠ q ∧ sv.ownBlock ≠ some k
  op0:op ≠ []
section
variable {w0 wr w':World} {p:Nat} {bs:List Int} {L:Lim} {s:St} {T:Tv} {q:Nat} {sv:Value} {Ls:List Binds} {ms:List NP} {ns:List ND} {ov:Value} {op:List Nat}
theorem px_cells (h:PS wr p w0.heap.size bs L s T) {k:Nat} (hk:PX p T k):∃ c t f,wr.heap[k]? = some (.cells c t f):=by
 have r:∀ {e:TypeId} {size n:Nat} {v:Value} {xs:List Value},RowAt wr e size v n xs → v.ownBlock = some k → ∃ c t f,wr.heap[k]? = some (.cells c t f):=by
  intro e size n v xs h hk
  rcases h.2 with ⟨rfl,_⟩ | ⟨g,off,cap,cur,rfl,hg,_⟩
  · simp [Value.ownBlock] at hk
  ·simp [Value.ownBlock] at hk
   subst hk
   exact ⟨_,_,_,hg⟩
 rcases hk with rfl | hk | hk | hk
 ·have hc:=h.here
  unfold World.cell? at hc
  cases ho:wr.heap[k]? with
  | none=>simp [ho] at hc
  | some o=>
   cases o with
   | cells c t f=>exact ⟨c,t,f,rfl⟩
   | _=>simp [ho] at hc
 · exact r h.opn hk
 · exact r h.text hk
 ·obtain ⟨cs,h1,_⟩:=h.ready
  exact r h1 hk
theorem Pz.grow (h:Pz w0 wr p bs L s T q sv Ls ms ns ov op) (hb:Below wr.heap.size wr w'):Pz w0 w' p bs L s T q sv Ls ms ns ov op :=
  ⟨h.below.trans (hb.mono h.below.size),h.ps.below hb,h.sc.below hb,h.ar.off fun k hk=>hb.block k (h.ar.below k hk),h.qB,h.sB,fun k hk=>by
   obtain ⟨b,hc⟩:=h.s0 k hk
   exact ⟨b,(World.cell?_of_block (hb.block k (lt_of_cell hc))).trans hc⟩,h.dps,h.dpt,h.dst,h.op0⟩
theorem Pz.next (h:Pz w0 wr p bs L s T q sv Ls ms ns ov op) {s':St} {T':Tv} (hS:PS w' p w0.heap.size bs L s' T') (hF:Fx wr w' p T T'):Pz w0 w' p bs L s' T' q sv Ls ms ns ov op:=by
 have hpB:∀ k,PX p T k → w0.heap.size ≤ k:=h.ps.base
 have new:∀ k,k < wr.heap.size → PX p T' k → PX p T k:=fun k hk hx=>(hF.grow k hx).elim id (by omega)
 refine ⟨⟨hF.os.trans h.below.os,hF.tape.trans h.below.tape,hF.output.trans h.below.output,Nat.le_trans h.below.size hF.size,fun k hk=>(hF.block k (Nat.lt_of_lt_of_le hk h.below.size) (fun hx=>by have:=hpB k hx;omega)).trans (h.below.block k hk)⟩,hS,h.sc.offM fun j hj hc=>hF.block j hj fun hx=>?_,h.ar.off fun k hk=>hF.block k (h.ar.below k hk) fun hx=>h.dpt k hx hk,h.qB,h.sB,fun k hk=>?_,fun k hx=>?_,fun k hx ht=>?_,h.dst,h.op0⟩
 ·rcases hc with rfl | hc | ⟨es,c,hc⟩
  · exact (h.dps j hx).1 rfl
  · exact (h.dps j hx).2 hc
  ·obtain ⟨c',t,f,e⟩:=px_cells h.ps hx
   rw [hc] at e
   cases e
 ·obtain ⟨b,hc⟩:=h.s0 k hk
  exact ⟨b,(World.cell?_of_block (hF.block k (lt_of_cell hc) fun hx=>(h.dps k hx).2 hk)).trans hc⟩
 ·rcases hF.grow k hx with hx | hx
  · exact h.dps k hx
  · exact ⟨fun e=>by have:=h.sc.lt;omega,fun e=>by have:=h.sc.svlt k e;omega⟩
 ·rcases hF.grow k hx with hx | hx
  · exact h.dpt k hx ht
  ·have:=h.ar.below k ht
   omega
theorem Pz.noSc (h:Pz w0 wr p bs L s T q sv Ls ms ns ov op):∀ k,(k = q ∨ sv.ownBlock = some k) → k < wr.heap.size → NoPs wr k:=by
 rintro k (rfl | hk) _
 ·obtain ⟨v,hv⟩:=h.sc.typ
  have hc:=h.sc.cell
  rw [blk_cell hv 0] at hc
  obtain ⟨a,cap,e⟩:=h.sc.slice
  refine ⟨_,_,v,hv,by decide,rfl,fun x hx=>?_⟩
  rw [hx,e] at hc
  simp at hc
 ·obtain ⟨c,hc,_⟩:=h.sc.svty hk
  obtain ⟨b,hb⟩:=h.s0 k hk
  rw [blk_cell hc 0] at hb
  exact ⟨c,_,_,hc,by decide,hb,fun x hx=>by cases hx⟩
theorem Pz.scope (h:Pz w0 wr p bs L s T q sv Ls ms ns ov op) {sv':Value} {L':List Binds} (hS:Sc w' q sv' L') (hF:Fr wr w' q sv) (hsv:sv'.ownBlock = sv.ownBlock ∨ ∃ k,sv'.ownBlock = some k ∧ wr.heap.size ≤ k) (h0:∀ k,sv'.ownBlock = some k → ∃ b,w'.cell? ⟨k,0,none⟩ = some (.map (some b))):Pz w0 w' p bs L s T q sv' L' ms ns ov op:=by
 have hs':∀ k,sv'.ownBlock = some k → sv.ownBlock = some k ∨ wr.heap.size ≤ k:=fun k hk=>by
  rcases hsv with e | ⟨k',e,hk'⟩
  · exact .inl (e ▸ hk)
  ·rw [e] at hk
   cases hk
   exact .inr hk'
 refine ⟨hF.below h.qB h.sB h.below h.below.size,?_,hS,h.ar.off fun k hk=>hF.block k (h.ar.below k hk) (h.dst k hk).1 (h.dst k hk).2,h.qB,fun k hk=>(hs' k hk).elim (h.sB k) (fun e=>Nat.le_trans h.below.size e),h0,fun k hx=>⟨(h.dps k hx).1,fun e=>?_⟩,h.dpt,fun k hk=>⟨(h.dst k hk).1,fun e=>?_⟩,h.op0⟩
 ·refine h.ps.offM (M:=fun k=>k = q ∨ sv.ownBlock = some k) (fun k hk hx=>?_) h.noSc (fun k hk=>?_) (fun j hj hm=>hF.block j hj (fun e=>hm (.inl e)) (fun e=>hm (.inr e))) hF.size hF.os hF.tape hF.output
  ·rcases hk with e | e
   · exact (h.dps k hx).1 e
   · exact (h.dps k hx).2 e
  ·rcases hk with rfl | e
   · exact h.qB
   · exact h.sB k e
 ·rcases hs' k e with e | e
  · exact (h.dps k hx).2 e
  ·have:=h.ps.xlt k hx
   omega
 ·rcases hs' k e with e | e
  · exact (h.dst k hk).2 e
  ·have:=h.ar.below k hk
   omega
theorem Pz.nodes (h:Pz w0 wr p bs L s T q sv Ls ms ns ov op) {ms':List NP} {ns':List ND} {ov':Value} {op':List Nat} (hA:Ar w' w0.heap.size ms' ns' ov' op') (h0:op' ≠ []) {M:Nat → Prop} (hM:∀ k,M k → TX ms ov k ∧ NoPs wr k) (hset:∀ k,k < wr.heap.size → ¬ M k → w'.heap[k]? = wr.heap[k]?)
    (hsz:wr.heap.size ≤ w'.heap.size) (hos:w'.os = wr.os) (htp:w'.tape = wr.tape) (hou:w'.output = wr.output) (hx:∀ k,TX ms' ov' k → TX ms ov k ∨ wr.heap.size ≤ k):Pz w0 w' p bs L s T q sv Ls ms' ns' ov' op':=by
  refine ⟨⟨hos.trans h.below.os,htp.trans h.below.tape,hou.trans h.below.output,Nat.le_trans h.below.size hsz,fun k hk=>(hset k (Nat.lt_of_lt_of_le hk h.below.size) (fun hm=>by have:=h.ar.base k (hM k hm).1;omega)).trans (h.below.block k hk)⟩,
    h.ps.offM (fun k hm hp=>h.dpt k hp (hM k hm).1) (fun k hm _=>(hM k hm).2) (fun k hm=>h.ar.base k (hM k hm).1) hset hsz hos htp hou,h.sc.offM fun j hj hc=>hset j hj fun hm=>?_,hA,h.qB,h.sB,fun k hk=>?_,h.dps,fun k hp ht=>?_,fun k ht=>?_,h0⟩
  ·obtain ⟨ht,c,t,v,e,_⟩:=hM j hm
   rcases hc with rfl | hc | ⟨es,c',hc⟩
   · exact (h.dst j ht).1 rfl
   · exact (h.dst j ht).2 hc
   ·rw [hc] at e
    cases e
  ·obtain ⟨b,hc⟩:=h.s0 k hk
   exact ⟨b,(World.cell?_of_block (hset k (lt_of_cell hc) fun hm=>(h.dst k (hM k hm).1).2 hk)).trans hc⟩
  ·rcases hx k ht with ht | ht
   · exact h.dpt k hp ht
   ·have:=h.ps.xlt k hp
    omega
  ·rcases hx k ht with ht | ht
   · exact h.dst k ht
   · exact ⟨fun e=>by have:=h.sc.lt;omega,fun e=>by have:=h.sc.svlt k e;omega⟩
end
end Go.Proofs.YtbaokjfhigjpdaaGreatDoorT
end
section
set_option linter.unusedVariables false
namespace Go.Proofs.YtbaokjfhigjpdaaGreatDoorT
open Go.RowKit Go.Shelf
open Go.Proofs.YtbaokjfhigjpdaaGreatDoorN (Sc Fr Binds NA flatN flatB bindsL openS)
open Go.Proofs.YtbaokjfhigjpdaaGreatDoorX (RowAt PS PX Fx Lim St Tv NoPs blk_lt blk_set blk_cell lt_of_cell alloc_old ownsRow_of_blocks)
theorem row_first {w:World} {v:Value} {x:Value} {xs:List Value} {n k:Nat} {e:TypeId} (h:w.ownsRow 0 e 1 v n (x :: xs)) (hk:v.ownBlock = some k):∃ c,w.heap[k]? = some (.cells c e (0,0)) ∧ c[0]? = some x:=by
 rcases h.2 with ⟨rfl,_⟩ | ⟨g,cap,cur,rfl,_,hg,r1,r2,r3,r4⟩
 · simp [Value.ownBlock] at hk
 ·simp [Value.ownBlock] at hk
  subst hk
  refine ⟨cur,hg,?_⟩
  have:(cur.toList.take (n * 1))[0]? = some x:=by rw [r4];rfl
  rw [List.getElem?_take] at this
  split at this
  · simpa using this
  · cases this
theorem NodeAt.noPs {w:World} {ms:List NP} {m:NP} {d:ND} (h:NodeAt w ms m d):∀ k,(k = m.b ∨ m.kv.ownBlock = some k) → NoPs w k:=by
 rintro k (rfl | hk)
 · exact ⟨_,_,.string d.sp,h.blk,by decide,rfl,fun x hx=>by cases hx⟩
 ·have hne:=h.kne k hk
  have hr:=h.kids
  cases hd:d.kids with
  | nil=>exact absurd hd hne
  | cons i r=>
   rw [hd] at hr
   obtain ⟨c,h1,h2⟩:=row_first hr hk
   exact ⟨c,_,_,h1,by decide,h2,fun x hx=>by unfold ptrOf at hx;cases hx⟩
theorem Ar.noOpen {w:World} {B:Nat} {ms:List NP} {ns:List ND} {ov:Value} {op:List Nat} (h:Ar w B ms ns ov op) (h0:op ≠ []):∀ k,ov.ownBlock = some k → NoPs w k:=by
 intro k hk
 have hr:=h.opn
 cases op with
 | nil=>exact absurd rfl h0
 | cons i r=>
  obtain ⟨c,h1,h2⟩:=row_first hr hk
  exact ⟨c,_,_,h1,by decide,h2,fun x hx=>by unfold ptrOf at hx;cases hx⟩
section
variable {w0 wr w':World} {p:Nat} {bs:List Int} {L:Lim} {s:St} {T:Tv} {q:Nat} {sv:Value} {Ls:List Binds} {ms:List NP} {ns:List ND} {ov:Value} {op:List Nat}
theorem Pz.add (h:Pz w0 wr p bs L s T q sv Ls ms ns ov op) {m:NP} {d:ND} (hn:NodeAt wr ms m d) (hkv:m.kv = .slice none 0 0) (hf:∀ k,NX m k → ¬ TX ms ov k) (hp:∀ k,NX m k → ¬ PX p T k) (hq:∀ k,NX m k → k ≠ q ∧ sv.ownBlock ≠ some k) (hB:∀ k,NX m k → w0.heap.size ≤ k):Pz w0 wr p bs L s T q sv Ls (ms ++ [m]) (ns ++ [d]) ov op:=by
 have hx:∀ k,TX (ms ++ [m]) ov k → TX ms ov k ∨ NX m k:=by
  rintro k (⟨x,hx,hk⟩ | hk)
  ·rcases List.mem_append.1 hx with hx | hx
   · exact .inl (.inl ⟨x,hx,hk⟩)
   ·simp at hx
    exact .inr (hx ▸ hk)
  · exact .inl (.inr hk)
 exact ⟨h.below,h.ps,h.sc,h.ar.add hn hkv hf hB,h.qB,h.sB,h.s0,h.dps,fun k hp' ht=>(hx k ht).elim (h.dpt k hp') (fun e=>hp k e hp'),fun k ht=>(hx k ht).elim (h.dst k) (hq k),h.op0⟩
theorem Pz.kid (h:Pz w0 wr p bs L s T q sv Ls ms ns ov op) {u j:Nat} {m mj:NP} {d:ND} (hm:ms[u]? = some m) (hd:ns[u]? = some d) (hj:ms[j]? = some mj) {w9:World} {o:Obj} {v':Value}
    (hown:w9.ownsRow 0 27 1 v' (d.kids.length + 1) (ptrs ms d.kids ++ [.pointer (some ⟨mj.b,0,none⟩)])) (hg:(wr.alloc o).grownBy w9 m.kv.ownBlock) (hat:v'.ownBlock = m.kv.ownBlock ∨ v'.ownBlock = some (wr.alloc o).heap.size) :
    Pz w0 (w9.setCell ⟨m.b,6,none⟩ v') p bs L s T q sv Ls (ms.set u { m with kv:=v' }) (ns.set u { d with kids:=d.kids ++ [j] }) ov op:=by
  obtain ⟨k1,k2,k3,k4⟩:=h.ar.kid hm hd hj hown hg hat h.below.size
  have hn:=h.ar.node u m d hm hd
  have hmm:=List.mem_of_getElem? hm
  refine h.nodes (M:=fun k=>k = m.b ∨ m.kv.ownBlock = some k) k1 h.op0 (fun k hk=>⟨.inl ⟨m,hmm,hk.elim .inl (fun e=>.inr (.inr (.inr e)))⟩,hn.noPs k hk⟩) (fun k hk hm=>k2 k hk (fun e=>hm (.inl e)) (fun e=>hm (.inr e))) k3 ?_ ?_ ?_ k4
  · exact hg.os
  · exact hg.tape
  · exact hg.output
theorem Pz.ended (h:Pz w0 wr p bs L s T q sv Ls ms ns ov op) {u:Nat} {m:NP} {d:ND} (hm:ms[u]? = some m) (hd:ns[u]? = some d) (en:Int):Pz w0 (wr.setCell ⟨m.b,3,none⟩ (.int .i64 en)) p bs L s T q sv Ls ms (ns.set u { d with en:=en }) ov op:=by
 have hn:=h.ar.node u m d hm hd
 have hmm:=List.mem_of_getElem? hm
 refine h.nodes (M:=fun k=>k = m.b) (h.ar.ended hm hd en) h.op0 (fun k hk=>⟨.inl ⟨m,hmm,.inl hk⟩,hn.noPs k (.inl hk)⟩) (fun k hk hm=>Below.heap_setCell wr ⟨m.b,3,none⟩ _ k hm) (by simp [World.setCell]) rfl rfl rfl fun k hk=>.inl hk
theorem Pz.push (h:Pz w0 wr p bs L s T q sv Ls ms ns ov op) {j:Nat} {mj:NP} (hj:ms[j]? = some mj) {w9:World} {o:Obj} {v':Value}
    (hown:w9.ownsRow 0 27 1 v' (op.length + 1) (ptrs ms op ++ [.pointer (some ⟨mj.b,0,none⟩)])) (hg:(wr.alloc o).grownBy w9 ov.ownBlock) (hat:v'.ownBlock = ov.ownBlock ∨ v'.ownBlock = some (wr.alloc o).heap.size) :
    Pz w0 w9 p bs L s T q sv Ls ms ns v' (op ++ [j]):=by
  obtain ⟨k1,k2,k3,k4⟩:=h.ar.push hj hown hg hat h.below.size
  exact h.nodes (M:=fun k=>ov.ownBlock = some k) k1 (by simp) (fun k hk=>⟨.inr hk,h.ar.noOpen h.op0 k hk⟩) k2 k3 hg.os hg.tape hg.output k4
theorem Pz.pop {A:Option Addr} {n c:Nat} (h:Pz w0 wr p bs L s T q sv Ls ms ns (.slice A (n + 1) c) op) (hn:op.length = n + 1) (h2:0 < n):Pz w0 wr p bs L s T q sv Ls ms ns (.slice A n c) op.dropLast:=by
 have own:(Value.slice A n c).ownBlock = (Value.slice A (n + 1) c).ownBlock:=by cases A <;> rfl
 have hx:∀ k,TX ms (.slice A n c) k → TX ms (.slice A (n + 1) c) k:=by
  rintro k (hk | hk)
  · exact .inl hk
  · exact .inr (own ▸ hk)
 exact ⟨h.below,h.ps,h.sc,h.ar.pop hn,h.qB,h.sB,h.s0,h.dps,fun k hp ht=>h.dpt k hp (hx k ht),fun k ht=>h.dst k (hx k ht),fun e=>by have:=congrArg List.length e;simp [hn] at this;omega⟩
end
end Go.Proofs.YtbaokjfhigjpdaaGreatDoorT
end
section
set_option linter.unusedVariables false
namespace Go.Proofs.YtbaokjfhigjpdaaGreatDoorX
open Go.RowKit Go.Shelf Go.Proofs.YtbaokjfhigjpdaaGreatDoor.PXmlBase Go.Proofs.YtbaokjfhigjpdaaGreatDoorW.PrintWords
def Er (bs:List Int) (f:Flt):Prop:=f.1 ≤ bs.length ∧ (f.2 = 2 ∨ f.2 = 3)
section
variable {bs:List Int} {a:Nat} {f:Flt}
theorem peek_er (hle:a ≤ bs.length) (h:peekS bs a = .error f):Er bs f:=by
 unfold peekS at h
 split at h
 · cases h
 ·split at h
  · cases h
  ·cases h
   exact ⟨hle,.inl rfl⟩
theorem must_er (hle:a ≤ bs.length) (h:mustS bs a = .error f):Er bs f:=by
 unfold mustS at h
 split at h
 ·cases h
  exact ⟨hle,.inl rfl⟩
 · exact peek_er hle h
theorem next_er (hle:a ≤ bs.length) (h:nextS bs a = .error f):Er bs f:=by
 unfold nextS at h
 split at h
 ·rename_i hq
  cases h
  exact peek_er hle hq
 · cases h
theorem refuse_er {cur:Nat} (hc:cur ≤ bs.length) (hle:a ≤ bs.length):Er bs (refuseF bs cur a):=by
 unfold refuseF
 split
 ·rename_i hq
  exact peek_er hc hq
 · exact ⟨hle,.inl rfl⟩
theorem whiteL_er (hb:Bytes bs):∀ (k a:Nat),a ≤ bs.length → whiteL bs k a = .error f → Er bs f
  | 0,a,hle,h=>by cases h
  | k + 1,a,hle,h=>by
   unfold whiteL at h
   split at h
   ·rename_i hq
    cases h
    exact peek_er hle hq
   ·rename_i r hq
    split at h
    · exact whiteL_er hb k _ (peek_step hb hle hq).1 h
    · cases h
theorem white_er (hb:Bytes bs) (hle:a ≤ bs.length) (h:whiteS bs a = .error f):Er bs f:=whiteL_er hb _ _ hle h
theorem early_er {l:List (List Int)} (h:earlyS bs l a = some f):Er bs f:=by
 unfold earlyS at h
 split at h
 ·cases h
  exact ⟨Nat.le_refl _,.inl rfl⟩
 · cases h
theorem want_er {w:List Int} (hle:a ≤ bs.length) (h:wantS bs w a = .error f):Er bs f:=by
 unfold wantS at h
 split at h
 · cases h
 ·split at h
  ·rename_i he
   cases h
   exact early_er he
  ·cases h
   exact refuse_er hle hle
theorem nameL_er {tk a0:Nat} (hb:Bytes bs) (h0:a0 ≤ bs.length):∀ (k a:Nat),a ≤ bs.length → nameL bs tk a0 k a = .error f → Er bs f
  | 0,a,hle,h=>by cases h
  | k + 1,a,hle,h=>by
   unfold nameL at h
   split at h
   ·rename_i hq
    cases h
    exact peek_er hle hq
   ·rename_i r hq
    split at h
    ·split at h
     ·cases h
      exact ⟨h0,.inr rfl⟩
     · exact nameL_er hb h0 k _ (peek_step hb hle hq).1 h
    · cases h
theorem name_er {tk:Nat} (hb:Bytes bs) (hle:a ≤ bs.length) (h:nameS bs tk a = .error f):Er bs f:=by
 unfold nameS at h
 split at h
 ·rename_i hq
  cases h
  exact peek_er hle hq
 ·split at h
  ·split at h
   ·rename_i hn
    cases h
    exact nameL_er hb hle _ _ hle hn
   · cases h
  ·cases h
   exact refuse_er hle hle
theorem numberL_er {base:Int} (hb:Bytes bs):∀ (k a:Nat) (v:Int),a ≤ bs.length → numberL bs base k v a = .error f → Er bs f
  | 0,a,v,hle,h=>by cases h
  | k + 1,a,v,hle,h=>by
   unfold numberL at h
   split at h
   ·rename_i hq
    cases h
    exact peek_er hle hq
   ·rename_i r hq
    split at h
    · exact numberL_er hb k _ _ (peek_step hb hle hq).1 h
    · cases h
theorem numberE_er {at_ fr:Nat} {v:Int} (h0:at_ ≤ bs.length) (hle:a ≤ bs.length) (h:numberE bs at_ fr v a = .error f):Er bs f:=by
 unfold numberE at h
 split at h
 ·rename_i hq
  cases h
  exact must_er hle hq
 ·split at h
  ·cases h
   exact refuse_er hle h0
  · cases h
theorem numberB_er {at_:Nat} {base:Int} (hb:Bytes bs) (h0:at_ ≤ bs.length) (hle:a ≤ bs.length) (h:numberB bs at_ base a = .error f):Er bs f:=by
 unfold numberB at h
 split at h
 ·rename_i hq
  cases h
  exact numberL_er hb _ _ _ hle hq
 ·rename_i hq
  exact numberE_er h0 (numberL_le hb _ _ _ _ _ hle hq).2 h
theorem number_er {at_:Nat} (hb:Bytes bs) (h0:at_ ≤ bs.length) (hle:a ≤ bs.length) (h:numberS bs at_ a = .error f):Er bs f:=by
 unfold numberS at h
 split at h
 ·rename_i hq
  cases h
  exact must_er hle hq
 ·rename_i hq
  split at h
  · exact numberB_er hb h0 (must_step hb hle hq).2 h
  · exact numberB_er hb h0 hle h
theorem ref_er {at_:Nat} (h0:at_ ≤ bs.length) (hle:a ≤ bs.length) (h:refS bs at_ a = .error f):Er bs f:=by
 unfold refS at h
 split at h
 · cases h
 ·split at h
  ·rename_i he
   cases h
   exact early_er he
  ·cases h
   exact refuse_er hle h0
theorem reference_er (hb:Bytes bs) (hle:a ≤ bs.length) (h:referenceS bs a = .error f):Er bs f:=by
 unfold referenceS at h
 split at h
 ·rename_i hq
  cases h
  exact next_er hle hq
 ·rename_i hq
  have g:=(next_le hb hle hq).2
  simp only at g
  split at h
  ·rename_i hm
   cases h
   exact must_er g hm
  ·rename_i hm
   split at h
   · exact number_er hb hle (must_step hb g hm).2 h
   · exact ref_er hle g h
theorem quote_er (hle:a ≤ bs.length) (h:quoteS bs a = .error f):Er bs f:=by
 unfold quoteS at h
 split at h
 ·rename_i hq
  cases h
  exact peek_er hle hq
 ·split at h
  ·cases h
   exact refuse_er hle hle
  · cases h
theorem cr_er {r:Int} (hle:a ≤ bs.length) (h:crS bs r a = .error f):Er bs f:=by
 unfold crS at h
 split at h
 ·split at h
  ·rename_i hq
   cases h
   exact peek_er hle hq
  · split at h <;> cases h
 · cases h
theorem valueStep_er {q:Int} (hb:Bytes bs) (hle:a ≤ bs.length) (h:valueStep bs q a = .error f):Er bs f:=by
 unfold valueStep at h
 split at h
 ·rename_i hq
  cases h
  exact must_er hle hq
 ·rename_i hq
  have g:=(must_step hb hle hq).2
  split at h
  · cases h
  ·split at h
   ·cases h
    exact refuse_er hle hle
   ·split at h
    ·split at h
     ·rename_i hr
      cases h
      exact reference_er hb hle hr
     · cases h
    ·split at h
     ·rename_i hr
      cases h
      exact cr_er g hr
     · cases h
theorem valueL_er {tk a0:Nat} {q:Int} (hb:Bytes bs) (h0:a0 ≤ bs.length):∀ (k:Nat) (out:List Int) (a:Nat),a ≤ bs.length → valueL bs tk a0 q k out a = .error f → Er bs f
  | 0,out,a,hle,h=>by cases h
  | k + 1,out,a,hle,h=>by
   unfold valueL at h
   split at h
   ·rename_i hq
    cases h
    exact valueStep_er hb hle hq
   · cases h
   ·rename_i hq
    split at h
    ·cases h
     exact ⟨h0,.inr rfl⟩
    · exact valueL_er hb h0 k _ _ (valueStep_le hb hle hq).2 h
theorem value_er {tk:Nat} (hb:Bytes bs) (hle:a ≤ bs.length) (h:valueS bs tk a = .error f):Er bs f:=by
 unfold valueS at h
 split at h
 ·rename_i hq
  cases h
  exact quote_er hle hq
 ·rename_i hq
  exact valueL_er hb hle _ _ _ (quote_le hb hle hq).2.1 h
theorem noteL_er (hb:Bytes bs):∀ (k a:Nat),a ≤ bs.length → noteL bs k a = .error f → Er bs f
  | 0,a,hle,h=>by cases h
  | k + 1,a,hle,h=>by
   unfold noteL at h
   split at h
   ·rename_i hq
    cases h
    exact must_er hle hq
   ·split at h
    ·rename_i hh
     have g:a + 2 ≤ bs.length:=has_le hle hh
     split at h
     ·rename_i hq
      cases h
      exact must_er g hq
     ·split at h
      ·cases h
       exact refuse_er g hle
      · cases h
    ·split at h
     ·rename_i hq
      cases h
      exact next_er hle hq
     ·rename_i hq
      exact noteL_er hb k _ (next_le hb hle hq).2 h
theorem note_er (hb:Bytes bs) (hle:a ≤ bs.length) (h:noteS bs a = .error f):Er bs f:=noteL_er hb _ _ hle h
theorem untilL_er {w:List Int} (hb:Bytes bs):∀ (k a:Nat),a ≤ bs.length → untilL bs w k a = .error f → Er bs f
  | 0,a,hle,h=>by cases h
  | k + 1,a,hle,h=>by
   unfold untilL at h
   split at h
   · cases h
   ·split at h
    ·rename_i hq
     cases h
     exact must_er hle hq
    ·rename_i hq
     exact untilL_er hb k _ (must_step hb hle hq).2 h
theorem instruction_er {tk:Nat} (hb:Bytes bs) (hle:a ≤ bs.length) (h:instructionS bs tk a = .error f):Er bs f:=by
 unfold instructionS at h
 split at h
 ·rename_i hq
  cases h
  exact must_er hle hq
 ·split at h
  ·rename_i hq
   cases h
   exact name_er hb hle hq
  ·rename_i hq
   have g:=(name_le hb hle hq).2
   simp only at g
   split at h
   ·cases h
    exact ⟨hle,.inl rfl⟩
   ·split at h
    · cases h
    ·split at h
     ·rename_i he
      cases h
      exact early_er he
     ·split at h
      ·rename_i hw
       cases h
       exact white_er hb g hw
      ·rename_i hw
       have g2:=(white_le hb g hw).2
       split at h
       ·cases h
        exact refuse_er g2 g2
       · exact untilL_er hb _ _ g2 h
theorem eq_er (hb:Bytes bs) (hle:a ≤ bs.length) (h:eqS bs a = .error f):Er bs f:=by
 unfold eqS at h
 split at h
 ·rename_i hw
  cases h
  exact white_er hb hle hw
 ·rename_i hw
  have g:=(white_le hb hle hw).2
  split at h
  ·rename_i hq
   cases h
   exact must_er g hq
  ·rename_i hq
   split at h
   ·cases h
    exact refuse_er g g
   · exact white_er hb (must_step hb g hq).2 h
theorem quoted_er {small:Bool} {ws:List (List Int)} (hb:Bytes bs) (hle:a ≤ bs.length) (h:quotedS bs small ws a = .error f):Er bs f:=by
 unfold quotedS at h
 split at h
 ·rename_i hq
  cases h
  exact must_er hle hq
 ·split at h
  ·rename_i hq
   cases h
   exact quote_er hle hq
  ·rename_i hq
   have g:=(quote_le hb hle hq).2.1
   simp only at g
   split at h
   · cases h
   ·split at h
    ·cases h
     exact ⟨Nat.le_refl _,.inl rfl⟩
    ·cases h
     exact refuse_er g g
theorem maybe_er {blank small:Bool} {nm:List Int} {ws:List (List Int)} (hb:Bytes bs) (hle:a ≤ bs.length) (h:maybeS bs blank nm small ws a = .error f):Er bs f:=by
 unfold maybeS at h
 split at h
 · cases h
 ·split at h
  ·rename_i hq
   cases h
   exact want_er hle hq
  ·rename_i hq
   have g1:=(want_le hle hq).2
   split at h
   ·rename_i hq
    cases h
    exact eq_er hb g1 hq
   ·rename_i hq
    have g2:=(eq_le hb g1 hq).2
    split at h
    ·rename_i hq
     cases h
     exact quoted_er hb g2 hq
    ·rename_i hq
     have g3:=(quoted_le hb g2 hq).2
     split at h
     ·rename_i hq
      cases h
      exact white_er hb g3 hq
     · cases h
theorem declaration_er (hb:Bytes bs) (hle:a ≤ bs.length) (h:declarationS bs a = .error f):Er bs f:=by
 unfold declarationS at h
 split at h
 ·rename_i hq
  cases h
  exact white_er hb hle hq
 ·rename_i hq
  have g1:=(white_le hb hle hq).2
  split at h
  ·rename_i hq
   cases h
   exact want_er g1 hq
  ·rename_i hq
   have g2:=(want_le g1 hq).2
   split at h
   ·rename_i hq
    cases h
    exact eq_er hb g2 hq
   ·rename_i hq
    have g3:=(eq_le hb g2 hq).2
    split at h
    ·rename_i hq
     cases h
     exact quoted_er hb g3 hq
    ·rename_i hq
     have g4:=(quoted_le hb g3 hq).2
     split at h
     ·rename_i hq
      cases h
      exact white_er hb g4 hq
     ·rename_i hq
      have g5:=(white_le hb g4 hq).2
      split at h
      ·rename_i hq
       cases h
       exact maybe_er hb g5 hq
      ·rename_i hq
       have g6:=(maybe_le hb g5 hq).2
       split at h
       ·rename_i hq
        cases h
        exact maybe_er hb g6 hq
       ·rename_i hq
        have g7:=(maybe_le hb g6 hq).2
        exact want_er g7 h
theorem miscL_er {tk:Nat} (hb:Bytes bs):∀ (k a:Nat),a ≤ bs.length → miscL bs tk k a = .error f → Er bs f
  | 0,a,hle,h=>by cases h
  | k + 1,a,hle,h=>by
   unfold miscL at h
   split at h
   ·rename_i hq
    cases h
    exact white_er hb hle hq
   ·rename_i hq
    have g:=(white_le hb hle hq).2
    split at h
    · cases h
    ·split at h
     ·rename_i hh
      have g4:=has_le g hh
      split at h
      ·rename_i hq
       cases h
       exact note_er hb g4 hq
      ·rename_i hq
       exact miscL_er hb k _ (note_le hb g4 hq).2 h
     ·split at h
      ·rename_i hh
       have g2:=has_le g hh
       split at h
       ·rename_i hq
        cases h
        exact instruction_er hb g2 hq
       ·rename_i hq
        exact miscL_er hb k _ (instruction_le hb g2 hq).2 h
      ·split at h
       ·split at h
        ·rename_i he
         cases h
         exact early_er he
        · cases h
       · cases h
theorem misc_er {tk:Nat} (hb:Bytes bs) (hle:a ≤ bs.length) (h:miscS bs tk a = .error f):Er bs f:=miscL_er hb _ _ hle h
theorem attrsL_er {tk na:Nat} (hb:Bytes bs):∀ (k:Nat) (out:List XA) (a:Nat),a ≤ bs.length → attrsL bs tk na k out a = .error f → Er bs f
  | 0,out,a,hle,h=>by cases h
  | k + 1,out,a,hle,h=>by
   unfold attrsL at h
   split at h
   ·rename_i hq
    cases h
    exact white_er hb hle hq
   ·rename_i hq
    have g1:=(white_le hb hle hq).2
    split at h
    ·rename_i hq
     cases h
     exact must_er g1 hq
    ·split at h
     · cases h
     ·split at h
      ·cases h
       exact refuse_er g1 g1
      ·split at h
       ·cases h
        exact ⟨g1,.inr rfl⟩
       ·split at h
        ·rename_i hq
         cases h
         exact name_er hb g1 hq
        ·rename_i hq
         have g2:=(name_le hb g1 hq).2
         simp only at g2
         split at h
         ·cases h
          exact ⟨g1,.inl rfl⟩
         ·split at h
          ·rename_i hq
           cases h
           exact eq_er hb g2 hq
          ·rename_i hq
           have g3:=(eq_le hb g2 hq).2
           split at h
           ·rename_i hq
            cases h
            exact must_er g3 hq
           ·split at h
            ·rename_i hq
             cases h
             exact value_er hb g3 hq
            ·rename_i hq
             exact attrsL_er hb k _ _ (value_le hb g3 hq).2 h
theorem attrs_er {tk na:Nat} (hb:Bytes bs) (hle:a ≤ bs.length) (h:attrsS bs tk na a = .error f):Er bs f:=attrsL_er hb _ _ _ hle h
theorem stray_er (hle:a ≤ bs.length) (h:strayS bs a = some f):Er bs f:=by
 unfold strayS at h
 split at h
 ·cases h
  exact ⟨hle,.inl rfl⟩
 · cases h
end
def Tx (bs:List Int) (s:St):Prop:=s.text ≠ [] → s.textAt ≤ bs.length
theorem Tx.at_ {bs:List Int} {s:St} (h:Tx bs s) (a:Nat):Tx bs { s with at_:=a }:=h
section
variable {bs:List Int} {L:Lim} {s:St} {at_:Nat} {f:Flt}
theorem put_er {r:Int} (ht:Tx bs s) (h0:at_ ≤ bs.length) (h:putS L s at_ r = .error f):Er bs f:=by
 unfold putS at h
 split at h
 ·cases h
  refine ⟨?_,.inr rfl⟩
  show (if s.text = [] then at_ else s.textAt) ≤ _
  split
  · exact h0
  ·rename_i hn
   exact ht hn
 · cases h
theorem put_tx {r:Int} {s':St} (ht:Tx bs s) (h0:at_ ≤ bs.length) (h:putS L s at_ r = .ok s'):Tx bs s':=by
 unfold putS at h
 split at h
 · cases h
 ·cases h
  intro _
  show (if s.text = [] then at_ else s.textAt) ≤ _
  split
  · exact h0
  ·rename_i hn
   exact ht hn
theorem line_er {r:Int} (hb:Bytes bs) (ht:Tx bs s) (h0:at_ ≤ bs.length) (hs:stepS r s.at_ ≤ bs.length) (h:lineS bs L s at_ r = .error f):Er bs f:=by
 unfold lineS at h
 split at h
 ·rename_i hq
  cases h
  exact cr_er hs hq
 · exact put_er (ht.at_ _) h0 h
theorem line_tx {r:Int} {s':St} (ht:Tx bs s) (h0:at_ ≤ bs.length) (h:lineS bs L s at_ r = .ok s'):Tx bs s':=by
 unfold lineS at h
 split at h
 · cases h
 · exact put_tx (ht.at_ _) h0 h
theorem tag_er (hb:Bytes bs) (hle:s.at_ ≤ bs.length) (h0:at_ ≤ bs.length) (h:tagS bs L s at_ = .error f):Er bs f:=by
 unfold tagS at h
 split at h
 ·cases h
  exact ⟨h0,.inr rfl⟩
 ·split at h
  ·rename_i hq
   cases h
   exact name_er hb hle hq
  ·rename_i hq
   have g1:=(name_le hb hle hq).2
   simp only at g1
   split at h
   ·rename_i hq
    cases h
    exact attrs_er hb g1 hq
   ·rename_i hq
    have g2:=(attrs_le hb g1 hq).2
    simp only at g2
    split at h
    ·rename_i hq
     cases h
     exact peek_er g2 hq
    ·rename_i hq
     have g3:=(peek_step hb g2 hq).1
     split at h
     ·split at h
      ·rename_i hq
       cases h
       exact must_er g3 hq
      ·split at h
       ·cases h
        exact refuse_er g3 g3
       · cases h
     · cases h
theorem end_er (hb:Bytes bs) (hle:s.at_ ≤ bs.length) (h0:at_ ≤ bs.length) (h:endS bs L s at_ = .error f):Er bs f:=by
 unfold endS at h
 split at h
 ·rename_i hq
  cases h
  exact must_er hle hq
 ·split at h
  ·rename_i hq
   cases h
   exact name_er hb hle hq
  ·rename_i hq
   have g1:=(name_le hb hle hq).2
   simp only at g1
   split at h
   ·rename_i hq
    cases h
    exact must_er g1 hq
   ·split at h
    ·cases h
     exact ⟨h0,.inl rfl⟩
    ·split at h
     ·rename_i hq
      cases h
      exact white_er hb g1 hq
     ·rename_i hq
      have g2:=(white_le hb g1 hq).2
      split at h
      ·rename_i hq
       cases h
       exact must_er g2 hq
      ·split at h
       ·cases h
        exact refuse_er g2 g2
       · cases h
theorem cdata_er (hb:Bytes bs) (h0:at_ ≤ bs.length):∀ (k:Nat) (s:St),Good bs L s → Tx bs s → cdataL bs L at_ k s = .error f → Er bs f
  | 0,s,hg,ht,h=>by cases h
  | k + 1,s,hg,ht,h=>by
   unfold cdataL at h
   split at h
   · cases h
   ·split at h
    ·rename_i hq
     cases h
     exact must_er hg.le hq
    ·rename_i hm
     have g:=must_step hb hg.le hm
     split at h
     ·rename_i hq
      cases h
      exact line_er hb ht h0 g.2 hq
     ·rename_i hl
      exact cdata_er hb h0 k _ (line_good hb hg g hl).1 (line_tx ht h0 hl) h
theorem cdata_tx {s':St} (h0:at_ ≤ bs.length):∀ (k:Nat) (s:St),Tx bs s → cdataL bs L at_ k s = .ok s' → Tx bs s'
  | 0,s,ht,h=>by
   cases h
   exact ht
  | k + 1,s,ht,h=>by
   unfold cdataL at h
   split at h
   ·cases h
    exact ht
   ·split at h
    · cases h
    ·split at h
     · cases h
     ·rename_i hl
      exact cdata_tx h0 k _ (line_tx ht h0 hl) h
theorem markT_er (hb:Bytes bs) (hle:s.at_ ≤ bs.length) (h:markT bs L s = .error f):Er bs f:=by
 unfold markT at h
 split at h
 ·rename_i hq
  cases h
  exact next_er hle hq
 ·rename_i hq
  have g1:=(next_le hb hle hq).2
  simp only at g1
  split at h
  ·rename_i hq
   cases h
   exact must_er g1 hq
  ·rename_i hq
   have g2:=(must_step hb g1 hq).2
   split at h
   ·split at h
    ·rename_i hq
     cases h
     exact instruction_er hb g2 hq
    · cases h
   ·split at h
    · exact end_er (s:={ s with at_:=_ }) hb g2 hle h
    ·split at h
     · exact tag_er (s:={ s with at_:=_ }) hb g1 hle h
     ·cases h
      exact refuse_er g1 g1
theorem markU_er (hb:Bytes bs) (hle:s.at_ ≤ bs.length) (h:markU bs L s = .error f):Er bs f:=by
 unfold markU at h
 split at h
 ·rename_i hq
  cases h
  exact stray_er hle hq
 · exact markT_er hb hle h
theorem mark_er (hb:Bytes bs) (hg:Good bs L s) (ht:Tx bs s) (h:markS bs L s = .error f):Er bs f:=by
 unfold markS at h
 split at h
 ·rename_i hh
  split at h
  ·rename_i hq
   cases h
   exact note_er hb (has_le hg.le hh) hq
  · cases h
 ·split at h
  ·rename_i hh
   exact cdata_er hb hg.le _ _ (hg.moved (has_le hg.le hh)) ht h
  ·split at h
   ·split at h
    ·rename_i he
     cases h
     exact early_er he
    · exact markU_er hb hg.le h
   · exact markU_er hb hg.le h
theorem contentT_er (hb:Bytes bs) (hg:Good bs L s) (ht:Tx bs s) (h:contentT bs L s = .error f):Er bs f:=by
 unfold contentT at h
 split at h
 ·rename_i hq
  cases h
  exact must_er hg.le hq
 ·rename_i hq
  have g:=(must_step hb hg.le hq).2
  split at h
  · exact mark_er hb hg ht h
  ·split at h
   ·split at h
    ·rename_i hq
     cases h
     exact reference_er hb hg.le hq
    · exact put_er (ht.at_ _) hg.le h
   ·split at h
    ·cases h
     exact refuse_er hg.le hg.le
    · exact line_er hb ht hg.le g h
theorem tell_tx (s:St) (l:List XE):Tx bs (tellS s l):=fun h=>absurd rfl h
theorem left_tx {s:St} (h:Tx bs s):Tx bs (leftS s):=by
 unfold leftS
 split
 · exact h
 · exact h
theorem tagE_tx {n:List Int} {l:List XA} {sl a:Nat} {e:Bool}:Tx bs (tagE L s at_ n l sl a e):=by
 unfold tagE
 split
 · exact left_tx (tell_tx _ _)
 · exact tell_tx _ _
theorem tag_tx {s':St} (h:tagS bs L s at_ = .ok s'):Tx bs s':=by
 unfold tagS at h
 split at h
 · cases h
 ·split at h
  · cases h
  ·split at h
   · cases h
   ·split at h
    · cases h
    ·split at h
     ·split at h
      · cases h
      ·split at h
       · cases h
       ·cases h
        exact tagE_tx
     ·cases h
      exact tagE_tx
theorem end_tx {s':St} (h:endS bs L s at_ = .ok s'):Tx bs s':=by
 unfold endS at h
 split at h
 · cases h
 ·split at h
  · cases h
  ·split at h
   · cases h
   ·split at h
    · cases h
    ·split at h
     · cases h
     ·split at h
      · cases h
      ·split at h
       · cases h
       ·cases h
        exact left_tx (tell_tx _ _)
theorem markT_tx {s':St} (ht:Tx bs s) (h:markT bs L s = .ok s'):Tx bs s':=by
 unfold markT at h
 split at h
 · cases h
 ·split at h
  · cases h
  ·split at h
   ·split at h
    · cases h
    ·cases h
     exact ht
   ·split at h
    · exact end_tx h
    ·split at h
     · exact tag_tx h
     · cases h
theorem markU_tx {s':St} (ht:Tx bs s) (h:markU bs L s = .ok s'):Tx bs s':=by
 unfold markU at h
 split at h
 · cases h
 · exact markT_tx ht h
theorem contentT_tx {s':St} (hle:s.at_ ≤ bs.length) (ht:Tx bs s) (h:contentT bs L s = .ok s'):Tx bs s':=by
 unfold contentT at h
 split at h
 · cases h
 ·split at h
  ·unfold markS at h
   split at h
   ·split at h
    · cases h
    ·cases h
     exact ht
   ·split at h
    · exact cdata_tx hle _ _ (ht.at_ _) h
    ·split at h
     ·split at h
      · cases h
      · exact markU_tx ht h
     · exact markU_tx ht h
  ·split at h
   ·split at h
    · cases h
    · exact put_tx (ht.at_ _) hle h
   ·split at h
    · cases h
    · exact line_tx ht hle h
theorem contentL_er (hb:Bytes bs):∀ (k:Nat) (s:St),Good bs L s → Tx bs s → contentL bs L k s = .error f → Er bs f
  | 0,s,hg,ht,h=>by cases h
  | k + 1,s,hg,ht,h=>by
   unfold contentL at h
   split at h
   · cases h
   ·rename_i hr
    have hr':s.ready = []:=Classical.not_not.1 hr
    split at h
    ·rename_i hq
     cases h
     exact contentT_er hb hg ht hq
    ·rename_i hq
     exact contentL_er hb k _ (contentT_good hb hg hr' hq).1 (contentT_tx hg.le ht hq) h
theorem contentL_tx {s':St} (hb:Bytes bs):∀ (k:Nat) (s:St),Good bs L s → Tx bs s → contentL bs L k s = .ok s' → Tx bs s'
  | 0,s,hg,ht,h=>by
   cases h
   exact ht
  | k + 1,s,hg,ht,h=>by
   unfold contentL at h
   split at h
   ·cases h
    exact ht
   ·rename_i hr
    have hr':s.ready = []:=Classical.not_not.1 hr
    split at h
    · cases h
    ·rename_i hq
     exact contentL_tx hb k _ (contentT_good hb hg hr' hq).1 (contentT_tx hg.le ht hq) h
theorem root_er {a:Nat} (hb:Bytes bs) (hle:a ≤ bs.length) (h:rootS bs L s a = .error f):Er bs f:=by
 unfold rootS at h
 split at h
 ·rename_i hq
  cases h
  exact misc_er hb hle hq
 ·rename_i hq
  have g1:=(misc_le hb hle hq).2
  split at h
  ·rename_i hq
   cases h
   exact must_er g1 hq
  ·rename_i hq
   have g2:=(must_step hb g1 hq).2
   split at h
   ·cases h
    exact refuse_er g1 g1
   ·split at h
    ·rename_i hq
     cases h
     exact stray_er g1 hq
    ·split at h
     ·rename_i hq
      cases h
      exact must_er g2 hq
     ·split at h
      · exact tag_er (s:={ s with at_:=_ }) hb g2 g1 h
      ·cases h
       exact refuse_er g2 g2
theorem root_tx {a:Nat} {s':St} (h:rootS bs L s a = .ok s'):Tx bs s':=by
 unfold rootS at h
 split at h
 · cases h
 ·split at h
  · cases h
  ·split at h
   · cases h
   ·split at h
    · cases h
    ·split at h
     · cases h
     ·split at h
      · exact tag_tx h
      · cases h
theorem body_er (hb:Bytes bs) (hg:Good bs L s) (ht:Tx bs s) (h:bodyS bs L s = .error f):Er bs f:=by
 unfold bodyS at h
 split at h
 ·unfold beginS at h
  split at h
  ·cases h
   exact ⟨Nat.zero_le _,.inr rfl⟩
  ·split at h
   ·rename_i hc
    split at h
    ·rename_i hq
     cases h
     exact declaration_er hb (by have:=hc.2.1;omega) hq
    ·rename_i hq
     exact root_er hb (declaration_le hb (by have:=hc.2.1;omega) hq).2 h
   · exact root_er hb hg.le h
 ·split at h
  · exact contentL_er hb _ _ hg ht h
  ·split at h
   ·unfold behindS at h
    split at h
    ·rename_i hq
     cases h
     exact misc_er hb hg.le hq
    ·rename_i hq
     have g1:=(misc_le hb hg.le hq).2
     split at h
     ·split at h
      ·rename_i hq
       cases h
       exact stray_er g1 hq
      ·cases h
       exact refuse_er g1 g1
     · cases h
   · cases h
theorem body_tx {s':St} (hb:Bytes bs) (hg:Good bs L s) (ht:Tx bs s) (h:bodyS bs L s = .ok s'):Tx bs s':=by
 unfold bodyS at h
 split at h
 ·unfold beginS at h
  split at h
  · cases h
  ·split at h
   ·split at h
    · cases h
    · exact root_tx h
   · exact root_tx h
 ·split at h
  · exact contentL_tx hb _ _ hg ht h
  ·split at h
   ·unfold behindS at h
    split at h
    · cases h
    ·split at h
     · split at h <;> cases h
     ·cases h
      exact ht
   ·cases h
    exact ht
end
end Go.Proofs.YtbaokjfhigjpdaaGreatDoorX
end
section
set_option linter.unusedVariables false
namespace Go.Proofs.YtbaokjfhigjpdaaGreatDoorX
open Go.RowKit Go.Shelf Go.Proofs.YtbaokjfhigjpdaaGreatDoor.PXmlBase Go.Proofs.YtbaokjfhigjpdaaGreatDoorW.PrintWords
section
variable {cs ts:List Int} {a:Nat}
theorem app_le (cs ts:List Int):cs.length ≤ (cs ++ ts).length:=by simp
end
end Go.Proofs.YtbaokjfhigjpdaaGreatDoorX
end
section
set_option linter.unusedVariables false
namespace Go.Proofs.YtbaokjfhigjpdaaGreatDoorX
open Go.RowKit Go.Shelf Go.Proofs.YtbaokjfhigjpdaaGreatDoor.PXmlBase Go.Proofs.YtbaokjfhigjpdaaGreatDoorW.PrintWords
section
variable {cs ts:List Int} {L:Lim} {s s':St} {at_:Nat}
theorem put_keep {r:Int} (h:putS L s at_ r = .ok s'):s'.at_ = s.at_ ∧ s'.ready = s.ready ∧ s'.fat = s.fat ∧ s'.ferr = s.ferr:=by
 unfold putS at h
 split at h
 · cases h
 ·cases h
  exact ⟨rfl,rfl,rfl,rfl⟩
end
section
variable {cs ts:List Int} {L:Lim} {s s':St}
end
def Fl (s s':St):Prop:=s'.fat = s.fat ∧ s'.ferr = s.ferr
section
variable {bs:List Int} {L:Lim} {s s':St} {at_:Nat}
theorem Fl.of {a:Nat} (h:Fl { s with at_:=a } s'):Fl s s':=h
theorem put_fl {r:Int} (h:putS L s at_ r = .ok s'):Fl s s':=(put_keep h).2.2
theorem line_fl {r:Int} (h:lineS bs L s at_ r = .ok s'):Fl s s':=by
 unfold lineS at h
 split at h
 · cases h
 ·have:=put_fl h
  exact ⟨this.1,this.2⟩
theorem left_fl {t:St} (h1:t.fat = s.fat) (h2:t.ferr = s.ferr):Fl s (leftS t):=by
 unfold leftS
 split <;> exact ⟨h1,h2⟩
theorem tagE_fl {n:List Int} {l:List XA} {sl a:Nat} {e:Bool}:Fl s (tagE L s at_ n l sl a e):=by
 unfold tagE
 split
 · exact left_fl rfl rfl
 · exact ⟨rfl,rfl⟩
theorem tag_fl (h:tagS bs L s at_ = .ok s'):Fl s s':=by
 unfold tagS at h
 split at h
 · cases h
 ·split at h
  · cases h
  ·split at h
   · cases h
   ·split at h
    · cases h
    ·split at h
     ·split at h
      · cases h
      ·split at h
       · cases h
       ·cases h
        exact tagE_fl
     ·cases h
      exact tagE_fl
theorem end_fl (h:endS bs L s at_ = .ok s'):Fl s s':=by
 unfold endS at h
 split at h
 · cases h
 ·split at h
  · cases h
  ·split at h
   · cases h
   ·split at h
    · cases h
    ·split at h
     · cases h
     ·split at h
      · cases h
      ·rename_i r hr
       split at h
       · cases h
       ·cases h
        exact left_fl rfl rfl
theorem cdata_fl:∀ (k:Nat) (s:St),cdataL bs L at_ k s = .ok s' → Fl s s'
  | 0,s,h=>by
   cases h
   exact ⟨rfl,rfl⟩
  | k + 1,s,h=>by
   unfold cdataL at h
   split at h
   ·cases h
    exact ⟨rfl,rfl⟩
   ·split at h
    · cases h
    ·split at h
     · cases h
     ·rename_i hl
      have h1:=line_fl hl
      have h2:=cdata_fl k _ h
      exact ⟨h2.1.trans h1.1,h2.2.trans h1.2⟩
theorem markT_fl (h:markT bs L s = .ok s'):Fl s s':=by
 unfold markT at h
 split at h
 · cases h
 ·split at h
  · cases h
  ·split at h
   ·split at h
    · cases h
    ·cases h
     exact ⟨rfl,rfl⟩
   ·split at h
    · exact (end_fl h).of
    ·split at h
     · exact (tag_fl h).of
     · cases h
theorem markU_fl (h:markU bs L s = .ok s'):Fl s s':=by
 unfold markU at h
 split at h
 · cases h
 · exact markT_fl h
theorem contentT_fl (h:contentT bs L s = .ok s'):Fl s s':=by
 unfold contentT at h
 split at h
 · cases h
 ·split at h
  ·unfold markS at h
   split at h
   ·split at h
    · cases h
    ·cases h
     exact ⟨rfl,rfl⟩
   ·split at h
    · exact (cdata_fl _ _ h).of
    ·split at h
     ·split at h
      · cases h
      · exact markU_fl h
     · exact markU_fl h
  ·split at h
   ·split at h
    · cases h
    ·have:=put_fl h
     exact ⟨this.1,this.2⟩
   ·split at h
    · cases h
    · exact line_fl h
theorem contentL_fl:∀ (k:Nat) (s:St),contentL bs L k s = .ok s' → Fl s s'
  | 0,s,h=>by
   cases h
   exact ⟨rfl,rfl⟩
  | k + 1,s,h=>by
   unfold contentL at h
   split at h
   ·cases h
    exact ⟨rfl,rfl⟩
   ·split at h
    · cases h
    ·rename_i hl
     have h1:=contentT_fl hl
     have h2:=contentL_fl k _ h
     exact ⟨h2.1.trans h1.1,h2.2.trans h1.2⟩
theorem root_fl {a:Nat} (h:rootS bs L s a = .ok s'):Fl s s':=by
 unfold rootS at h
 split at h
 · cases h
 ·split at h
  · cases h
  ·split at h
   · cases h
   ·split at h
    · cases h
    ·split at h
     · cases h
     ·split at h
      · exact (tag_fl h).of
      · cases h
theorem body_fl (h:bodyS bs L s = .ok s'):Fl s s':=by
 unfold bodyS at h
 split at h
 ·unfold beginS at h
  split at h
  · cases h
  ·split at h
   ·split at h
    · cases h
    · exact root_fl h
   · exact root_fl h
 ·split at h
  · exact contentL_fl _ _ h
  ·split at h
   ·unfold behindS at h
    split at h
    · cases h
    ·split at h
     · split at h <;> cases h
     ·cases h
      exact ⟨rfl,rfl⟩
   ·cases h
    exact ⟨rfl,rfl⟩
end
structure Goes (bs:List Int) (L:Lim) (s:St):Prop where
  inv:Inv bs L s
  tx:Tx bs s
  fat:s.fat = 0
  ferr:s.ferr = 0
  on:s.state ≠ 3
section
variable {bs:List Int} {L:Lim} {s u:St}
theorem goes0 (bs:List Int) (L:Lim):Goes bs L st0:=⟨st0_inv bs L,fun h=>absurd rfl h,rfl,rfl,by decide⟩
theorem goes_some {x:XE} (hb:Bytes bs) (h:Goes bs L s) (hn:nextE bs L s = (some x,u)):Goes bs L u ∧ muS bs.length u < muS bs.length s:=by
 have hg:=next_good hb h.inv (fun e=>absurd e h.on)
 rw [hn] at hg
 obtain ⟨g1,g2,g3⟩:=hg
 have key:Tx bs u ∧ u.fat = 0 ∧ u.ferr = 0:=by
  unfold nextE fillE at hn
  split at hn
  ·rename_i hc
   unfold stepE at hn
   split at hn
   ·rename_i s1 hs
    have t1:=body_tx hb h.inv.good h.tx hs
    have t2:=body_fl hs
    unfold popE at hn
    split at hn
    · cases hn
    ·cases hn
     exact ⟨t1,t2.1.trans h.fat,t2.2.trans h.ferr⟩
   ·unfold popE at hn
    simp only [hc.1] at hn
    cases hn
  ·unfold popE at hn
   split at hn
   · cases hn
   ·cases hn
    exact ⟨h.tx,h.fat,h.ferr⟩
 exact ⟨⟨g2,key.1,key.2.1,key.2.2,g1⟩,g3⟩
theorem goes_none (hb:Bytes bs) (h:Goes bs L s) (hn:nextE bs L s = (none,u)):(∃ f:Flt,Er bs f ∧ u.fat = f.1 ∧ u.ferr = f.2 ∧ bodyS bs L s = .error f ∧ s.ready = []) ∨ (s.state = 2 ∧ s.ready = [] ∧ u.fat = 0 ∧ u.ferr = 0 ∧ bodyS bs L s = .ok u):=by
 unfold nextE fillE at hn
 split at hn
 ·rename_i hc
  unfold stepE at hn
  split at hn
  ·rename_i s1 hs
   obtain ⟨k1,k2⟩:=body_good hb h.inv hc.1 hc.2 hs
   have t2:=body_fl hs
   unfold popE at hn
   split at hn
   ·rename_i hr
    cases hn
    refine .inr ⟨?_,hc.1,t2.1.trans h.fat,t2.2.trans h.ferr,hs⟩
    rcases k2 with k2 | k2
    · exact absurd hr k2.1
    ·have h3:=h.inv.top
     have h2:=k2.2
     by_cases e0:s.state = 0
     ·exfalso
      unfold bodyS at hs
      rw [if_pos e0] at hs
      unfold beginS at hs
      split at hs
      · cases hs
      ·split at hs
       ·rename_i hcc
        split at hs
        · cases hs
        ·rename_i a ha
         exact (root_good hb h.inv.good hc.1 (declaration_le hb (by omega) ha).2 hs).2.2.1 hr
       · exact (root_good hb h.inv.good hc.1 h.inv.good.le hs).2.2.1 hr
     ·by_cases e1:s.state = 1
      ·exfalso
       unfold bodyS at hs
       rw [if_neg e0,if_pos e1] at hs
       exact (contentL_good hb _ _ _ h.inv.good ⟨h.inv.fin,by omega,by omega⟩ (by omega) hs).2.2.1 hr
      ·have:=hc.2
       omega
   · cases hn
  ·rename_i f hs
   unfold popE at hn
   simp only [hc.1] at hn
   cases hn
   exact .inl ⟨f,body_er hb h.inv.good h.tx hs,rfl,rfl,hs,hc.1⟩
 ·rename_i hc
  exfalso
  unfold popE at hn
  split at hn
  ·rename_i hr
   exact hc ⟨hr,h.on⟩
  · cases hn
end
theorem Good.app {cs ts:List Int} {L:Lim} {s:St} (h:Good cs L s):Good (cs ++ ts) L s:=⟨Nat.le_trans h.le (app_le cs ts),h.nodes,h.opn,h.text,h.names,h.few⟩
theorem Goes.app {cs ts:List Int} {L:Lim} {s:St} (h:Goes cs L s):Goes (cs ++ ts) L s:=⟨⟨h.inv.good.app,h.inv.fin,h.inv.top,h.inv.zero⟩,fun e=>Nat.le_trans (h.tx e) (app_le cs ts),h.fat,h.ferr,h.on⟩
end Go.Proofs.YtbaokjfhigjpdaaGreatDoorX
end
section
set_option linter.unusedVariables false
namespace Go.Proofs.YtbaokjfhigjpdaaGreatDoorX
open Go.RowKit Go.Shelf Go.Proofs.YtbaokjfhigjpdaaGreatDoor.PXmlBase Go.Proofs.YtbaokjfhigjpdaaGreatDoorW.PrintWords
structure NS where
  prev:Option XE
  stk:List (List Int)
  roots:Nat
def okAt (p:Option XE) (a:Nat):Bool:=match p with
 | none=>true
 | some y=>decide (y.at_ ≤ a)
def noText (p:Option XE):Bool:=match p with
 | none=>true
 | some y=>decide (y.kind ≠ 3)
def nestF (n:NS) (x:XE):Option NS :=
  if okAt n.prev x.at_ = false then none
  else if x.kind = 1 then some ⟨some x,n.stk ++ [x.name],if n.stk = [] then n.roots + 1 else n.roots⟩
  else if x.kind = 2 then (if n.stk ≠ [] ∧ n.stk.getLastD [] = x.name then some ⟨some x,n.stk.dropLast,n.roots⟩ else none)
  else if x.kind = 3 then (if n.stk ≠ [] ∧ x.text ≠ [] ∧ noText n.prev = true then some ⟨some x,n.stk,n.roots⟩ else none)
  else none
theorem okAt_le {p:Option XE} {a b:Nat} (h:okAt p a = true) (hab:a ≤ b):okAt p b = true:=by
 unfold okAt at h ⊢
 split
 · rfl
 ·simp only [decide_eq_true_eq] at h ⊢
  omega
structure Nst (n:NS) (s:St):Prop where
  opn:n.stk = s.opn
  roots:n.roots = if s.state = 0 then 0 else 1
  zero:s.state = 0 → s.opn = [] ∧ s.text = []
  one:s.state = 1 → s.opn ≠ []
  two:s.state = 2 → s.opn = [] ∧ s.text = []
  top:s.state ≤ 2
  last:okAt n.prev (if s.text = [] then s.at_ else s.textAt) = true
  note:noText n.prev = true
  tx:s.text ≠ [] → s.textAt ≤ s.at_
theorem Nst.at_ {n:NS} {s:St} (h:Nst n s) {a:Nat} (ha:s.at_ ≤ a):Nst n { s with at_:=a }:=by
 refine ⟨h.opn,h.roots,h.zero,h.one,h.two,h.top,?_,h.note,fun e=>Nat.le_trans (h.tx e) ha⟩
 have hl:=h.last
 show okAt n.prev (if s.text = [] then a else s.textAt) = true
 split
 ·rename_i e
  rw [if_pos e] at hl
  exact okAt_le hl ha
 ·rename_i e
  rw [if_neg e] at hl
  exact hl
theorem Nst.here {n:NS} {s:St} (h:Nst n s):okAt n.prev s.at_ = true:=by
 have hl:=h.last
 split at hl
 · exact hl
 ·rename_i e
  exact okAt_le hl (h.tx e)
theorem text_nst {n:NS} {s:St} (h:Nst n s):∃ m,(textE s).foldlM nestF n = some m ∧ m.stk = n.stk ∧ m.roots = n.roots ∧ okAt m.prev s.at_ = true:=by
 unfold textE
 by_cases e:s.text = []
 ·rw [if_pos e]
  exact ⟨n,rfl,rfl,rfl,h.here⟩
 ·rw [if_neg e]
  have h0:s.state ≠ 0:=fun e0=>e (h.zero e0).2
  have h2:s.state ≠ 2:=fun e0=>e (h.two e0).2
  have h1:s.state = 1:=by have:=h.top;omega
  have hl:=h.last
  rw [if_neg e] at hl
  refine ⟨⟨some ⟨3,s.textAt,[],s.text,[]⟩,n.stk,n.roots⟩,?_,rfl,rfl,?_⟩
  ·show (nestF n ⟨3,s.textAt,[],s.text,[]⟩).bind _ = _
   unfold nestF
   rw [if_neg (by rw [hl];decide),if_neg (show ¬(3:Int) = 1 by decide),if_neg (show ¬(3:Int) = 2 by decide),if_pos rfl,if_pos ⟨by rw [h.opn];exact h.one h1,e,h.note⟩]
   rfl
  · exact decide_eq_true (h.tx e)
theorem nst_new {x:XE} {stk:List (List Int)} {s:St} (h1:stk = s.opn) (hs:s.state = 1 ∧ s.opn ≠ [] ∨ s.state = 2 ∧ s.opn = []) (ht:s.text = []) (ha:x.at_ ≤ s.at_) (hk:x.kind ≠ 3):Nst ⟨some x,stk,1⟩ s:=by
 refine ⟨h1,?_,fun e=>?_,fun e=>?_,fun e=>?_,?_,?_,decide_eq_true hk,fun e=>absurd ht e⟩
 · rw [if_neg (by omega)]
 · omega
 ·rcases hs with hs | hs
  · exact hs.2
  · omega
 ·rcases hs with hs | hs
  · omega
  · exact ⟨hs.2,ht⟩
 · omega
 ·rw [if_pos ht]
  exact decide_eq_true ha
theorem left_cases (s:St) (h1:s.state = 1):((leftS s).state = 1 ∧ (leftS s).opn ≠ []) ∨ ((leftS s).state = 2 ∧ (leftS s).opn = []):=by
 unfold leftS
 split
 ·rename_i e
  exact .inr ⟨rfl,e⟩
 ·rename_i e
  exact .inl ⟨h1,e⟩
theorem tagE_nst {L:Lim} {n:NS} {s0:St} {b at_ sl a:Nat} {nm:List Int} {l:List XA} {e:Bool} (h:Nst n s0) (hr:s0.ready = []) (h2:s0.state ≠ 2) (hat:s0.at_ ≤ at_) (h3:at_ ≤ sl) (h4:sl ≤ a) :
    ∃ m,(tagE L { s0 with at_:=b } at_ nm l sl a e).ready.foldlM nestF n = some m ∧ Nst m (tagE L { s0 with at_:=b } at_ nm l sl a e):=by
  obtain ⟨m,e1,e2,e3,e4⟩:=text_nst h
  have e5:okAt m.prev at_ = true:=okAt_le e4 hat
  have hroot:(if m.stk = [] then m.roots + 1 else m.roots) = 1:=by
   rw [e2,e3,h.opn,h.roots]
   by_cases h0:s0.state = 0
   · rw [if_pos (h.zero h0).1,if_pos h0]
   ·have h1:s0.state = 1:=by have:=h.top;omega
    rw [if_neg (h.one h1),if_neg h0]
  have f1:nestF m ⟨1,at_,nm,[],l⟩ = some ⟨some ⟨1,at_,nm,[],l⟩,s0.opn ++ [nm],1⟩:=by
   unfold nestF
   rw [if_neg (by rw [e5];decide),if_pos rfl,hroot,e2,h.opn]
  unfold tagE
  cases e with
  | true=>
   rw [if_pos rfl]
   have f2:nestF ⟨some ⟨1,at_,nm,[],l⟩,s0.opn ++ [nm],1⟩ ⟨2,sl,nm,[],[]⟩ = some ⟨some ⟨2,sl,nm,[],[]⟩,s0.opn,1⟩:=by
    unfold nestF
    have:okAt (some (⟨1,at_,nm,[],l⟩:XE)) sl = true:=decide_eq_true h3
    rw [if_neg (by rw [this];decide),if_neg (show ¬(2:Int) = 1 by decide),if_pos rfl,if_pos ⟨by simp,by simp⟩]
    simp
   generalize hX:({ s0 with at_:=b }:St) = s
   have hs:tellS { s with at_:=a,nodes:=s.nodes + 1,most:=max s.most (s.opn.length + 1),state:=1 } [⟨1,at_,nm,[],l⟩,⟨2,sl,nm,[],[]⟩] = { s0 with at_:=a,nodes:=s0.nodes + 1,most:=max s0.most (s0.opn.length + 1),state:=1,text:=[],ready:=textE s0 ++ [⟨1,at_,nm,[],l⟩,⟨2,sl,nm,[],[]⟩] }:=by
    subst hX
    unfold tellS textE
    simp [hr]
   rw [hs]
   have hl:=left_same ({ s0 with at_:=a,nodes:=s0.nodes + 1,most:=max s0.most (s0.opn.length + 1),state:=1,text:=[],ready:=textE s0 ++ [⟨1,at_,nm,[],l⟩,⟨2,sl,nm,[],[]⟩] }:St)
   have hc:=left_cases ({ s0 with at_:=a,nodes:=s0.nodes + 1,most:=max s0.most (s0.opn.length + 1),state:=1,text:=[],ready:=textE s0 ++ [⟨1,at_,nm,[],l⟩,⟨2,sl,nm,[],[]⟩] }:St) rfl
   refine ⟨⟨some ⟨2,sl,nm,[],[]⟩,s0.opn,1⟩,?_,nst_new hl.2.2.1.symm hc hl.2.2.2.1 (by rw [hl.1];exact h4) (show (2:Int) ≠ 3 by decide)⟩
   rw [hl.2.2.2.2.1]
   show (textE s0 ++ _).foldlM nestF n = _
   rw [List.foldlM_append,e1]
   show (nestF m ⟨1,at_,nm,[],l⟩).bind _ = _
   rw [f1]
   show (nestF _ ⟨2,sl,nm,[],[]⟩).bind _ = _
   rw [f2]
   rfl
  | false=>
   rw [if_neg (by decide)]
   generalize hX:({ s0 with at_:=b }:St) = s
   have hs:tellS { s with at_:=a,nodes:=s.nodes + 1,most:=max s.most (s.opn.length + 1),state:=1,opn:=s.opn ++ [nm] } [⟨1,at_,nm,[],l⟩] = { s0 with at_:=a,nodes:=s0.nodes + 1,most:=max s0.most (s0.opn.length + 1),state:=1,opn:=s0.opn ++ [nm],text:=[],ready:=textE s0 ++ [⟨1,at_,nm,[],l⟩] }:=by
    subst hX
    unfold tellS textE
    simp [hr]
   rw [hs]
   refine ⟨⟨some ⟨1,at_,nm,[],l⟩,s0.opn ++ [nm],1⟩,?_,nst_new rfl (.inl ⟨rfl,by simp⟩) rfl (by show at_ ≤ a;omega) (show (1:Int) ≠ 3 by decide)⟩
   show (textE s0 ++ _).foldlM nestF n = _
   rw [List.foldlM_append,e1]
   show (nestF m ⟨1,at_,nm,[],l⟩).bind _ = _
   rw [f1]
   rfl
section
variable {bs:List Int} {L:Lim} {s s':St} {n:NS}
theorem tag_nst {b at_:Nat} (hb:Bytes bs) (h:Nst n s) (hr:s.ready = []) (h2:s.state ≠ 2) (hat:s.at_ ≤ at_) (hab:at_ ≤ b) (hle:b ≤ bs.length) (ht:tagS bs L { s with at_:=b } at_ = .ok s'):∃ m,s'.ready.foldlM nestF n = some m ∧ Nst m s':=by
 unfold tagS at ht
 split at ht
 · cases ht
 ·split at ht
  · cases ht
  ·rename_i nm a1 h1
   obtain ⟨g1,g2⟩:=name_le hb (by exact hle) h1
   simp only at g1 g2
   split at ht
   · cases ht
   ·rename_i l a2 h3
    obtain ⟨g3,g4⟩:=attrs_le hb g2 h3
    simp only at g3 g4
    split at ht
    · cases ht
    ·rename_i r h4
     have g5:=step_ge r a2
     split at ht
     ·split at ht
      · cases ht
      ·rename_i r2 h5
       have g6:=step_ge r2 (stepS r a2)
       split at ht
       · cases ht
       ·cases ht
        exact tagE_nst h hr h2 hat (by omega) (by omega)
     ·cases ht
      exact tagE_nst h hr h2 hat (by omega) (by omega)
theorem end_nst {b at_:Nat} (hb:Bytes bs) (h:Nst n s) (hr:s.ready = []) (h1:s.state = 1) (hat:s.at_ = at_) (hab:at_ ≤ b) (hle:b ≤ bs.length) (ht:endS bs L { s with at_:=b } at_ = .ok s'):∃ m,s'.ready.foldlM nestF n = some m ∧ Nst m s':=by
 subst hat
 unfold endS at ht
 split at ht
 · cases ht
 ·split at ht
  · cases ht
  ·rename_i nm a1 hq1
   obtain ⟨g1,g2⟩:=name_le hb (by exact hle) hq1
   simp only at g1 g2
   split at ht
   · cases ht
   ·split at ht
    · cases ht
    ·rename_i hne
     split at ht
     · cases ht
     ·rename_i a2 hq2
      obtain ⟨g3,g4⟩:=white_le hb g2 hq2
      split at ht
      · cases ht
      ·rename_i r hq3
       have g5:=step_ge r a2
       split at ht
       · cases ht
       ·cases ht
        obtain ⟨m,e1,e2,e3,e4⟩:=text_nst h
        have hnm:s.opn.getLastD [] = nm:=(Classical.not_not.1 hne).symm
        have hro:m.roots = 1:=by rw [e3,h.roots,if_neg (by omega)]
        have f2:nestF m ⟨2,s.at_,nm,[],[]⟩ = some ⟨some ⟨2,s.at_,nm,[],[]⟩,s.opn.dropLast,1⟩:=by
         unfold nestF
         rw [if_neg (by rw [e4];decide),if_neg (show ¬(2:Int) = 1 by decide),if_pos rfl,if_pos ⟨by rw [e2,h.opn];exact h.one h1,by rw [e2,h.opn];exact hnm⟩,e2,h.opn,hro]
        have hs:tellS { s with at_:=stepS r a2,opn:=s.opn.dropLast } [⟨2,s.at_,nm,[],[]⟩] = { s with at_:=stepS r a2,opn:=s.opn.dropLast,text:=[],ready:=textE s ++ [⟨2,s.at_,nm,[],[]⟩] }:=by
         unfold tellS textE
         simp [hr]
        show ∃ m,(leftS (tellS { s with at_:=stepS r a2,opn:=s.opn.dropLast } [⟨2,s.at_,nm,[],[]⟩])).ready.foldlM nestF n = some m ∧ Nst m (leftS (tellS { s with at_:=stepS r a2,opn:=s.opn.dropLast } [⟨2,s.at_,nm,[],[]⟩]))
        rw [hs]
        have hl:=left_same ({ s with at_:=stepS r a2,opn:=s.opn.dropLast,text:=[],ready:=textE s ++ [⟨2,s.at_,nm,[],[]⟩] }:St)
        have hc:=left_cases ({ s with at_:=stepS r a2,opn:=s.opn.dropLast,text:=[],ready:=textE s ++ [⟨2,s.at_,nm,[],[]⟩] }:St) h1
        refine ⟨⟨some ⟨2,s.at_,nm,[],[]⟩,s.opn.dropLast,1⟩,?_,nst_new hl.2.2.1.symm hc hl.2.2.2.1 (by rw [hl.1];show s.at_ ≤ stepS r a2;omega) (show (2:Int) ≠ 3 by decide)⟩
        rw [hl.2.2.2.2.1]
        show (textE s ++ _).foldlM nestF n = _
        rw [List.foldlM_append,e1]
        show (nestF m ⟨2,s.at_,nm,[],[]⟩).bind _ = _
        rw [f2]
        rfl
theorem put_nst {at_:Nat} {r:Int} (h:Nst n s) (h1:s.state = 1) (ho:s.text = [] → okAt n.prev at_ = true) (hat:at_ ≤ s.at_) (hp:putS L s at_ r = .ok s'):Nst n s' ∧ s'.ready = s.ready ∧ s'.state = 1 ∧ s'.at_ = s.at_ ∧ (s'.text = [] → okAt n.prev at_ = true):=by
 unfold putS at hp
 split at hp
 · cases hp
 ·cases hp
  have hl:=h.last
  refine ⟨⟨h.opn,h.roots,fun e=>?_,h.one,fun e=>?_,h.top,?_,h.note,fun e=>?_⟩,rfl,h1,rfl,fun e=>ho ?_⟩
  ·have e':s.state = 0:=e
   omega
  ·have e':s.state = 2:=e
   omega
  ·show okAt n.prev (if s.text ++ encC r = [] then s.at_ else if s.text = [] then at_ else s.textAt) = true
   split
   · exact h.here
   ·split
    ·rename_i e
     exact ho e
    ·rename_i e
     rw [if_neg e] at hl
     exact hl
  ·show (if s.text = [] then at_ else s.textAt) ≤ s.at_
   split
   · exact hat
   ·rename_i e
    exact h.tx e
  · exact (List.append_eq_nil_iff.1 (show s.text ++ encC r = [] from e)).1
theorem line_nst {at_:Nat} {r:Int} (hb:Bytes bs) (h:Nst n s) (h1:s.state = 1) (ho:s.text = [] → okAt n.prev at_ = true) (hat:at_ ≤ s.at_) (hs:stepS r s.at_ ≤ bs.length) (hp:lineS bs L s at_ r = .ok s'):Nst n s' ∧ s'.ready = s.ready ∧ s'.state = 1 ∧ s.at_ ≤ s'.at_ ∧ s'.at_ ≤ bs.length ∧ (s'.text = [] → okAt n.prev at_ = true):=by
 unfold lineS at hp
 split at hp
 · cases hp
 ·rename_i a1 hq
  obtain ⟨g1,g2⟩:=cr_le hb hs hq
  have g3:=step_ge r s.at_
  obtain ⟨k1,k2,k3,k4,k5⟩:=put_nst (h.at_ (a:=a1) (by omega)) h1 ho (by show at_ ≤ a1;omega) hp
  exact ⟨k1,k2,k3,by rw [k4];show s.at_ ≤ a1;omega,by rw [k4];exact g2,k5⟩
theorem cdata_nst {at_:Nat} (hb:Bytes bs):∀ (k:Nat) (s:St),Nst n s → s.state = 1 → (s.text = [] → okAt n.prev at_ = true) → at_ ≤ s.at_ → s.at_ ≤ bs.length → cdataL bs L at_ k s = .ok s' → Nst n s' ∧ s'.ready = s.ready ∧ s'.state = 1
  | 0,s,h,h1,ho,hat,hle,hp=>by
   cases hp
   exact ⟨h,rfl,h1⟩
  | k + 1,s,h,h1,ho,hat,hle,hp=>by
   unfold cdataL at hp
   split at hp
   ·cases hp
    exact ⟨h.at_ (Nat.le_add_right _ _),rfl,h1⟩
   ·split at hp
    · cases hp
    ·rename_i r hm
     have g:=must_step hb hle hm
     split at hp
     · cases hp
     ·rename_i s1 hl
      obtain ⟨k1,k2,k3,k4,k5,k6⟩:=line_nst hb h h1 ho hat g.2 hl
      obtain ⟨m1,m2,m3⟩:=cdata_nst hb k s1 k1 k3 k6 (by omega) k5 hp
      exact ⟨m1,m2.trans k2,m3⟩
def Nx (n:NS) (s':St):Prop:=∃ m,s'.ready.foldlM nestF n = some m ∧ Nst m s'
theorem nx_same (h:Nst n s') (hr:s'.ready = []):Nx n s':=⟨n,by rw [hr];rfl,h⟩
theorem markT_nst (hb:Bytes bs) (h:Nst n s) (hr:s.ready = []) (h1:s.state = 1) (hle:s.at_ ≤ bs.length) (hp:markT bs L s = .ok s'):Nx n s':=by
 unfold markT at hp
 split at hp
 · cases hp
 ·rename_i r0 a1 h0
  obtain ⟨g1,g2⟩:=next_le hb hle h0
  simp only at g1 g2
  split at hp
  · cases hp
  ·rename_i r hm
   obtain ⟨g3,g4⟩:=must_step hb g2 hm
   split at hp
   ·split at hp
    · cases hp
    ·rename_i a2 hq
     obtain ⟨g5,g6⟩:=instruction_le hb g4 hq
     cases hp
     exact nx_same (h.at_ (by omega)) hr
   ·split at hp
    · exact end_nst hb h hr h1 rfl (by omega) g4 hp
    ·split at hp
     · exact tag_nst hb h hr (by omega) (Nat.le_refl _) g1 g2 hp
     · cases hp
theorem markU_nst (hb:Bytes bs) (h:Nst n s) (hr:s.ready = []) (h1:s.state = 1) (hle:s.at_ ≤ bs.length) (hp:markU bs L s = .ok s'):Nx n s':=by
 unfold markU at hp
 split at hp
 · cases hp
 · exact markT_nst hb h hr h1 hle hp
theorem contentT_nst (hb:Bytes bs) (hg:Good bs L s) (h:Nst n s) (hr:s.ready = []) (h1:s.state = 1) (hp:contentT bs L s = .ok s'):Nx n s' ∧ (s'.ready = [] → s'.state = 1):=by
 have hle:=hg.le
 have hst:s'.ready = [] → s'.state = 1:=by
  intro e
  rcases (contentT_good hb hg hr hp).2.2 with k | k
  · exact absurd e k
  · exact k.2.2.1.trans h1
 refine ⟨?_,hst⟩
 unfold contentT at hp
 split at hp
 · cases hp
 ·rename_i r hm
  have g:=must_step hb hle hm
  split at hp
  ·unfold markS at hp
   split at hp
   ·rename_i hh
    have g4:s.at_ + 4 ≤ bs.length:=has_le hle hh
    split at hp
    · cases hp
    ·rename_i a1 hq
     have g5:=note_le hb g4 hq
     cases hp
     exact nx_same (h.at_ (by omega)) hr
   ·split at hp
    ·rename_i hh
     have g9:s.at_ + 9 ≤ bs.length:=has_le hle hh
     obtain ⟨k1,k2,_⟩:=cdata_nst (n:=n) (at_:=s.at_) hb _ { s with at_:=s.at_ + 9 } (h.at_ (Nat.le_add_right _ _)) h1 (fun _=>h.here) (Nat.le_add_right _ _) g9 hp
     exact nx_same k1 (k2.trans hr)
    ·split at hp
     ·split at hp
      · cases hp
      · exact markU_nst hb h hr h1 hle hp
     · exact markU_nst hb h hr h1 hle hp
  ·split at hp
   ·split at hp
    · cases hp
    ·rename_i c a1 hq
     obtain ⟨g1,g2,_⟩:=reference_le hb hle hq
     simp only at g1 g2
     obtain ⟨k1,k2,_⟩:=put_nst (at_:=s.at_) (h.at_ (a:=a1) (by omega)) h1 (fun _=>h.here) (by show s.at_ ≤ a1;omega) hp
     exact nx_same k1 (k2.trans hr)
   ·split at hp
    · cases hp
    ·obtain ⟨k1,k2,_⟩:=line_nst (at_:=s.at_) hb h h1 (fun _=>h.here) (Nat.le_refl _) g.2 hp
     exact nx_same k1 (k2.trans hr)
theorem contentL_nst (hb:Bytes bs):∀ (k:Nat) (s:St),Good bs L s → bs.length + 2 ≤ k + s.at_ → Nst n s → s.ready = [] → s.state = 1 → contentL bs L k s = .ok s' → Nx n s'
  | 0,s,hg,hk,h,hr,h1,hp=>by have:=hg.le;omega
  | k + 1,s,hg,hk,h,hr,h1,hp=>by
   unfold contentL at hp
   rw [if_neg (by rw [hr];simp)] at hp
   split at hp
   · cases hp
   ·rename_i s1 hq
    obtain ⟨⟨m,k1,k2⟩,k3⟩:=contentT_nst hb hg h hr h1 hq
    obtain ⟨w1,w2,w3⟩:=contentT_good hb hg hr hq
    by_cases e:s1.ready = []
    ·rw [e] at k1
     cases k1
     exact contentL_nst hb k s1 w1 (by omega) k2 e (k3 e) hp
    ·cases k with
     | zero=>have:=w1.le;omega
     | succ k=>
      unfold contentL at hp
      rw [if_pos e] at hp
      cases hp
      exact ⟨m,k1,k2⟩
theorem root_nst {a:Nat} (hb:Bytes bs) (h:Nst n s) (hr:s.ready = []) (h2:s.state = 0) (ha:s.at_ ≤ a) (hle:a ≤ bs.length) (hp:rootS bs L s a = .ok s'):Nx n s':=by
 unfold rootS at hp
 split at hp
 · cases hp
 ·rename_i a1 hq
  obtain ⟨g1,g2⟩:=misc_le hb hle hq
  split at hp
  · cases hp
  ·rename_i r hm
   obtain ⟨g3,g4⟩:=must_step hb g2 hm
   split at hp
   · cases hp
   ·split at hp
    · cases hp
    ·split at hp
     · cases hp
     ·split at hp
      · exact tag_nst hb h hr (by omega) (by omega) (by omega) g4 hp
      · cases hp
theorem body_nst (hb:Bytes bs) (hI:Inv bs L s) (h:Nst n s) (hr:s.ready = []) (hne:s'.ready ≠ []) (hp:bodyS bs L s = .ok s'):Nx n s':=by
 unfold bodyS at hp
 split at hp
 ·rename_i h0
  unfold beginS at hp
  split at hp
  · cases hp
  ·split at hp
   ·rename_i hc
    split at hp
    · cases hp
    ·rename_i a hq
     have hz:=hI.zero h0
     exact root_nst hb h hr h0 (by omega) (declaration_le hb (by omega) hq).2 hp
   · exact root_nst hb h hr h0 (Nat.le_refl _) hI.good.le hp
 ·split at hp
  ·rename_i h1
   exact contentL_nst hb _ s hI.good (by omega) h hr h1 hp
  ·exfalso
   split at hp
   ·unfold behindS at hp
    split at hp
    · cases hp
    ·split at hp
     · split at hp <;> cases hp
     ·cases hp
      exact hne hr
   ·cases hp
    exact hne hr
end
def Qn (n:NS) (s:St):Prop:=∃ m,s.ready.foldlM nestF n = some m ∧ Nst m s
theorem qn0:Qn ⟨none,[],0⟩ st0:=⟨_,rfl,⟨rfl,rfl,fun _=>⟨rfl,rfl⟩,fun e=>(by cases e),fun e=>(by cases e),by decide,rfl,rfl,fun e=>absurd rfl e⟩⟩
theorem Nst.pop {n:NS} {s:St} (h:Nst n s) (r:List XE) (d:Int):Nst n { s with ready:=r,depth:=d }:=⟨h.opn,h.roots,h.zero,h.one,h.two,h.top,h.last,h.note,h.tx⟩
theorem nx_nst {bs:List Int} {L:Lim} {s u:St} {n:NS} {x:XE} (hb:Bytes bs) (hg:Goes bs L s) (hq:Qn n s) (hn:nextE bs L s = (some x,u)):∃ m,nestF n x = some m ∧ Qn m u:=by
 have key:∀ t:St,Qn n t → popE t = (some x,u) → ∃ m,nestF n x = some m ∧ Qn m u:=by
  rintro t ⟨m,e1,e2⟩ hp
  unfold popE at hp
  split at hp
  · cases hp
  ·rename_i y r hr
   cases hp
   rw [hr] at e1
   have e3:(nestF n x).bind (fun k=>r.foldlM nestF k) = some m:=e1
   obtain ⟨k,k1,k2⟩:=Option.bind_eq_some_iff.1 e3
   exact ⟨k,k1,m,k2,e2.pop _ _⟩
 unfold nextE fillE at hn
 split at hn
 ·rename_i hc
  unfold stepE at hn
  split at hn
  ·rename_i s1 hs
   obtain ⟨m,e1,e2⟩:=hq
   rw [hc.1] at e1
   cases e1
   have hne:s1.ready ≠ []:=by
    intro e
    unfold popE at hn
    rw [e] at hn
    cases hn
   exact key s1 (body_nst hb hg.inv e2 hc.1 hne hs) hn
  ·unfold popE at hn
   simp only [hc.1] at hn
   cases hn
 · exact key s hq hn
theorem allL_nst {bs:List Int} {L:Lim} (hb:Bytes bs):∀ (k:Nat) (s:St) (n:NS),Goes bs L s → Qn n s → muS bs.length s < k → ∃ m,(allL bs L k s).1.foldlM nestF n = some m ∧ m.roots ≤ 1 ∧ ((allL bs L k s).2.ferr = 0 → m.roots = 1 ∧ m.stk = [])
  | 0,s,n,hg,hq,hk=>by omega
  | k + 1,s,n,hg,hq,hk=>by
   cases hn:nextE bs L s with
   | mk o u=>
    cases o with
    | none=>
     have e1:allL bs L (k + 1) s = ([],u):=by rw [allL,hn]
     rw [e1]
     obtain ⟨m,q1,q2⟩:=hq
     have hro:=q2.roots
     rcases goes_none hb hg hn with ⟨f,p1,p2,p3,_,p5⟩ | ⟨p1,p2,_⟩
     ·rw [p5] at q1
      cases q1
      refine ⟨n,rfl,by rw [hro];split <;> omega,fun e=>?_⟩
      exfalso
      have:=p1.2
      simp only at e
      omega
     ·rw [p2] at q1
      cases q1
      refine ⟨n,rfl,by rw [hro];split <;> omega,fun e=>⟨by rw [hro,if_neg (by omega)],by rw [q2.opn];exact (q2.two p1).1⟩⟩
    | some x=>
     obtain ⟨g1,g2⟩:=goes_some hb hg hn
     obtain ⟨m,k1,k2⟩:=nx_nst hb hg hq hn
     have e1:allL bs L (k + 1) s = (x :: (allL bs L k u).1,(allL bs L k u).2):=by rw [allL,hn]
     obtain ⟨z,z1,z2,z3⟩:=allL_nst hb k u m g1 k2 (by omega)
     rw [e1]
     refine ⟨z,?_,z2,z3⟩
     show (nestF n x).bind (fun k=>_) = _
     rw [k1]
     exact z1
theorem all_nst {bs:List Int} {L:Lim} (hb:Bytes bs):∃ m,(allE bs L).1.foldlM nestF ⟨none,[],0⟩ = some m ∧ m.roots ≤ 1 ∧ ((allE bs L).2.ferr = 0 → m.roots = 1 ∧ m.stk = []):=allL_nst hb _ st0 _ (goes0 _ _) qn0 (Nat.lt_succ_self _)
end Go.Proofs.YtbaokjfhigjpdaaGreatDoorX
end
section
set_option linter.unusedVariables false
namespace Go.Proofs.YtbaokjfhigjpdaaGreatDoorX
open Go.RowKit Go.Shelf Go.Proofs.YtbaokjfhigjpdaaGreatDoor.PXmlBase Go.Proofs.YtbaokjfhigjpdaaGreatDoorW.PrintWords
section
variable {bs:List Int} {tk tk':Nat}
theorem name_start {a:Nat} {r:Int} {x:List Int × Nat} (hm:mustS bs a = .ok r) (h:nameS bs tk a = .ok x):startB r = true:=by
 unfold nameS at h
 rw [(must_ok hm).1] at h
 simp only at h
 split at h
 ·rename_i hs
  exact hs
 · cases h
end
section
variable {bs:List Int} {L D:Lim} {s:St} {at_:Nat}
end
theorem allL_len {bs:List Int} {L:Lim} (hb:Bytes bs):∀ (k:Nat) (s:St),Goes bs L s → (allL bs L k s).1.length ≤ muS bs.length s
  | 0,s,hg=>Nat.zero_le _
  | k + 1,s,hg=>by
   cases hn:nextE bs L s with
   | mk o u=>
    cases o with
    | none=>
     have e1:allL bs L (k + 1) s = ([],u):=by rw [allL,hn]
     rw [e1]
     exact Nat.zero_le _
    | some x=>
     obtain ⟨g1,g2⟩:=goes_some hb hg hn
     have e1:allL bs L (k + 1) s = (x :: (allL bs L k u).1,(allL bs L k u).2):=by rw [allL,hn]
     have:=allL_len hb k u g1
     rw [e1]
     simp only [List.length_cons]
     omega
theorem all_len {bs:List Int} {L:Lim} (hb:Bytes bs):(allE bs L).1.length ≤ 1 + 20 * bs.length:=allL_len hb _ st0 (goes0 _ _)
end Go.Proofs.YtbaokjfhigjpdaaGreatDoorX
end
section
set_option linter.unusedVariables false
namespace Go.Proofs.YtbaokjfhigjpdaaGreatDoorX
open Go.RowKit Go.Shelf Go.Proofs.YtbaokjfhigjpdaaGreatDoor.PXmlBase Go.Proofs.YtbaokjfhigjpdaaGreatDoorW.PrintWords
def Fa (L:Lim) (s:St):Prop:=∀ x ∈ s.ready,x.attrs.length ≤ L.attrs
def Fw (L:Lim) (s s':St):Prop:=Fa L s → Fa L s'
section
variable {bs:List Int} {L:Lim} {s s':St} {at_:Nat}
theorem Fw.of {a:Nat} (h:Fw L { s with at_:=a } s'):Fw L s s':=h
theorem put_fw {r:Int} (h:putS L s at_ r = .ok s'):Fw L s s':=by
 intro q
 unfold Fa
 rw [(put_keep h).2.1]
 exact q
theorem line_fw {r:Int} (h:lineS bs L s at_ r = .ok s'):Fw L s s':=by
 unfold lineS at h
 split at h
 · cases h
 ·have:=put_fw h
  exact this
theorem left_fw {t:St} (h:Fw L s t):Fw L s (leftS t):=by
 unfold leftS
 split <;> exact h
theorem tell_fw {l:List XE} (hl:∀ x ∈ l,x.attrs.length ≤ L.attrs) (t:St) (h:t.ready = s.ready):Fw L s (tellS t l):=by
 intro q x hx
 simp only [tellS,textE,h,List.mem_append] at hx
 rcases hx with (hx | hx) | hx
 · exact q x hx
 ·split at hx
  · cases hx
  ·simp only [List.mem_singleton] at hx
   rw [hx]
   exact Nat.zero_le _
 · exact hl x hx
theorem tagE_fw {n:List Int} {l:List XA} {sl a:Nat} {e:Bool} (hl:l.length ≤ L.attrs):Fw L s (tagE L s at_ n l sl a e):=by
 unfold tagE
 split
 ·refine left_fw (tell_fw (fun x hx=>?_) _ rfl)
  simp only [List.mem_cons,List.not_mem_nil,or_false] at hx
  rcases hx with rfl | rfl
  · exact hl
  · exact Nat.zero_le _
 ·refine tell_fw (fun x hx=>?_) _ rfl
  simp only [List.mem_singleton] at hx
  rw [hx]
  exact hl
theorem attrsL_few {tk na:Nat}:∀ (k:Nat) (out:List XA) (a:Nat) (x:List XA × Nat),out.length ≤ na → attrsL bs tk na k out a = .ok x → x.1.length ≤ na
  | 0,out,a,x,ho,h=>by
   cases h
   exact ho
  | k + 1,out,a,x,ho,h=>by
   unfold attrsL at h
   split at h
   · cases h
   ·rename_i a1 h1
    split at h
    · cases h
    ·rename_i r hm
     split at h
     ·cases h
      exact ho
     ·split at h
      · cases h
      ·split at h
       · cases h
       ·rename_i hs
        split at h
        · cases h
        ·rename_i n a2 hx
         have hst:=name_start hm hx
         have hlt:out.length < na:=by
          rcases Nat.lt_or_ge out.length na with q | q
          · exact q
          · exact absurd ⟨hst,by omega⟩ hs
         split at h
         · cases h
         ·split at h
          · cases h
          ·split at h
           · cases h
           ·split at h
            · cases h
            · exact attrsL_few k _ _ x (by rw [List.length_append,List.length_singleton];omega) h
theorem tag_fw (h:tagS bs L s at_ = .ok s'):Fw L s s':=by
 unfold tagS at h
 split at h
 · cases h
 ·split at h
  · cases h
  ·split at h
   · cases h
   ·rename_i l a2 ha
    have hl:l.length ≤ L.attrs:=attrsL_few _ _ _ _ (Nat.zero_le _) ha
    split at h
    · cases h
    ·split at h
     ·split at h
      · cases h
      ·split at h
       · cases h
       ·cases h
        exact tagE_fw hl
     ·cases h
      exact tagE_fw hl
theorem end_fw (h:endS bs L s at_ = .ok s'):Fw L s s':=by
 unfold endS at h
 split at h
 · cases h
 ·split at h
  · cases h
  ·split at h
   · cases h
   ·split at h
    · cases h
    ·split at h
     · cases h
     ·split at h
      · cases h
      ·rename_i r hr
       split at h
       · cases h
       ·cases h
        refine left_fw (tell_fw (fun x hx=>?_) _ rfl)
        simp only [List.mem_singleton] at hx
        rw [hx]
        exact Nat.zero_le _
theorem cdata_fw:∀ (k:Nat) (s:St),cdataL bs L at_ k s = .ok s' → Fw L s s'
  | 0,s,h=>by
   cases h
   exact fun q=>q
  | k + 1,s,h=>by
   unfold cdataL at h
   split at h
   ·cases h
    exact fun q=>q
   ·split at h
    · cases h
    ·split at h
     · cases h
     ·rename_i hl
      have h1:=line_fw hl
      have h2:=cdata_fw k _ h
      exact fun q=>h2 (h1 q)
theorem markT_fw (h:markT bs L s = .ok s'):Fw L s s':=by
 unfold markT at h
 split at h
 · cases h
 ·split at h
  · cases h
  ·split at h
   ·split at h
    · cases h
    ·cases h
     exact fun q=>q
   ·split at h
    · exact (end_fw h).of
    ·split at h
     · exact (tag_fw h).of
     · cases h
theorem markU_fw (h:markU bs L s = .ok s'):Fw L s s':=by
 unfold markU at h
 split at h
 · cases h
 · exact markT_fw h
theorem contentT_fw (h:contentT bs L s = .ok s'):Fw L s s':=by
 unfold contentT at h
 split at h
 · cases h
 ·split at h
  ·unfold markS at h
   split at h
   ·split at h
    · cases h
    ·cases h
     exact fun q=>q
   ·split at h
    · exact (cdata_fw _ _ h).of
    ·split at h
     ·split at h
      · cases h
      · exact markU_fw h
     · exact markU_fw h
  ·split at h
   ·split at h
    · cases h
    ·have:=put_fw h
     exact this
   ·split at h
    · cases h
    · exact line_fw h
theorem contentL_fw:∀ (k:Nat) (s:St),contentL bs L k s = .ok s' → Fw L s s'
  | 0,s,h=>by
   cases h
   exact fun q=>q
  | k + 1,s,h=>by
   unfold contentL at h
   split at h
   ·cases h
    exact fun q=>q
   ·split at h
    · cases h
    ·rename_i hl
     have h1:=contentT_fw hl
     have h2:=contentL_fw k _ h
     exact fun q=>h2 (h1 q)
theorem root_fw {a:Nat} (h:rootS bs L s a = .ok s'):Fw L s s':=by
 unfold rootS at h
 split at h
 · cases h
 ·split at h
  · cases h
  ·split at h
   · cases h
   ·split at h
    · cases h
    ·split at h
     · cases h
     ·split at h
      · exact (tag_fw h).of
      · cases h
theorem body_fw (h:bodyS bs L s = .ok s'):Fw L s s':=by
 unfold bodyS at h
 split at h
 ·unfold beginS at h
  split at h
  · cases h
  ·split at h
   ·split at h
    · cases h
    · exact root_fw h
   · exact root_fw h
 ·split at h
  · exact contentL_fw _ _ h
  ·split at h
   ·unfold behindS at h
    split at h
    · cases h
    ·split at h
     · split at h <;> cases h
     ·cases h
      exact fun q=>q
   ·cases h
    exact fun q=>q
end
theorem nx_fw {bs:List Int} {L:Lim} {s u:St} {x:XE} (h:Fa L s) (hn:nextE bs L s = (some x,u)):x.attrs.length ≤ L.attrs ∧ Fa L u:=by
 have hf:Fa L (fillE bs L s):=by
  unfold fillE
  split
  ·unfold stepE
   split
   ·rename_i hs
    exact body_fw hs h
   · exact h
  · exact h
 unfold nextE popE at hn
 split at hn
 · cases hn
 ·rename_i e r he
  cases hn
  refine ⟨hf x (by rw [he];exact List.mem_cons_self),fun y hy=>hf y (by rw [he];exact List.mem_cons_of_mem _ hy)⟩
theorem allL_fw {bs:List Int} {L:Lim}:∀ (k:Nat) (s:St),Fa L s → ∀ x ∈ (allL bs L k s).1,x.attrs.length ≤ L.attrs
  | 0,s,h,x,hx=>by cases hx
  | k + 1,s,h,x,hx=>by
   cases hn:nextE bs L s with
   | mk o u=>
    cases o with
    | none=>
     have e1:allL bs L (k + 1) s = ([],u):=by rw [allL,hn]
     rw [e1] at hx
     cases hx
    | some y=>
     obtain ⟨g1,g2⟩:=nx_fw h hn
     have e1:allL bs L (k + 1) s = (y :: (allL bs L k u).1,(allL bs L k u).2):=by rw [allL,hn]
     rw [e1] at hx
     rcases List.mem_cons.1 hx with rfl | hx
     · exact g1
     · exact allL_fw k u g2 x hx
theorem all_few (bs:List Int) (L:Lim):∀ x ∈ (allE bs L).1,x.attrs.length ≤ L.attrs:=allL_fw _ st0 (fun x hx=>by cases hx)
end Go.Proofs.YtbaokjfhigjpdaaGreatDoorX
end
section
set_option linter.unusedVariables false
namespace Go.Proofs.YtbaokjfhigjpdaaGreatDoorT
open Go.RowKit Go.Shelf Go.Proofs.YtbaokjfhigjpdaaGreatDoor.PXmlBase Go.Proofs.YtbaokjfhigjpdaaGreatDoorW.PrintWords
open Go.Proofs.YtbaokjfhigjpdaaGreatDoorN (Binds NA bindsL openS openEnd openTo)
open Go.Proofs.YtbaokjfhigjpdaaGreatDoorX (XE St Lim NS nestF allE)
structure TS where
  ns:List ND
  op:List Nat
  L:List Binds
def evA (x:XE):List (ByteArray × ByteArray × Int):=x.attrs.map fun a=>(strOfNums a.name,strOfNums a.value,(a.at_:Int))
def kidS (ns:List ND) (u j:Nat):List ND:=match ns[u]? with
 | some d=>ns.set u { d with kids:=d.kids ++ [j] }
 | none=>ns
def endN (ns:List ND) (u:Nat) (en:Int):List ND:=match ns[u]? with
 | some d=>ns.set u { d with en:=en }
 | none=>ns
def topS (t:TS):Nat:=t.op.getLastD 0
def evS (t:TS) (x:XE):Except (Int × Int) TS :=
  if x.kind = 1 then (match openS t.L (strOfNums x.name) x.at_ (evA x) with
   | (.error f,_)=>.error (f.1,2)
   | (.ok (n,l),L')=>.ok ⟨kidS (t.ns ++ [⟨n.1,n.2,x.at_,0,l,bindsL L',[],⟨#[]⟩⟩]) (topS t) t.ns.length,t.op ++ [t.ns.length],L'⟩)
  else if x.kind = 3 then .ok ⟨kidS (t.ns ++ [⟨⟨#[]⟩,⟨#[]⟩,x.at_,0,[],[],[],strOfNums x.text⟩]) (topS t) t.ns.length,t.op,t.L⟩
  else .ok ⟨endN t.ns (topS t) x.at_,t.op.dropLast,t.L.dropLast⟩
def ts0:TS:=⟨[⟨⟨#[]⟩,⟨#[]⟩,0,0,[],[],[],⟨#[]⟩⟩],[0],[]⟩
def parseS (bs:List Int) (L:Lim):Except (Int × Int) TS:=match (allE bs L).1.foldlM evS ts0 with
 | .error f=>.error f
 | .ok t=>if (allE bs L).2.ferr ≠ 0 then .error ((allE bs L).2.fat,(allE bs L).2.ferr) else .ok t
structure TI (t:TS) (n:NS):Prop where
  op:t.op.length = n.stk.length + 1
  L:t.L.length = n.stk.length
  head:t.op[0]? = some 0
  tl:∀ (i u:Nat),0 < i → t.op[i]? = some u → 0 < u
  lt:∀ u ∈ t.op,u < t.ns.length
  kids:∀ (i:Nat) (d:ND),t.ns[i]? = some d → ∀ j ∈ d.kids,i < j ∧ j < t.ns.length
  root:∃ d,t.ns[0]? = some d ∧ d.kids.length = n.roots
theorem ti0:TI ts0 ⟨none,[],0⟩:=⟨rfl,rfl,rfl,fun i u h e=>by
 cases i with
 | zero=>omega
 | succ i=>simp [ts0] at e,fun u h=>by simp [ts0] at h;simp [ts0,h],fun i d h j hj=>by
 cases i with
 | zero=>simp [ts0] at h;subst h;cases hj
 | succ i=>simp [ts0] at h,⟨_,rfl,rfl⟩⟩
theorem kidS_len (ns:List ND) (u j:Nat):(kidS ns u j).length = ns.length:=by
 unfold kidS
 split
 · simp
 · rfl
theorem endN_len (ns:List ND) (u:Nat) (en:Int):(endN ns u en).length = ns.length:=by
 unfold endN
 split
 · simp
 · rfl
theorem openS_len {L L':List Binds} {name:ByteArray} {at_:Int} {xs:List (ByteArray × ByteArray × Int)} {n:(ByteArray × ByteArray) × List NA} (h:openS L name at_ xs = (.ok n,L')):L'.length = L.length + 1:=by
 unfold openS openEnd at h
 split at h
 · cases h
 ·split at h
  · cases h
  ·cases h
   simp
theorem top_mem {t:TS} {n:NS} (h:TI t n):t.op[n.stk.length]? = some (topS t):=by
 have hl:=h.op
 unfold topS
 rw [List.getLastD_eq_getLast?,List.getLast?_eq_getElem?,hl,Nat.add_sub_cancel]
 rw [List.getElem?_eq_getElem (by omega)]
 rfl
theorem kidS_get {ns:List ND} {u j i:Nat} {d:ND} (h:(kidS ns u j)[i]? = some d):∃ d0,ns[i]? = some d0 ∧ ((i ≠ u ∧ d.kids = d0.kids) ∨ (i = u ∧ d.kids = d0.kids ++ [j])):=by
 unfold kidS at h
 split at h
 ·rename_i d0 h0
  rcases get_set h with ⟨rfl,rfl,_⟩ | ⟨hi,h⟩
  · exact ⟨d0,h0,.inr ⟨rfl,rfl⟩⟩
  · exact ⟨d,h,.inl ⟨hi,rfl⟩⟩
 ·rename_i h0
  refine ⟨d,h,.inl ⟨fun e=>?_,rfl⟩⟩
  rw [e,h0] at h
  cases h
theorem endN_get {ns:List ND} {u i:Nat} {en:Int} {d:ND} (h:(endN ns u en)[i]? = some d):∃ d0,ns[i]? = some d0 ∧ d.kids = d0.kids:=by
 unfold endN at h
 split at h
 ·rename_i d0 h0
  rcases get_set h with ⟨rfl,rfl,_⟩ | ⟨hi,h⟩
  · exact ⟨d0,h0,rfl⟩
  · exact ⟨d,h,rfl⟩
 · exact ⟨d,h,rfl⟩
theorem app_get {ns:List ND} {d0 d:ND} {i:Nat} (h:(ns ++ [d0])[i]? = some d):(ns[i]? = some d ∧ i < ns.length) ∨ (i = ns.length ∧ d = d0):=by
 rcases Nat.lt_or_ge i ns.length with q | q
 ·rw [List.getElem?_append_left q] at h
  exact .inl ⟨h,q⟩
 ·rw [List.getElem?_append_right q] at h
  obtain ⟨e1,e2⟩:=List.getElem?_eq_some_iff.1 h
  simp at e1 e2
  exact .inr ⟨by omega,e2.symm⟩
theorem new_kids {t:TS} {n:NS} (h:TI t n) {d0:ND} (h0:d0.kids = []):(∀ (i:Nat) (d:ND),(kidS (t.ns ++ [d0]) (topS t) t.ns.length)[i]? = some d → ∀ j ∈ d.kids,i < j ∧ j < (kidS (t.ns ++ [d0]) (topS t) t.ns.length).length) ∧ ∃ d,(kidS (t.ns ++ [d0]) (topS t) t.ns.length)[0]? = some d ∧ d.kids.length = if n.stk = [] then n.roots + 1 else n.roots:=by
 have ht:=top_mem h
 have hu:topS t < t.ns.length:=h.lt _ (List.mem_of_getElem? ht)
 have hlen:(kidS (t.ns ++ [d0]) (topS t) t.ns.length).length = t.ns.length + 1:=by rw [kidS_len];simp
 refine ⟨fun i d hd j hj=>?_,?_⟩
 ·rw [hlen]
  obtain ⟨d1,h1,h2⟩:=kidS_get hd
  rcases app_get h1 with ⟨h1,hi⟩ | ⟨rfl,rfl⟩
  ·rcases h2 with ⟨_,e⟩ | ⟨e1,e⟩
   ·rw [e] at hj
    have:=h.kids i d1 h1 j hj
    omega
   ·rw [e] at hj
    rcases List.mem_append.1 hj with hj | hj
    ·have:=h.kids i d1 h1 j hj
     omega
    ·simp at hj
     omega
  ·rcases h2 with ⟨_,e⟩ | ⟨e1,e⟩
   ·rw [e,h0] at hj
    cases hj
   · omega
 ·obtain ⟨d,hd,hr⟩:=h.root
  have h0':0 < t.ns.length:=(List.getElem?_eq_some_iff.1 hd).1
  have hk:0 < (kidS (t.ns ++ [d0]) (topS t) t.ns.length).length:=by omega
  refine ⟨_,List.getElem?_eq_getElem hk,?_⟩
  obtain ⟨d1,h1,h2⟩:=kidS_get (List.getElem?_eq_getElem hk)
  rw [List.getElem?_append_left h0',hd] at h1
  cases h1
  by_cases hs:n.stk = []
  ·rw [if_pos hs]
   have hz:topS t = 0:=by
    rw [hs,List.length_nil,h.head] at ht
    exact (Option.some.inj ht).symm
   rcases h2 with ⟨e1,_⟩ | ⟨_,e⟩
   · exact absurd hz.symm e1
   ·rw [e,List.length_append,hr]
    rfl
  ·rw [if_neg hs]
   have hz:0 < topS t:=h.tl _ _ (List.length_pos_iff.2 hs) ht
   rcases h2 with ⟨_,e⟩ | ⟨e1,_⟩
   · rw [e,hr]
   · omega
theorem ti_step {t t':TS} {n m:NS} {x:XE} (h:TI t n) (hn:nestF n x = some m) (ht:evS t x = .ok t'):TI t' m:=by
 have htop:=top_mem h
 have hlt:=h.lt
 unfold nestF at hn
 split at hn
 · cases hn
 ·unfold evS at ht
  by_cases k1:x.kind = 1
  ·rw [if_pos k1] at hn ht
   cases hn
   split at ht
   · cases ht
   ·rename_i nm l L' ho
    cases ht
    obtain ⟨q1,q2⟩:=new_kids h (d0:=⟨nm.1,nm.2,x.at_,0,l,bindsL L',[],⟨#[]⟩⟩) rfl
    refine ⟨by simp [h.op],by rw [openS_len ho,h.L];simp,?_,?_,?_,q1,q2⟩
    ·show (t.op ++ [t.ns.length])[0]? = some 0
     rw [List.getElem?_append_left (by have:=h.op;omega)]
     exact h.head
    ·intro i u hi hu
     have hu:(t.op ++ [t.ns.length])[i]? = some u:=hu
     rcases Nat.lt_or_ge i t.op.length with q | q
     ·rw [List.getElem?_append_left q] at hu
      exact h.tl i u hi hu
     ·rw [List.getElem?_append_right q] at hu
      obtain ⟨e1,e2⟩:=List.getElem?_eq_some_iff.1 hu
      simp at e1 e2
      obtain ⟨d,hd,_⟩:=h.root
      have:=(List.getElem?_eq_some_iff.1 hd).1
      omega
    ·intro u hu
     show u < (kidS _ _ _).length
     rw [kidS_len,List.length_append]
     rcases List.mem_append.1 hu with hu | hu
     ·have:=hlt u hu
      omega
     ·simp at hu
      simp [hu]
  ·rw [if_neg k1] at hn ht
   by_cases k2:x.kind = 2
   ·rw [if_pos k2] at hn
    rw [if_neg (by omega)] at ht
    cases ht
    split at hn
    ·rename_i hc
     cases hn
     have hp:=List.length_pos_iff.2 hc.1
     refine ⟨by simp [h.op];omega,by simp [h.L],?_,?_,?_,?_,?_⟩
     ·show t.op.dropLast[0]? = some 0
      rw [List.getElem?_dropLast,if_pos (by have:=h.op;omega)]
      exact h.head
     ·intro i u hi hu
      have hu:t.op.dropLast[i]? = some u:=hu
      rw [List.getElem?_dropLast] at hu
      split at hu
      · exact h.tl i u hi hu
      · cases hu
     ·intro u hu
      show u < (endN _ _ _).length
      rw [endN_len]
      exact hlt u (List.dropLast_subset _ hu)
     ·intro i d hd j hj
      show i < j ∧ j < (endN _ _ _).length
      rw [endN_len]
      obtain ⟨d1,h1,h2⟩:=endN_get hd
      rw [h2] at hj
      exact h.kids i d1 h1 j hj
     ·obtain ⟨d,hd,hr⟩:=h.root
      have hk:0 < (endN t.ns (topS t) x.at_).length:=by rw [endN_len];exact (List.getElem?_eq_some_iff.1 hd).1
      refine ⟨_,List.getElem?_eq_getElem hk,?_⟩
      obtain ⟨d1,h1,h2⟩:=endN_get (List.getElem?_eq_getElem hk)
      rw [hd] at h1
      cases h1
      rw [h2,hr]
    · cases hn
   ·rw [if_neg k2] at hn
    by_cases k3:x.kind = 3
    ·rw [if_pos k3] at hn ht
     cases ht
     split at hn
     ·rename_i hc
      cases hn
      obtain ⟨q1,q2⟩:=new_kids h (d0:=⟨⟨#[]⟩,⟨#[]⟩,x.at_,0,[],[],[],strOfNums x.text⟩) rfl
      rw [if_neg hc.1] at q2
      refine ⟨h.op,h.L,h.head,h.tl,fun u hu=>?_,q1,q2⟩
      show u < (kidS _ _ _).length
      rw [kidS_len,List.length_append]
      have:=hlt u hu
      omega
     · cases hn
    ·rw [if_neg k3] at hn
     cases hn
end Go.Proofs.YtbaokjfhigjpdaaGreatDoorT
end
section
set_option linter.unusedVariables false
namespace Go.Proofs.YtbaokjfhigjpdaaGreatDoorT
open Go.RowKit Go.Shelf Go.Proofs.YtbaokjfhigjpdaaGreatDoor.PXmlBase Go.Proofs.YtbaokjfhigjpdaaGreatDoorW.PrintWords
open Go.Proofs.YtbaokjfhigjpdaaGreatDoorN (Binds NA bindsL openS openEnd openTo tagS)
open Go.Proofs.YtbaokjfhigjpdaaGreatDoorX (XA XE St Lim allE limOf)
deriving instance DecidableEq for XA
deriving instance DecidableEq for XE
def kdoc:List Int:=[60,97,32,120,109,108,110,115,61,39,117,39,62,60,98,32,120,61,39,49,39,47,62,116,60,47,97,62]
theorem k_all:(allE kdoc (limOf 0 0 0 0)).1 = [⟨1,0,[97],[],[⟨[120,109,108,110,115],[117],3⟩]⟩,⟨1,13,[98],[],[⟨[120],[49],16⟩]⟩,⟨2,21,[98],[],[]⟩,⟨3,23,[],[116],[]⟩,⟨2,24,[97],[],[]⟩]:=by decide +kernel
theorem k_end:(allE kdoc (limOf 0 0 0 0)).2.ferr = 0:=by decide +kernel
theorem ex_of {α:Type} [DecidableEq α] {ε:Type} {x:Except ε α} {y:α} (h:(match x with | .ok z=>decide (z = y) | .error _=>false) = true):x = .ok y:=by
 cases x with
 | ok z=>simpa using h
 | error e=>cases h
theorem k_to1:openTo (evA ⟨1,0,[97],[],[⟨[120,109,108,110,115],[117],3⟩]⟩) [] = .ok [(⟨#[]⟩,⟨#[117]⟩)]:=ex_of (by decide +kernel)
theorem k_tag1:tagS ([] ++ [[(⟨#[]⟩,⟨#[117]⟩)]]) (strOfNums [97]) ((0:Nat):Int) (evA ⟨1,0,[97],[],[⟨[120,109,108,110,115],[117],3⟩]⟩) = .ok ((⟨#[117]⟩,⟨#[97]⟩),[]):=ex_of (by decide +kernel)
theorem k_to2:openTo (evA ⟨1,13,[98],[],[⟨[120],[49],16⟩]⟩) [] = .ok []:=ex_of (by decide +kernel)
theorem k_tag2:tagS ([[(⟨#[]⟩,⟨#[117]⟩)]] ++ [[]]) (strOfNums [98]) ((13:Nat):Int) (evA ⟨1,13,[98],[],[⟨[120],[49],16⟩]⟩) = .ok ((⟨#[117]⟩,⟨#[98]⟩),[((⟨#[]⟩,⟨#[120]⟩),⟨#[49]⟩,16)]):=ex_of (by decide +kernel)
theorem k_op1:openS [] (strOfNums [97]) ((0:Nat):Int) (evA ⟨1,0,[97],[],[⟨[120,109,108,110,115],[117],3⟩]⟩) = (.ok ((⟨#[117]⟩,⟨#[97]⟩),[]),[[(⟨#[]⟩,⟨#[117]⟩)]]):=by
 unfold openS openEnd
 rw [k_to1]
 simp only
 rw [k_tag1]
 rfl
theorem k_op2:openS [[(⟨#[]⟩,⟨#[117]⟩)]] (strOfNums [98]) ((13:Nat):Int) (evA ⟨1,13,[98],[],[⟨[120],[49],16⟩]⟩) = (.ok ((⟨#[117]⟩,⟨#[98]⟩),[((⟨#[]⟩,⟨#[120]⟩),⟨#[49]⟩,16)]),[[(⟨#[]⟩,⟨#[117]⟩)],[]]):=by
 unfold openS openEnd
 rw [k_to2]
 simp only
 rw [k_tag2]
 rfl
theorem k_parse:∃ b1 b2 e0,parseS kdoc (limOf 0 0 0 0) = .ok ⟨[⟨⟨#[]⟩,⟨#[]⟩,0,e0,[],[],[1],⟨#[]⟩⟩,⟨⟨#[117]⟩,⟨#[97]⟩,0,24,[],b1,[2,3],⟨#[]⟩⟩,⟨⟨#[117]⟩,⟨#[98]⟩,13,21,[((⟨#[]⟩,⟨#[120]⟩),⟨#[49]⟩,16)],b2,[],⟨#[]⟩⟩,⟨⟨#[]⟩,⟨#[]⟩,23,0,[],[],[],⟨#[116]⟩⟩],[0],[]⟩:=by
 refine ⟨bindsL [[(⟨#[]⟩,⟨#[117]⟩)]],bindsL [[(⟨#[]⟩,⟨#[117]⟩)],[]],0,?_⟩
 unfold parseS
 rw [k_all,k_end]
 have s1:evS ts0 ⟨1,0,[97],[],[⟨[120,109,108,110,115],[117],3⟩]⟩ = .ok ⟨[⟨⟨#[]⟩,⟨#[]⟩,0,0,[],[],[1],⟨#[]⟩⟩,⟨⟨#[117]⟩,⟨#[97]⟩,0,0,[],bindsL [[(⟨#[]⟩,⟨#[117]⟩)]],[],⟨#[]⟩⟩],[0,1],[[(⟨#[]⟩,⟨#[117]⟩)]]⟩:=by
  unfold evS
  rw [if_pos rfl]
  have hl:ts0.L = []:=rfl
  simp only [hl]
  rw [k_op1]
  rfl
 have s2:evS ⟨[⟨⟨#[]⟩,⟨#[]⟩,0,0,[],[],[1],⟨#[]⟩⟩,⟨⟨#[117]⟩,⟨#[97]⟩,0,0,[],bindsL [[(⟨#[]⟩,⟨#[117]⟩)]],[],⟨#[]⟩⟩],[0,1],[[(⟨#[]⟩,⟨#[117]⟩)]]⟩ ⟨1,13,[98],[],[⟨[120],[49],16⟩]⟩ = .ok ⟨[⟨⟨#[]⟩,⟨#[]⟩,0,0,[],[],[1],⟨#[]⟩⟩,⟨⟨#[117]⟩,⟨#[97]⟩,0,0,[],bindsL [[(⟨#[]⟩,⟨#[117]⟩)]],[2],⟨#[]⟩⟩,⟨⟨#[117]⟩,⟨#[98]⟩,13,0,[((⟨#[]⟩,⟨#[120]⟩),⟨#[49]⟩,16)],bindsL [[(⟨#[]⟩,⟨#[117]⟩)],[]],[],⟨#[]⟩⟩],[0,1,2],[[(⟨#[]⟩,⟨#[117]⟩)],[]]⟩:=by
  unfold evS
  rw [if_pos rfl]
  simp only
  rw [k_op2]
  rfl
 simp only [List.foldlM_cons,List.foldlM_nil]
 rw [s1]
 have bo:∀ {α β ε:Type} (a:α) (f:α → Except ε β),((Except.ok a:Except ε α) >>= f) = f a:=fun _ _=>rfl
 rw [bo,s2,bo]
 rfl
end Go.Proofs.YtbaokjfhigjpdaaGreatDoorT
end
section
set_option linter.unusedVariables false
namespace Go.Proofs.YtbaokjfhigjpdaaGreatDoorT
open Go.RowKit Go.Shelf Go.Proofs.YtbaokjfhigjpdaaGreatDoor.PXmlBase Go.Proofs.YtbaokjfhigjpdaaGreatDoorW.PrintWords
open Go.Proofs.YtbaokjfhigjpdaaGreatDoorN (Sc Fr Binds NA flatN flatB bindsL openS Sc_new)
open Go.Proofs.YtbaokjfhigjpdaaGreatDoorX (RowAt PS PX Fx Lim St Tv NoPs EnvW st0 blk_lt blk_set blk_cell lt_of_cell alloc_old ownsRow_of_blocks)
def w3n (w:World):World:=((w.alloc (.cells #[.slice none 0 0] 160)).alloc (.cells #[.string ⟨#[]⟩,.string ⟨#[]⟩,.int .i64 0,.int .i64 0,.slice none 0 0,.slice none 0 0,.slice none 0 0,.string ⟨#[]⟩] 55)).alloc (.cells #[.pointer (some ⟨w.heap.size + 1,0,none⟩)] 27)
theorem w3n_below (w:World):Below w.heap.size w (w3n w):=(((Below.refl w.heap.size w).alloc (Nat.le_refl _) _).alloc (by simp) _).alloc (by simp;omega) _
theorem w3n_blocks (w:World):(w3n w).heap[w.heap.size + 1]? = some (.cells #[.string ⟨#[]⟩,.string ⟨#[]⟩,.int .i64 0,.int .i64 0,.slice none 0 0,.slice none 0 0,.slice none 0 0,.string ⟨#[]⟩] 55 (0,0)) ∧ (w3n w).heap[w.heap.size + 2]? = some (.cells #[.pointer (some ⟨w.heap.size + 1,0,none⟩)] 27 (0,0)) ∧ (w3n w).heap.size = w.heap.size + 3:=by
 unfold w3n
 refine ⟨?_,?_,by simp⟩
 ·rw [alloc_old _ _ _ (by simp)]
  have:=heap_alloc_new (w.alloc (.cells #[.slice none 0 0] 160)) (.cells #[.string ⟨#[]⟩,.string ⟨#[]⟩,.int .i64 0,.int .i64 0,.slice none 0 0,.slice none 0 0,.slice none 0 0,.string ⟨#[]⟩] 55)
  rw [World.size_alloc] at this
  exact this
 ·have:=heap_alloc_new ((w.alloc (.cells #[.slice none 0 0] 160)).alloc (.cells #[.string ⟨#[]⟩,.string ⟨#[]⟩,.int .i64 0,.int .i64 0,.slice none 0 0,.slice none 0 0,.slice none 0 0,.string ⟨#[]⟩] 55)) (.cells #[.pointer (some ⟨w.heap.size + 1,0,none⟩)] 27)
  rw [World.size_alloc,World.size_alloc] at this
  exact this
theorem pz0 {w w2:World} {p B:Nat} {bs:List Int} {L:Lim} {T:Tv} (hE:EnvW w) (hS:PS w2 p B bs L st0 T) (hb:Below w.heap.size w w2) (hB:w.heap.size ≤ B) :
    Pz w (w3n w2) p bs L st0 T w2.heap.size (.slice none 0 0) [] [⟨w2.heap.size + 1,.slice none 0 0,.slice none 0 0,.slice none 0 0⟩] ts0.ns (.slice (some ⟨w2.heap.size + 2,0,none⟩) 1 1) [0]:=by
  have h3:=w3n_below w2
  obtain ⟨k1,k2,k3⟩:=w3n_blocks w2
  have hb3:=hb.trans (h3.mono hb.size)
  have hsz:=hb.size
  have hS3:=(hS.below h3).lower hE hb3 hB
  have hxl:∀ k,PX p T k → k < w2.heap.size:=hS.xlt
  have htx:∀ k,TX [⟨w2.heap.size + 1,.slice none 0 0,.slice none 0 0,.slice none 0 0⟩] (.slice (some ⟨w2.heap.size + 2,0,none⟩) 1 1) k → k = w2.heap.size + 1 ∨ k = w2.heap.size + 2:=by
   rintro k (⟨m,hm,hk⟩ | hk)
   ·simp only [List.mem_singleton] at hm
    subst hm
    rcases hk with e | e | e | e
    · exact .inl e
    all_goals simp [Value.ownBlock] at e
   ·simp [Value.ownBlock] at hk
    exact .inr hk.symm
  have one:∀ {i:Nat} {m:NP},([⟨w2.heap.size + 1,.slice none 0 0,.slice none 0 0,.slice none 0 0⟩]:List NP)[i]? = some m → i = 0 ∧ m = ⟨w2.heap.size + 1,.slice none 0 0,.slice none 0 0,.slice none 0 0⟩:=by
   intro i m h
   cases i with
   | zero=>simp at h;exact ⟨rfl,h.symm⟩
   | succ i=>simp at h
  have noown:∀ k,(Value.slice none 0 0).ownBlock ≠ some k:=fun k e=>by simp [Value.ownBlock] at e
  refine ⟨hb3,hS3,?_,⟨rfl,?_,?_,?_,?_,?_,?_,?_⟩,hsz,fun k e=>absurd e (noown k),fun k e=>absurd e (noown k),fun k hk=>⟨by have:=hxl k hk;omega,noown k⟩,fun k hk ht=>?_,fun k ht=>⟨?_,noown k⟩,by simp⟩
  · exact ((Sc_new w2).alloc _).alloc _
  ·intro i m d hm hd
   obtain ⟨rfl,rfl⟩:=one hm
   simp [ts0] at hd
   subst hd
   exact ⟨k1,RowAt.nil _ _ _,RowAt.nil _ _ _,World.ownsRow_nil _ _ _ _,fun i hi=>(by cases hi),fun k e=>absurd e (noown k)⟩
  ·intro i j m m' hm hm' _
   have:=(one hm).1
   have:=(one hm').1
   omega
  ·intro i j m m' k hm hm' _ _
   have:=(one hm).1
   have:=(one hm').1
   omega
  · exact ⟨rfl,.inr ⟨w2.heap.size + 2,1,_,rfl,Nat.zero_le _,k2,Nat.le_refl _,by unfold maxLen;omega,rfl,rfl⟩⟩
  ·intro i hi
   simp at hi
   simp [hi]
  ·intro i m k hm e
   rw [(one hm).2] at e
   exact absurd e (noown k)
  ·intro k ht
   rcases htx k ht with e | e <;> omega
  ·have:=hxl k hk
   rcases htx k ht with e | e <;> omega
  · rcases htx k ht with e | e <;> omega
end Go.Proofs.YtbaokjfhigjpdaaGreatDoorT
end
section
set_option linter.unusedVariables false
namespace Go.Proofs.YtbaokjfhigjpdaaGreatDoorX
open Go.RowKit Go.Shelf Go.Proofs.YtbaokjfhigjpdaaGreatDoor.PXmlBase Go.Proofs.YtbaokjfhigjpdaaGreatDoorW.PrintWords
def Sh (bs:List Int) (x:XE):Prop:=x.name.length ≤ bs.length ∧ ∀ a ∈ x.attrs,a.name.length ≤ bs.length
def Na (bs:List Int) (s:St):Prop:=∀ x ∈ s.ready,Sh bs x
def Nw (bs:List Int) (s s':St):Prop:=Na bs s → Na bs s'
section
variable {bs:List Int} {L:Lim} {s s':St} {at_:Nat}
theorem Nw.of {a:Nat} (h:Nw bs { s with at_:=a } s'):Nw bs s s':=h
theorem put_nw {r:Int} (h:putS L s at_ r = .ok s'):Nw bs s s':=by
 intro q
 unfold Na
 rw [(put_keep h).2.1]
 exact q
theorem line_nw {r:Int} (h:lineS bs L s at_ r = .ok s'):Nw bs s s':=by
 unfold lineS at h
 split at h
 · cases h
 ·have:=put_nw (bs:=bs) h
  exact this
theorem left_nw {t:St} (h:Nw bs s t):Nw bs s (leftS t):=by
 unfold leftS
 split <;> exact h
theorem tell_nw {l:List XE} (hl:∀ x ∈ l,Sh bs x) (t:St) (h:t.ready = s.ready):Nw bs s (tellS t l):=by
 intro q x hx
 simp only [tellS,textE,h,List.mem_append] at hx
 rcases hx with (hx | hx) | hx
 · exact q x hx
 ·split at hx
  · cases hx
  ·simp only [List.mem_singleton] at hx
   rw [hx]
   exact ⟨Nat.zero_le _,fun a ha=>by cases ha⟩
 · exact hl x hx
theorem tagE_nw {n:List Int} {l:List XA} {sl a:Nat} {e:Bool} (hn:n.length ≤ bs.length) (hl:∀ a ∈ l,a.name.length ≤ bs.length):Nw bs s (tagE L s at_ n l sl a e):=by
 unfold tagE
 split
 ·refine left_nw (tell_nw (fun x hx=>?_) _ rfl)
  simp only [List.mem_cons,List.not_mem_nil,or_false] at hx
  rcases hx with rfl | rfl
  · exact ⟨hn,hl⟩
  · exact ⟨hn,fun a ha=>by cases ha⟩
 ·refine tell_nw (fun x hx=>?_) _ rfl
  simp only [List.mem_singleton] at hx
  rw [hx]
  exact ⟨hn,hl⟩
theorem name_short {tk a:Nat} {x:List Int × Nat} (h:nameS bs tk a = .ok x):x.1.length ≤ bs.length:=by
 unfold nameS at h
 split at h
 · cases h
 ·split at h
  ·split at h
   · cases h
   ·cases h
    unfold cutS
    rw [List.length_take,List.length_drop]
    omega
  · cases h
theorem attrsL_short {tk na:Nat}:∀ (k:Nat) (out:List XA) (a:Nat) (x:List XA × Nat),(∀ a ∈ out,a.name.length ≤ bs.length) → attrsL bs tk na k out a = .ok x → ∀ a ∈ x.1,a.name.length ≤ bs.length
  | 0,out,a,x,ho,h=>by
   cases h
   exact ho
  | k + 1,out,a,x,ho,h=>by
   unfold attrsL at h
   split at h
   · cases h
   ·rename_i a1 h1
    split at h
    · cases h
    ·rename_i r hm
     split at h
     ·cases h
      exact ho
     ·split at h
      · cases h
      ·split at h
       · cases h
       ·split at h
        · cases h
        ·rename_i n a2 hx
         have hs:=name_short hx
         split at h
         · cases h
         ·split at h
          · cases h
          ·split at h
           · cases h
           ·split at h
            · cases h
            ·refine attrsL_short k _ _ x (fun y hy=>?_) h
             rcases List.mem_append.1 hy with hy | hy
             · exact ho y hy
             ·simp only [List.mem_singleton] at hy
              rw [hy]
              exact hs
theorem tag_nw (h:tagS bs L s at_ = .ok s'):Nw bs s s':=by
 unfold tagS at h
 split at h
 · cases h
 ·split at h
  · cases h
  ·rename_i n a1 hq
   have hnm:=name_short hq
   split at h
   · cases h
   ·rename_i l a2 ha
    have hl:=attrsL_short _ _ _ _ (fun y hy=>by cases hy) ha
    split at h
    · cases h
    ·split at h
     ·split at h
      · cases h
      ·split at h
       · cases h
       ·cases h
        exact tagE_nw hnm hl
     ·cases h
      exact tagE_nw hnm hl
theorem end_nw (h:endS bs L s at_ = .ok s'):Nw bs s s':=by
 unfold endS at h
 split at h
 · cases h
 ·split at h
  · cases h
  ·rename_i n a1 hq
   have hnm:=name_short hq
   split at h
   · cases h
   ·split at h
    · cases h
    ·split at h
     · cases h
     ·split at h
      · cases h
      ·rename_i r hr
       split at h
       · cases h
       ·cases h
        refine left_nw (tell_nw (fun x hx=>?_) _ rfl)
        simp only [List.mem_singleton] at hx
        rw [hx]
        exact ⟨hnm,fun a ha=>by cases ha⟩
theorem cdata_nw:∀ (k:Nat) (s:St),cdataL bs L at_ k s = .ok s' → Nw bs s s'
  | 0,s,h=>by
   cases h
   exact fun q=>q
  | k + 1,s,h=>by
   unfold cdataL at h
   split at h
   ·cases h
    exact fun q=>q
   ·split at h
    · cases h
    ·split at h
     · cases h
     ·rename_i hl
      have h1:=line_nw hl
      have h2:=cdata_nw k _ h
      exact fun q=>h2 (h1 q)
theorem markT_nw (h:markT bs L s = .ok s'):Nw bs s s':=by
 unfold markT at h
 split at h
 · cases h
 ·split at h
  · cases h
  ·split at h
   ·split at h
    · cases h
    ·cases h
     exact fun q=>q
   ·split at h
    · exact (end_nw h).of
    ·split at h
     · exact (tag_nw h).of
     · cases h
theorem markU_nw (h:markU bs L s = .ok s'):Nw bs s s':=by
 unfold markU at h
 split at h
 · cases h
 · exact markT_nw h
theorem contentT_nw (h:contentT bs L s = .ok s'):Nw bs s s':=by
 unfold contentT at h
 split at h
 · cases h
 ·split at h
  ·unfold markS at h
   split at h
   ·split at h
    · cases h
    ·cases h
     exact fun q=>q
   ·split at h
    · exact (cdata_nw _ _ h).of
    ·split at h
     ·split at h
      · cases h
      · exact markU_nw h
     · exact markU_nw h
  ·split at h
   ·split at h
    · cases h
    ·have:=put_nw (bs:=bs) h
     exact this
   ·split at h
    · cases h
    · exact line_nw h
theorem contentL_nw:∀ (k:Nat) (s:St),contentL bs L k s = .ok s' → Nw bs s s'
  | 0,s,h=>by
   cases h
   exact fun q=>q
  | k + 1,s,h=>by
   unfold contentL at h
   split at h
   ·cases h
    exact fun q=>q
   ·split at h
    · cases h
    ·rename_i hl
     have h1:=contentT_nw hl
     have h2:=contentL_nw k _ h
     exact fun q=>h2 (h1 q)
theorem root_nw {a:Nat} (h:rootS bs L s a = .ok s'):Nw bs s s':=by
 unfold rootS at h
 split at h
 · cases h
 ·split at h
  · cases h
  ·split at h
   · cases h
   ·split at h
    · cases h
    ·split at h
     · cases h
     ·split at h
      · exact (tag_nw h).of
      · cases h
theorem body_nw (h:bodyS bs L s = .ok s'):Nw bs s s':=by
 unfold bodyS at h
 split at h
 ·unfold beginS at h
  split at h
  · cases h
  ·split at h
   ·split at h
    · cases h
    · exact root_nw h
   · exact root_nw h
 ·split at h
  · exact contentL_nw _ _ h
  ·split at h
   ·unfold behindS at h
    split at h
    · cases h
    ·split at h
     · split at h <;> cases h
     ·cases h
      exact fun q=>q
   ·cases h
    exact fun q=>q
end
theorem nx_nw {bs:List Int} {L:Lim} {s u:St} {x:XE} (h:Na bs s) (hn:nextE bs L s = (some x,u)):Sh bs x ∧ Na bs u:=by
 have hf:Na bs (fillE bs L s):=by
  unfold fillE
  split
  ·unfold stepE
   split
   ·rename_i hs
    exact body_nw hs h
   · exact h
  · exact h
 unfold nextE popE at hn
 split at hn
 · cases hn
 ·rename_i e r he
  cases hn
  refine ⟨hf x (by rw [he];exact List.mem_cons_self),fun y hy=>hf y (by rw [he];exact List.mem_cons_of_mem _ hy)⟩
theorem allL_nw {bs:List Int} {L:Lim}:∀ (k:Nat) (s:St),Na bs s → ∀ x ∈ (allL bs L k s).1,Sh bs x
  | 0,s,h,x,hx=>by cases hx
  | k + 1,s,h,x,hx=>by
   cases hn:nextE bs L s with
   | mk o u=>
    cases o with
    | none=>
     have e1:allL bs L (k + 1) s = ([],u):=by rw [allL,hn]
     rw [e1] at hx
     cases hx
    | some y=>
     obtain ⟨g1,g2⟩:=nx_nw h hn
     have e1:allL bs L (k + 1) s = (y :: (allL bs L k u).1,(allL bs L k u).2):=by rw [allL,hn]
     rw [e1] at hx
     rcases List.mem_cons.1 hx with rfl | hx
     · exact g1
     · exact allL_nw k u g2 x hx
theorem all_short (bs:List Int) (L:Lim):∀ x ∈ (allE bs L).1,Sh bs x:=allL_nw _ st0 (fun x hx=>by cases hx)
end Go.Proofs.YtbaokjfhigjpdaaGreatDoorX
end
