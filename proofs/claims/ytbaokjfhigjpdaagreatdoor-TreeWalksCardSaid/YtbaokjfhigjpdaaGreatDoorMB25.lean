/- What is proved: what the claims of this seat share, part 25: a program of ours merged it out of our own texts, the print's words and the laid shelf. Conditions: those of each. -/
import Derived.Test.YtbaokjfhigjpdaaGreatDoorMB24
import Derived.ChangeArms
import Derived.ChangeSlices
import Derived.Deep.Fields
import Derived.Deep.Slices
import Derived.OpenShut
import Derived.ProofKit
import Derived.SizedLaws
import Derived.WalkKit
set_option linter.unusedVariables false
set_option linter.unusedSimpArgs false
section
set_option linter.unusedVariables false
namespace Go.Proofs.YtbaokjfhigjpdaaGreatDoorT
open Go.ChangeShapes Go.WideShapes Go.ChangeAt Go.RowKit Go.Deep
open Go.Proofs.YtbaokjfhigjpdaaGreatDoorN (NA)
section
variable {H:Type} {enc:TypeId × Value → H} {P:Program} {w:World} {base:Nat} {spare:Nat → Bool} {held:Bool}
theorem weights_part {e:TypeId} {fs:Array Field} (he:P.underlying e = some (.struct fs)) {ys:List (DataW H × List MemPlace)} {j:Nat} {f:Field} {y:DataW H × List MemPlace} (hf:fs[j]? = some f) (hy:ys[j]? = some y) {n:Nat} (hn:n ∈ y.1.weights P f.type):n ∈ DataW.weights P e (.agg (ys.map (·.1))):=by
 unfold DataW.weights
 rw [he]
 exact DataW.weights_mem_each (j:=j) (t:=f.type) (d:=y.1) (by simp [hf]) (by simp [hy]) n hn
theorem weights_all {e:TypeId}:∀ {l:List (DataW H)} {d:DataW H} {n:Nat},d ∈ l → n ∈ d.weights P e → n ∈ DataW.weightsAll P e l
  | a :: t,d,n,hd,hn=>by
   unfold DataW.weightsAll
   rcases List.mem_cons.1 hd with rfl | hd
   · exact List.mem_append.2 (.inl hn)
   · exact List.mem_append.2 (.inr (weights_all hd hn))
theorem parts_any {e:TypeId} {fs:Array Field} (he:P.underlying e = some (.struct fs)) {cs:List Value} {n:Nat} {x:DataW H × List MemPlace} (ht:DataW.trod enc P w base spare held n e cs = some x) :
    ∃ (ys:List (DataW H × List MemPlace)) (m:Nat),x.1 = .agg (ys.map (·.1)) ∧ ∀ (j:Nat) (f:Field) (k:Nat),fs[j]? = some f → P.cellsOf f.type = k → ∃ y,ys[j]? = some y ∧ DataW.trod enc P w base spare held m f.type ((cs.drop f.offset).take k) = some y:=by
  obtain ⟨ys,m,_,hx,_,hyl,hf⟩:=DataW.trod_struct he ht
  refine ⟨ys,m,by rw [hx],fun j f k hj hk=>?_⟩
  subst hk
  have hjl:j < fs.size:=(Array.getElem?_eq_some_iff.1 hj).1
  obtain ⟨y,hy⟩:∃ y,ys[j]? = some y:=⟨_,List.getElem?_eq_getElem (by omega)⟩
  have h1:=hf j f hj
  rw [hy] at h1
  exact ⟨y,hy,h1⟩
end
theorem choose_list {α:Type} {Q:Nat → α → Prop}:∀ n:Nat,(∀ i,i < n → ∃ y,Q i y) → ∃ l:List α,l.length = n ∧ ∀ i (h:i < l.length),Q i l[i]
  | 0,_=>⟨[],rfl,fun i h=>absurd h (Nat.not_lt_zero _)⟩
  | n + 1,hQ=>by
   obtain ⟨l,hl,h⟩:=choose_list n (fun i hi=>hQ i (by omega))
   obtain ⟨y,hy⟩:=hQ n (by omega)
   refine ⟨l ++ [y],by simp [hl],fun i hi=>?_⟩
   by_cases hlt:i < l.length
   ·rw [List.getElem_append_left hlt]
    exact h i hlt
   ·simp at hi
    obtain rfl:i = l.length:=by omega
    rw [List.getElem_append_right (Nat.le_refl _)]
    simp
    rw [hl]
    exact hy
theorem list4 {α:Type} {l:List α} (h:l.length = 4):∃ a b c d,l = [a,b,c,d]:=by
 match l,h with
 | [a,b,c,d],_=>exact ⟨a,b,c,d,rfl⟩
theorem list5 {α:Type} {l:List α} (h:l.length = 5):∃ a b c d e,l = [a,b,c,d,e]:=by
 match l,h with
 | [a,b,c,d,e],_=>exact ⟨a,b,c,d,e,rfl⟩
section
variable {H:Type} {enc:TypeId × Value → H} {W:World} {base:Nat} {spare:Nat → Bool} {held:Bool}
theorem cells_str:Tryz.prog.cellsOf 9 = 1:=by kernel_rfl
theorem cells_int:Tryz.prog.cellsOf 3 = 1:=by kernel_rfl
theorem cells_name:Tryz.prog.cellsOf 23 = 2:=by kernel_rfl
theorem cells_attrs:Tryz.prog.cellsOf 52 = 1:=by kernel_rfl
theorem cells_attr:Tryz.prog.cellsOf 70 = 4:=by kernel_rfl
theorem cells_piece:Tryz.prog.cellsOf 68 = 5:=by kernel_rfl
theorem bytes_attr:Tryz.prog.bytesOf 70 = 56:=by kernel_rfl
theorem bytes_piece:Tryz.prog.bytesOf 68 = 80:=by kernel_rfl
def RB (d:DataW H) (t:TypeId):Prop:=∀ n ∈ d.weights Tryz.prog t,n ≤ reachBytes
theorem text_at {fuel:Nat} {v:Value} {y:DataW H × List MemPlace} (h:DataW.trod enc Tryz.prog W base spare held fuel 9 [v] = some y) (hw:RB y.1 9):∃ s:ByteArray,v = .string s ∧ s.size ≤ 140737488355328:=by
 obtain ⟨s,hv,rfl,_⟩:=DataW.trod_string Tryz.underlying9 h
 have h1:=hw s.data.toList.length (by simp [DataW.weights])
 have h2:=reachBytes_lt
 have h3:s.size = s.data.toList.length:=by rw [Array.length_toList];rfl
 refine ⟨s,by simpa using hv,?_⟩
 omega
set_option maxRecDepth 10000 in
theorem name_at {fuel:Nat} {c0 c1:Value} {y:DataW H × List MemPlace} (h:DataW.trod enc Tryz.prog W base spare held fuel 23 [c0,c1] = some y) (hw:RB y.1 23):∃ s0 s1:ByteArray,c0 = .string s0 ∧ c1 = .string s1 ∧ s0.size ≤ 140737488355328 ∧ s1.size ≤ 140737488355328:=by
 obtain ⟨ys,m,hagg,hp⟩:=parts_any Tryz.underlying23 h
 rw [hagg] at hw
 obtain ⟨y0,g0,t0⟩:=hp 0 _ 1 rfl cells_str
 obtain ⟨y1,g1,t1⟩:=hp 1 _ 1 rfl cells_str
 obtain ⟨s0,e0,b0⟩:=text_at (v:=c0) t0 (fun q hq=>hw q (weights_part Tryz.underlying23 rfl g0 hq))
 obtain ⟨s1,e1,b1⟩:=text_at (v:=c1) t1 (fun q hq=>hw q (weights_part Tryz.underlying23 rfl g1 hq))
 exact ⟨s0,s1,e0,e1,b0,b1⟩
theorem add_pos {q:Addr} {j:Nat} (h:0 < j):q.add j = ⟨q.block,q.off + j,none⟩:=by
 unfold Addr.add
 rw [if_neg (by omega)]
theorem add_zero (q:Addr):q.add 0 = q:=rfl
set_option maxRecDepth 10000 in
theorem attrs_at {fuel:Nat} {v:Value} {y:DataW H × List MemPlace} (h:DataW.trod enc Tryz.prog W base spare held fuel 52 [v] = some y) (hw:RB y.1 52) :
    ∃ xs:List NA,NAttrs W v xs ∧ xs.length ≤ 140737488355328 ∧ ∀ x ∈ xs,x.1.1.size ≤ 140737488355328 ∧ x.1.2.size ≤ 140737488355328 ∧ x.2.1.size ≤ 140737488355328:=by
  rcases open_slice Tryz.underlying52 h with ⟨hcs,_⟩ | ⟨a,len,cap,m,n,D,Pl,hcs,_,hl,hm,hmm,hx,hi⟩
  ·simp at hcs
   subst hcs
   exact ⟨[],⟨none,0,rfl,fun i hi=>absurd hi (Nat.not_lt_zero _)⟩,Nat.zero_le _,fun x hx=>by cases hx⟩
  ·simp at hcs
   subst hcs
   subst hx
   have hlm:len ≤ m:=by rw [hmm];split <;> omega
   have hrb:=reachBytes_lt
   have hlen:len ≤ 140737488355328:=by
    have h2:(((List.range len).map D).length + ((List.range (m - len)).map fun j=>D (len + j)).length) * Tryz.prog.bytesOf 70 ≤ reachBytes:=hw _ (by simp only [DataW.weights,Tryz.underlying52];exact List.mem_cons_self ..)
    rw [bytes_attr,List.length_map,List.length_range] at h2
    omega
   obtain ⟨xs,hxl,hxs⟩:=choose_list (Q:=fun i (x:NA)=>(W.cell? (a.add (i * 4)) = some (.string x.1.1) ∧ W.cell? ⟨(a.add (i * 4)).block,(a.add (i * 4)).off + 1,none⟩ = some (.string x.1.2) ∧ W.cell? ⟨(a.add (i * 4)).block,(a.add (i * 4)).off + 2,none⟩ = some (.string x.2.1) ∧ W.cell? ⟨(a.add (i * 4)).block,(a.add (i * 4)).off + 3,none⟩ = some (.int .i64 x.2.2)) ∧ x.1.1.size ≤ 140737488355328 ∧ x.1.2.size ≤ 140737488355328 ∧ x.2.1.size ≤ 140737488355328) len (fun i hil=>by
     obtain ⟨cs,hc,ht⟩:=hi i (by omega)
     rw [cells_attr] at hc
     obtain ⟨_,hcl,hat⟩:=World.cells?_some hc
     obtain ⟨c0,c1,c2,c3,rfl⟩:=list4 hcl
     have k0:W.cell? (a.add (i * 4)) = some c0:=hat 0 (by decide)
     have k1:W.cell? ((a.add (i * 4)).add 1) = some c1:=hat 1 (by decide)
     have k2:W.cell? ((a.add (i * 4)).add 2) = some c2:=hat 2 (by decide)
     have k3:W.cell? ((a.add (i * 4)).add 3) = some c3:=hat 3 (by decide)
     rw [add_pos (by decide)] at k1 k2 k3
     obtain ⟨ys,k,hagg,hp⟩:=parts_any Tryz.underlying70 ht
     have hwi:RB (D i) 70:=fun q hq=>hw q (by
       simp only [DataW.weights,Tryz.underlying52]
       exact List.mem_cons_of_mem _ (List.mem_append.2 (.inl (weights_all (List.mem_map.2 ⟨i,List.mem_range.2 hil,rfl⟩) hq))))
     simp only at hagg
     rw [hagg] at hwi
     obtain ⟨y0,g0,t0⟩:=hp 0 _ 2 rfl cells_name
     obtain ⟨y1,g1,t1⟩:=hp 1 _ 1 rfl cells_str
     obtain ⟨y2,g2,t2⟩:=hp 2 _ 1 rfl cells_int
     obtain ⟨s0,s1,e0,e1,b0,b1⟩:=name_at (c0:=c0) (c1:=c1) t0 (fun q hq=>hwi q (weights_part Tryz.underlying70 rfl g0 hq))
     obtain ⟨s2,e2,b2⟩:=text_at (v:=c2) t1 (fun q hq=>hwi q (weights_part Tryz.underlying70 rfl g1 hq))
     obtain ⟨z,hz,_⟩:=DataW.trod_int Tryz.underlying3 t2
     have hz':c3 = .int .i64 z:=by simpa using hz
     subst e0 e1 e2 hz'
     exact ⟨((s0,s1),s2,z),⟨k0,k1,k2,k3⟩,b0,b1,b2⟩)
   refine ⟨xs,⟨some a,cap,by rw [hxl],fun i hil=>⟨a,rfl,(hxs i hil).1⟩⟩,by omega,fun x hx=>?_⟩
   obtain ⟨i,hil,rfl⟩:=List.getElem_of_mem hx
   exact (hxs i hil).2
set_option maxRecDepth 10000 in
theorem pieces_at {fuel:Nat} {la:Option Addr} {len lc:Nat} {y:DataW H × List MemPlace} (h:DataW.trod enc Tryz.prog W base spare held fuel 24 [.slice la len lc] = some y) (hw:RB y.1 24) :
    ∃ l:List PC,len = l.length ∧ PcAt W la l ∧ PcBig l ∧ l.length ≤ 140737488355328:=by
  rcases open_slice Tryz.underlying24 h with ⟨hcs,_⟩ | ⟨a,len',cap,m,n,D,Pl,hcs,_,hl,hm,hmm,hx,hi⟩
  ·simp at hcs
   obtain ⟨rfl,rfl,rfl⟩:=hcs
   exact ⟨[],rfl,fun i hi=>absurd hi (Nat.not_lt_zero _),(fun x hx=>by cases hx),Nat.zero_le _⟩
  ·simp at hcs
   obtain ⟨rfl,rfl,rfl⟩:=hcs
   subst hx
   have hlm:len ≤ m:=by rw [hmm];split <;> omega
   have hrb:=reachBytes_lt
   have hlen:len ≤ 140737488355328:=by
    have h2:(((List.range len).map D).length + ((List.range (m - len)).map fun j=>D (len + j)).length) * Tryz.prog.bytesOf 68 ≤ reachBytes:=hw _ (by simp only [DataW.weights,Tryz.underlying24];exact List.mem_cons_self ..)
    rw [bytes_piece,List.length_map,List.length_range] at h2
    omega
   obtain ⟨l,hxl,hxs⟩:=choose_list (Q:=fun i (x:PC)=>(∃ av,W.cell? (a.add (i * 5)) = some (.int .i64 x.up) ∧ W.cell? ⟨(a.add (i * 5)).block,(a.add (i * 5)).off + 1,none⟩ = some (.string x.text) ∧ W.cell? ⟨(a.add (i * 5)).block,(a.add (i * 5)).off + 2,none⟩ = some (.string x.nm.1) ∧ W.cell? ⟨(a.add (i * 5)).block,(a.add (i * 5)).off + 3,none⟩ = some (.string x.nm.2) ∧ W.cell? ⟨(a.add (i * 5)).block,(a.add (i * 5)).off + 4,none⟩ = some av ∧ NAttrs W av x.attrs) ∧ x.text.size ≤ 140737488355328 ∧ x.nm.1.size ≤ 140737488355328 ∧ x.nm.2.size ≤ 140737488355328 ∧ x.attrs.length ≤ 140737488355328 ∧ ∀ a ∈ x.attrs,a.1.1.size ≤ 140737488355328 ∧ a.1.2.size ≤ 140737488355328 ∧ a.2.1.size ≤ 140737488355328) len (fun i hil=>by
     obtain ⟨cs,hc,ht⟩:=hi i (by omega)
     rw [cells_piece] at hc
     obtain ⟨_,hcl,hat⟩:=World.cells?_some hc
     obtain ⟨c0,c1,c2,c3,c4,rfl⟩:=list5 hcl
     have k0:W.cell? (a.add (i * 5)) = some c0:=hat 0 (by decide)
     have k1:W.cell? ((a.add (i * 5)).add 1) = some c1:=hat 1 (by decide)
     have k2:W.cell? ((a.add (i * 5)).add 2) = some c2:=hat 2 (by decide)
     have k3:W.cell? ((a.add (i * 5)).add 3) = some c3:=hat 3 (by decide)
     have k4:W.cell? ((a.add (i * 5)).add 4) = some c4:=hat 4 (by decide)
     rw [add_pos (by decide)] at k1 k2 k3 k4
     obtain ⟨ys,k,hagg,hp⟩:=parts_any Tryz.underlying68 ht
     have hwi:RB (D i) 68:=fun q hq=>hw q (by
       simp only [DataW.weights,Tryz.underlying24]
       exact List.mem_cons_of_mem _ (List.mem_append.2 (.inl (weights_all (List.mem_map.2 ⟨i,List.mem_range.2 hil,rfl⟩) hq))))
     simp only at hagg
     rw [hagg] at hwi
     obtain ⟨y0,g0,t0⟩:=hp 0 _ 1 rfl cells_int
     obtain ⟨y1,g1,t1⟩:=hp 1 _ 1 rfl cells_str
     obtain ⟨y2,g2,t2⟩:=hp 2 _ 2 rfl cells_name
     obtain ⟨y3,g3,t3⟩:=hp 3 _ 1 rfl cells_attrs
     obtain ⟨z,hz,_⟩:=DataW.trod_int Tryz.underlying3 t0
     have hz':c0 = .int .i64 z:=by simpa using hz
     obtain ⟨s1,e1,b1⟩:=text_at (v:=c1) t1 (fun q hq=>hwi q (weights_part Tryz.underlying68 rfl g1 hq))
     obtain ⟨s2,s3,e2,e3,b2,b3⟩:=name_at (c0:=c2) (c1:=c3) t2 (fun q hq=>hwi q (weights_part Tryz.underlying68 rfl g2 hq))
     obtain ⟨xs,hX,b4,b5⟩:=attrs_at (v:=c4) t3 (fun q hq=>hwi q (weights_part Tryz.underlying68 rfl g3 hq))
     subst hz' e1 e2 e3
     exact ⟨⟨z,s1,(s2,s3),xs⟩,⟨c4,k0,k1,k2,k3,k4,hX⟩,b1,b2,b3,b4,b5⟩)
   refine ⟨l,hxl.symm,fun i hil=>?_,fun x hx=>?_,by omega⟩
   ·obtain ⟨⟨av,c0,c1,c2,c3,c4,hX⟩,_⟩:=hxs i hil
    exact ⟨a,av,rfl,c0,c1,c2,c3,c4,hX⟩
   ·obtain ⟨i,hil,rfl⟩:=List.getElem_of_mem hx
    exact (hxs i hil).2
end
end Go.Proofs.YtbaokjfhigjpdaaGreatDoorT
end
