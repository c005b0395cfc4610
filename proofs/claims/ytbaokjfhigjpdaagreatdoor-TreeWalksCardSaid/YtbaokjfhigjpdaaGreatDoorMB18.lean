/- What is proved: what the claims of this seat share, part 18: a program of ours merged it out of our own texts, the print's words and the laid shelf. Conditions: those of each. -/
import Derived.Test.YtbaokjfhigjpdaaGreatDoorMB17
import Derived.Maps.AppendAt
import Derived.RangeFuncFrom
import Derived.RangeFuncWrites
set_option linter.unusedVariables false
set_option linter.unusedSimpArgs false
section
namespace Go.Proofs.YtbaokjfhigjpdaaGreatDoorN
open Go.RowKit Go.Shelf
attribute [local go_sem] Oper.semAt_some
set_option maxRecDepth 100000 in
set_option maxHeartbeats 1000000 in
theorem back1_nil_in {α:Type} (F:Fence) (n:Nat) (hf:F.fn 208) (hro:F.round = none) (l Bs:Nat) (J:List α → World → Prop) (W:World) (hBs:W.cell? ⟨Bs,0,none⟩ = some (.slice none 0 0)) (h0:J [] W) :
    CallsIn F n Tryz.prog 208 #[.func (.yield l) #[] #[],.pointer (some ⟨Bs,0,none⟩)] W fun e W'=>(∃ v,e = .returned v) ∧ J [] W':=by
  refine callsIn_of_wp Tryz.func208 rfl hf ?_ hro
  simp only [Tryz.ntmps208,List.size_toArray,List.length_cons,List.length_nil,Nat.reduceAdd,Nat.reduceSub,Array.replicate_succ,Array.replicate_zero,List.push_toArray,List.append_toArray,List.nil_append,List.cons_append]
  gi_wp2
  gi_loopw [3] (fun i wr=>i = .int .i64 (-1) ∧ J [] wr) (fun _ _=>0)
  case atStart=>exact ⟨rfl,h0⟩
  case round=>
   obtain ⟨rfl,hJs⟩:=hrel
   gi_wp2
   go_end0
   exact ⟨⟨_,rfl⟩,hJs⟩
set_option maxHeartbeats 1000000 in
theorem back_in (F:Fence) (n:Nat) (hf:F.fn 164) (hro:F.round = none) (a:Option Addr) (len cap:Nat) (w:World) :
    CallsIn F n Tryz.prog 164 #[.slice a len cap] w fun e w'=>e = .returned (.func (.func 208) #[] #[.pointer (some ⟨w.heap.size,0,none⟩)]) ∧ w' = w.alloc (.cells #[.slice a len cap] 158):=by
  refine callsIn_of_wp Tryz.func164 rfl hf ?_ hro
  simp only [Tryz.ntmps164,List.size_toArray,List.length_cons,List.length_nil,Nat.reduceAdd,Nat.reduceSub,Array.replicate_succ,Array.replicate_zero,List.push_toArray,List.append_toArray,List.nil_append,List.cons_append]
  gi_wp2
  go_ret
  exact ⟨rfl,rfl⟩
def IsMaps (n₀:Nat) (W:World) (sv:Value) (bs:List Nat):Prop :=
  (sv = .slice none 0 0 ∧ bs = []) ∨ ∃ b off cap,sv = .slice (some ⟨b,off,none⟩) bs.length cap ∧ b < n₀ ∧ ∀ j (h:j < bs.length),W.cell? ⟨b,off + j,none⟩ = some (.map (some bs[j]))
theorem IsMaps.below {n₀:Nat} {A B:World} (h:Below n₀ A B) {sv:Value} {bs:List Nat}:IsMaps n₀ A sv bs → IsMaps n₀ B sv bs
  | .inl e=>.inl e
  | .inr ⟨b,off,cap,e,hb,hc⟩=>.inr ⟨b,off,cap,e,hb,fun j hj=>(h.cell (p:=⟨b,off + j,none⟩) hb).trans (hc j hj)⟩
theorem IsMaps.mono {n₀ n₁:Nat} (h:n₀ ≤ n₁) {W:World} {sv:Value} {bs:List Nat}:IsMaps n₀ W sv bs → IsMaps n₁ W sv bs
  | .inl e=>.inl e
  | .inr ⟨b,off,cap,e,hb,hc⟩=>.inr ⟨b,off,cap,e,Nat.lt_of_lt_of_le hb h,hc⟩
def backs {α:Type} (zs:List α):List (Nat × α):=(zs.zipIdx.map fun p=>(p.2,p.1)).reverse
theorem backs_length {α:Type} (zs:List α):(backs zs).length = zs.length:=by simp [backs]
theorem backs_get {α:Type} (zs:List α) (j:Nat) (h:j < zs.length):(backs zs)[j]'(by rw [backs_length];exact h) = (zs.length - 1 - j,zs[zs.length - 1 - j]'(by omega)):=by
 simp [backs,List.getElem_reverse,List.getElem_zipIdx]
theorem back_stops {α:Type} (bk:α → Nat) (F:Fence) (n:Nat) (hf:F.fn 208) (hro:F.round = none) (hn:1 ≤ n) (Bs n₀:Nat) (sv:Value) (zs:List α) (hreach:zs.length * 8 ≤ 140737488351232) (w:World) (hBs:Bs < n₀) (hn₀:n₀ ≤ w.heap.size)
    (hc:w.cell? ⟨Bs,0,none⟩ = some sv) (hI:IsMaps n₀ w sv (zs.map bk)) :
    SeqStopsK F n Tryz.prog 208 #[.pointer (some ⟨Bs,0,none⟩)] (fun x:Nat × α=>#[Value.int .i64 (x.1:Int),Value.map (some (bk x.2))]) (Below n₀) (fun ys=>ys = backs zs) (fun pre=>∃ k,k ≤ zs.length ∧ pre = (backs zs).take k) zs.length w:=fun l J Jx W hW _ _ hY h0=>by
  have hc':=(hW.cell (p:=⟨Bs,0,none⟩) (Nat.lt_of_lt_of_le hBs hn₀)).trans hc
  rcases hI.below (hW.mono hn₀) with ⟨rfl,he⟩ | ⟨b,off,cap,rfl,hb,hcs⟩
  ·have hz:zs = []:=by simpa using he
   subst hz
   exact (back1_nil_in F n hf hro l Bs J W hc' h0).mono fun e W' ⟨he,hj⟩=>⟨he,.inl ⟨_,rfl,hj⟩⟩
  ·rw [List.length_map] at hc'
   have hl:=backs_length zs
   refine (back1_in (fun x:Nat × α=>(x.1:Int)) (fun x=>bk x.2) F n hf hro hn l Bs n₀ b off cap (backs zs) (by rw [hl];exact hreach) hb hBs J Jx (by rw [hl];exact hY) W (by rw [hl];exact hc') (fun j h=>?_) (fun j h=>?_) h0).mono ?_
   ·rw [hl] at h
    have:=hcs (zs.length - 1 - j) (by rw [List.length_map];omega)
    rw [List.getElem_map] at this
    rw [hl,backs_get zs j h]
    exact this
   ·rw [hl] at h
    rw [hl,backs_get zs j h]
    show ((zs.length - 1 - j:Nat):Int) = _
    omega
   ·rintro e W' ⟨he,hj | ⟨pre,⟨k,hk,rfl⟩,hj⟩⟩
    · exact ⟨he,.inl ⟨_,rfl,hj⟩⟩
    · exact ⟨he,.inr ⟨_,⟨k,by omega,rfl⟩,hj⟩⟩
end Go.Proofs.YtbaokjfhigjpdaaGreatDoorN
end
section
namespace Go.Proofs.YtbaokjfhigjpdaaGreatDoorN
open Go.RowKit Go.Shelf
attribute [local go_sem] Oper.semAt_some
abbrev Binds:=List (ByteArray × ByteArray)
def xmlB:ByteArray:=⟨#[120,109,108]⟩
def xmlS:ByteArray:=⟨#[104,116,116,112,58,47,47,119,119,119,46,119,51,46,111,114,103,47,88,77,76,47,49,57,57,56,47,110,97,109,101,115,112,97,99,101]⟩
def inner (L:List Binds) (x:ByteArray):Option ByteArray:=L.reverse.findSome? (sget · x)
def spaceS (L:List Binds) (x:ByteArray):ByteArray × Bool :=
  if x = xmlB then (xmlS,true) else match inner L x with
  | some v=>(v,true)
  | none=>(⟨#[]⟩,decide (x = ⟨#[]⟩))
set_option maxRecDepth 100000 in
set_option maxHeartbeats 2000000 in
theorem space_xml_in (F:Fence) (n:Nat) (hf:F.fn 124) (hro:F.round = none) (hn:3 ≤ n) (p:Addr) (w:World) :
    CallsIn F n Tryz.prog 124 #[.pointer (some p),.string xmlB] w fun e W'=>e = .returned (.tuple #[.string xmlS,.bool true]) ∧ Below w.heap.size w W':=by
  have h1:1 ≤ n:=by omega
  unfold xmlB xmlS
  refine callsIn_of_wp_marks Tryz.func124 rfl hf ?_ hro
  simp only [Tryz.ntmps124,List.size_toArray,List.length_cons,List.length_nil,Nat.reduceAdd,Nat.reduceSub,Array.replicate_succ,Array.replicate_zero,List.push_toArray,List.append_toArray,List.nil_append,List.cons_append]
  gi_wp2
  refine ⟨.tuple #[.string ⟨#[104,116,116,112,58,47,47,119,119,119,46,119,51,46,111,114,103,47,88,77,76,47,49,57,57,56,47,110,97,109,101,115,112,97,99,101]⟩,.bool true],?_,rfl,?_⟩
  · simp [results,Tryz.f124,go_sem]
  · exact (((Below.refl _ w).alloc (Nat.le_refl _) _).alloc (by simp) _).alloc (by simp;omega) _
theorem cellA {w:World} {p:Addr} {v:Value} (h:w.cell? p = some v) (o:Obj):(w.alloc o).cell? p = some v:=World.grownBy.cell (World.grownBy_alloc w o none) h (by simp)
theorem inner_some {w:World} (els:List {e:Nat × Binds // SMap w e.1 e.2}) (x:ByteArray) (k:Nat) (ini:List (Nat × {e:Nat × Binds // SMap w e.1 e.2})) (last:Nat × {e:Nat × Binds // SMap w e.1 e.2}) (v:ByteArray) (e1:(backs els).take k = ini ++ [last])
    (e2:∀ y ∈ ini,sget y.2.1.2 x = none) (e3:sget last.2.1.2 x = some v):inner (els.map (·.1.2)) x = some v:=by
  have hb:(backs els).map (·.2) = els.reverse:=by
   unfold backs
   rw [List.map_reverse,List.map_map]
   congr 1
   apply List.ext_getElem
   · simp
   ·intro i h1 h2
    simp
  have h1:els.reverse = ini.map (·.2) ++ [last.2] ++ ((backs els).drop k).map (·.2):=by
   rw [← hb]
   conv=>lhs;rw [← List.take_append_drop k (backs els)]
   rw [List.map_append,e1]
   simp
  unfold inner
  rw [← List.map_reverse,h1,List.findSome?_map]
  rw [List.append_assoc,List.findSome?_append]
  have h2:(ini.map (·.2)).findSome? ((sget · x) ∘ (fun y:{e:Nat × Binds // SMap w e.1 e.2}=>y.1.2)) = none:=by
   rw [List.findSome?_eq_none_iff]
   intro y hy
   obtain ⟨z,hz,rfl⟩:=List.mem_map.1 hy
   exact e2 z hz
  rw [h2]
  simp [e3]
theorem inner_none {w:World} (els:List {e:Nat × Binds // SMap w e.1 e.2}) (x:ByteArray) (h:∀ y ∈ backs els,sget y.2.1.2 x = none):inner (els.map (·.1.2)) x = none:=by
 unfold inner
 rw [List.findSome?_eq_none_iff]
 intro m hm
 rw [List.mem_reverse] at hm
 obtain ⟨y,hy,rfl⟩:=List.mem_map.1 hm
 obtain ⟨i,hi,rfl⟩:=List.mem_iff_getElem.1 hy
 exact h (i,els[i]) (by unfold backs;rw [List.mem_reverse];exact List.mem_map.2 ⟨(els[i],i),List.mem_zipIdx_iff_getElem?.2 (by simp [hi]),rfl⟩)
theorem isEmpty_eq (x:ByteArray):x.toList.isEmpty = decide (x = ⟨#[]⟩):=by
 rw [ByteArray.toList_eq]
 obtain ⟨⟨l⟩⟩:=x
 cases l <;> simp
theorem cellS {w:World} {p q:Addr} {v u:Value} (h:w.cell? p = some v) (hne:p.block ≠ q.block):(w.setCell q u).cell? p = some v :=
  (World.cell?_of_block (Below.heap_setCell w q u p.block hne)).trans h
theorem cellSet (w:World) (p:Addr) {v:Value} (u:Value) (h:w.cell? p = some v):(w.setCell p u).cell? p = some u:=World.cell?_setCell_same' _ _ _ (by rw [h];rfl)
set_option maxRecDepth 100000 in
set_option maxHeartbeats 2000000 in
theorem space_in (F:Fence) (n:Nat) (hf:F.fn 124) (hb:F.fn 164) (hc:F.fn 208) (hro:F.round = none) (hn:3 ≤ n) (p:Addr) (x:ByteArray) (hx:x ≠ xmlB) (a:Option Addr) (len cap:Nat) (w:World)
    (els:List {e:Nat × Binds // SMap w e.1 e.2}) (hreach:els.length * 8 ≤ 140737488351232) (hp:w.cell? p = some (.slice a len cap)) (hI:IsMaps w.heap.size w (.slice a len cap) (els.map (·.1.1))) :
    CallsIn F n Tryz.prog 124 #[.pointer (some p),.string x] w fun e W'=>e = .returned (.tuple #[.string (spaceS (els.map (·.1.2)) x).1,.bool (spaceS (els.map (·.1.2)) x).2]) ∧ Below w.heap.size w W':=by
  have h1:1 ≤ n:=by omega
  have hxl:¬ x.data = #[120,109,108]:=fun e=>hx (by obtain ⟨d⟩:=x;exact congrArg ByteArray.mk e)
  have hxt:(x.toList == [120,109,108]) = false:=by
   rw [beq_eq_false_iff_ne]
   intro e
   rw [ByteArray.toList_eq] at e
   apply hxl
   apply Array.toList_inj.1
   rw [e]
  have hp3:(((w.alloc (.cells #[.string x] 9)).alloc (.cells #[.string ⟨#[]⟩] 9)).alloc (.cells #[.bool false] 4)).cell? p = some (.slice a len cap):=cellA (cellA (cellA hp _) _) _
  refine callsIn_of_wp_marks Tryz.func124 rfl hf ?_ hro
  simp only [Tryz.ntmps124,List.size_toArray,List.length_cons,List.length_nil,Nat.reduceAdd,Nat.reduceSub,Array.replicate_succ,Array.replicate_zero,List.push_toArray,List.append_toArray,List.nil_append,List.cons_append]
  gi_wp2_with (gi_at_call 164;refine (back_in F (n - 1) hb hro _ _ _ _).mono ?_;rintro e w' ⟨rfl,rfl⟩)
  have b3:=Boxed.new w 9 (.string x)
  have b4:=Boxed.new (w.alloc (.cells #[.string x] 9)) 9 (.string ⟨#[]⟩)
  have b5:=Boxed.new ((w.alloc (.cells #[.string x] 9)).alloc (.cells #[.string ⟨#[]⟩] 9)) 4 (.bool false)
  have b6:=Boxed.new (((w.alloc (.cells #[.string x] 9)).alloc (.cells #[.string ⟨#[]⟩] 9)).alloc (.cells #[.bool false] 4)) 158 (.slice a len cap)
  simp only [World.size_alloc] at b4 b5 b6
  have hB0:Below w.heap.size w ((((w.alloc (.cells #[.string x] 9)).alloc (.cells #[.string ⟨#[]⟩] 9)).alloc (.cells #[.bool false] 4)).alloc (.cells #[.slice a len cap] 158)) :=
    ((((Below.refl _ w).alloc (Nat.le_refl _) _).alloc (by simp) _).alloc (by simp;omega) _).alloc (by simp;omega) _
  refine wpIn_rangeFunc_ownG hro h1 (gf:=208) (lb:=#[.pointer (some ⟨w.heap.size + 1 + 1 + 1,0,none⟩)]) rfl hc (enters_of Tryz.func208 (by kernel_rfl) rfl)
    (back_stops (fun e:{e:Nat × Binds // SMap w e.1 e.2}=>e.1.1) F (n - 1) hc hro (by omega) (w.heap.size + 1 + 1 + 1) (w.heap.size + 1 + 1 + 1 + 1) _ els hreach _ (by omega) (by simp) b6.cell ((hI.below hB0).mono (by omega))) belowK_t (belowK_b (by simp)) (Below.refl _ _) (fun _=>rfl)
    (fun pre W=>((∀ y ∈ pre,sget y.2.1.2 x = none) ∧ W.cell? ⟨w.heap.size + 1,0,none⟩ = some (.string ⟨#[]⟩) ∧ W.frozen? ⟨w.heap.size + 1,0,none⟩ = false ∧ W.cell? ⟨w.heap.size + 1 + 1,0,none⟩ = some (.bool false) ∧ W.frozen? ⟨w.heap.size + 1 + 1,0,none⟩ = false ∧ W.cell? ⟨w.heap.size,0,none⟩ = some (.string x)) ∧ Below w.heap.size w W)
    (fun c pre W=>(c = .ret ∧ ∃ ini last v,pre = ini ++ [last] ∧ (∀ y ∈ ini,sget y.2.1.2 x = none) ∧ sget last.2.1.2 x = some v ∧ W.cell? ⟨w.heap.size + 1,0,none⟩ = some (.string v) ∧ W.cell? ⟨w.heap.size + 1 + 1,0,none⟩ = some (.bool true)) ∧ Below w.heap.size w W)
    (OwnFrom.and (Own.from (fun s A B row hs hg hr=>⟨hs.1,cell_kept hs.2.1 hg hr,(frozen_kept hs.2.1 hg hr).trans hs.2.2.1,cell_kept hs.2.2.2.1 hg hr,(frozen_kept hs.2.2.2.1 hg hr).trans hs.2.2.2.2.1,cell_kept hs.2.2.2.2.2 hg hr⟩) _) (ownFrom_below (Nat.le_refl _) (by simp;omega)))
    (fun c=>OwnFrom.and (Own.from (fun s A B row hs hg hr=>by obtain ⟨hc,ini,last,v,e1,e2,e3,e4,e5⟩:=hs;exact ⟨hc,ini,last,v,e1,e2,e3,cell_kept e4 hg hr,cell_kept e5 hg hr⟩) _) (ownFrom_below (Nat.le_refl _) (by simp;omega)))
    ⟨⟨by simp,((b4.alloc _).alloc _).cell,((b4.alloc _).alloc _).frozen,(b5.alloc _).cell,(b5.alloc _).frozen,(((b3.alloc _).alloc _).alloc _).cell⟩,hB0⟩
    (fun y=>{ tmps:=#[.pointer (some p),.string x,undef,.pointer (some ⟨w.heap.size,0,none⟩),.pointer (some ⟨w.heap.size + 1,0,none⟩),.pointer (some ⟨w.heap.size + 1 + 1,0,none⟩),undef,.map (some y.2.1.1),undef,undef,.string x,.bool false,.pointer (some p),.pointer (some p),.pointer (some p),.slice a len cap,.func (.func 208) #[] #[.pointer (some ⟨w.heap.size + 1 + 1 + 1,0,none⟩)],.int .i64 (y.1:Int),.map (some y.2.1.1),undef,undef,undef,undef,undef,undef,undef,undef,undef,undef],defers:=[] }) ?assign ?body ?done ?stop
  case assign=>
   intro l y W K hK
   gi_wp2
   exact hK
  case body=>
   rintro l pre y W ⟨⟨hp1,c4,f4,c5,f5,c3⟩,hB⟩ _
   have hS:SMap W y.2.1.1 y.2.1.2:=y.2.2.of_block (hB.block _ y.2.2.lt)
   have hz:(zeroValue 9).run Tryz.prog W = .ok (.string ⟨#[]⟩) W:=by kernel_rfl
   cases hg:sget y.2.1.2 x with
   | none=>
    gi_wp2_with (gi_at_lookup;refine wpListIn_lookup_smap_ok rfl _ _ 161 rfl 9 9 Tryz.underlying161 Tryz.underlying9 hz rfl hS x rfl ?_;rw [hg])
    exact ⟨KeepsFrom.refl _ _,Below.refl _ _,⟨fun z hz'=>(List.mem_append.1 hz').elim (hp1 z) (fun e=>by simp at e;subst e;exact hg),c4,f4,c5,f5,c3⟩,hB⟩
   | some v=>
    gi_wp2_with (gi_at_lookup;refine wpListIn_lookup_smap_ok rfl _ _ 161 rfl 9 9 Tryz.underlying161 Tryz.underlying9 hz rfl hS x rfl ?_;rw [hg])
    exact ⟨((KeepsOthers.setCell _ _ _).trans (KeepsOthers.setCell _ _ _)).from _,⟨rfl,pre,y,v,rfl,hp1,hg,cellS (cellSet W ⟨w.heap.size + 1,0,none⟩ (.string v) c4) (by simp),cellSet _ ⟨w.heap.size + 1 + 1,0,none⟩ (.bool true) (cellS c5 (by simp))⟩,(hB.setCell (p:=⟨w.heap.size + 1,0,none⟩) (by simp) _).setCell (p:=⟨w.heap.size + 1 + 1,0,none⟩) (by simp;omega) _⟩
  case done=>
   rintro D ys W hD rfl ⟨⟨hne,c4,f4,c5,f5,c3⟩,hB⟩ hK
   gi_wp2
   gi_region
   all_goals
    gi_wp2
    have hK':=((KeepsOthers.setCell W ⟨w.heap.size + 1,0,none⟩ (.string ⟨#[]⟩)).trans (KeepsOthers.setCell _ ⟨w.heap.size + 1 + 1,0,none⟩ (.bool x.toList.isEmpty))).same D _ hK rfl
    have hD':(((W.setCell ⟨w.heap.size + 1,0,none⟩ (.string ⟨#[]⟩)).setCell ⟨w.heap.size + 1 + 1,0,none⟩ (.bool x.toList.isEmpty)).drew).heap[D]? = some (.deferred (some [])):=hK'
    have d4:(((W.setCell ⟨w.heap.size + 1,0,none⟩ (.string ⟨#[]⟩)).setCell ⟨w.heap.size + 1 + 1,0,none⟩ (.bool x.toList.isEmpty)).drew).cell? ⟨w.heap.size + 1,0,none⟩ = some (.string ⟨#[]⟩):=cellS (cellSet W ⟨w.heap.size + 1,0,none⟩ (.string ⟨#[]⟩) c4) (by simp)
    have d5:(((W.setCell ⟨w.heap.size + 1,0,none⟩ (.string ⟨#[]⟩)).setCell ⟨w.heap.size + 1 + 1,0,none⟩ (.bool x.toList.isEmpty)).drew).cell? ⟨w.heap.size + 1 + 1,0,none⟩ = some (.bool x.toList.isEmpty):=cellSet _ ⟨w.heap.size + 1 + 1,0,none⟩ _ (cellS c5 (by simp))
    have hB2:Below w.heap.size w (((W.setCell ⟨w.heap.size + 1,0,none⟩ (.string ⟨#[]⟩)).setCell ⟨w.heap.size + 1 + 1,0,none⟩ (.bool x.toList.isEmpty)).drew):=((hB.setCell (p:=⟨w.heap.size + 1,0,none⟩) (by simp) _).setCell (p:=⟨w.heap.size + 1 + 1,0,none⟩) (by simp;omega) _).drew
    clear hK'
    generalize (((W.setCell ⟨w.heap.size + 1,0,none⟩ (.string ⟨#[]⟩)).setCell ⟨w.heap.size + 1 + 1,0,none⟩ (.bool x.toList.isEmpty)).drew) = W2 at hD' d4 d5 hB2 ⊢
    refine ⟨by simp,.inl ⟨_,_,rfl,run_takeDeferred hD',?_⟩⟩
    have k4:=cell_kept d4 (grownBy_putObj' _ D (.deferred none)) (fun r e=>by cases e;exact ⟨_,hD',rfl⟩)
    have k5:=cell_kept d5 (grownBy_putObj' _ D (.deferred none)) (fun r e=>by cases e;exact ⟨_,hD',rfl⟩)
    refine ⟨.tuple #[.string ⟨#[]⟩,.bool x.toList.isEmpty],by simp [results,Tryz.f124,go_sem,k4,k5],?_,hB2.trans (belowK_b (w:=w) (Nat.le_refl _) W2 D _ _ (by simp at hD;omega) hD' rfl rfl)⟩
    have hs:spaceS (els.map (·.1.2)) x = (⟨#[]⟩,decide (x = ⟨#[]⟩)):=by
     unfold spaceS
     rw [if_neg hx,inner_none els x hne]
    rw [hs,isEmpty_eq]
  case stop=>
   rintro D c pre W hD ⟨k,hk,rfl⟩ ⟨⟨rfl,ini,last,v,e1,e2,e3,c4,c5⟩,hB⟩ hK
   gi_wp2
   refine ⟨by simp,.inl ⟨_,_,rfl,run_takeDeferred hK,?_⟩⟩
   have k4:=cell_kept c4 (grownBy_putObj' _ D (.deferred none)) (fun r e=>by cases e;exact ⟨_,hK,rfl⟩)
   have k5:=cell_kept c5 (grownBy_putObj' _ D (.deferred none)) (fun r e=>by cases e;exact ⟨_,hK,rfl⟩)
   refine ⟨.tuple #[.string v,.bool true],by simp [results,Tryz.f124,go_sem,k4,k5],?_,hB.trans (belowK_b (w:=w) (Nat.le_refl _) W D _ _ (by simp at hD;omega) hK rfl rfl)⟩
   have hs:spaceS (els.map (·.1.2)) x = (v,true):=by
    unfold spaceS
    rw [if_neg hx,inner_some els x k ini last v e1 e2 e3]
   rw [hs]
end Go.Proofs.YtbaokjfhigjpdaaGreatDoorN
end
section
set_option linter.unusedVariables false
set_option linter.unusedSimpArgs false
namespace Go.Proofs.YtbaokjfhigjpdaaGreatDoorN
open Go.RowKit Go.Proofs.YtbaokjfhigjpdaaGreatDoor.PNsBase Go.Proofs.YtbaokjfhigjpdaaGreatDoorW.PrintWords Go.Proofs.YtbaokjfhigjpdaaGreatDoorW.PrintLast Go.Proofs.YtbaokjfhigjpdaaGreatDoorW.PrintMore
def Bytes (l:List Int):Prop:=∀ x ∈ l,0 ≤ x ∧ x < 256
theorem Bytes.tail {c:Int} {l:List Int} (h:Bytes (c :: l)):Bytes l:=fun x hx=>h x (List.mem_cons_of_mem _ hx)
theorem Bytes.head {c:Int} {l:List Int} (h:Bytes (c :: l)):0 ≤ c ∧ c < 256:=h c List.mem_cons_self
theorem Bytes.drop {l:List Int} (h:Bytes l) (n:Nat):Bytes (l.drop n):=fun x hx=>h x (List.mem_of_mem_drop hx)
theorem Bytes.take {l:List Int} (h:Bytes l) (n:Nat):Bytes (l.take n):=fun x hx=>h x (List.mem_of_mem_take hx)
theorem Bytes.append {l m:List Int} (h:Bytes l) (h':Bytes m):Bytes (l ++ m):=fun x hx=>(List.mem_append.1 hx).elim (h x) (h' x)
theorem bytes_of (s:ByteArray):Bytes (bytesOf s):=by
 intro x hx
 obtain ⟨b,_,rfl⟩:=List.mem_map.1 hx
 have:=b.toNat_lt
 omega
theorem decode_eq {l:List Int} (h:Bytes l):char_Decode.f l = some (decS l):=by
 unfold char_Decode.f
 rw [if_pos]
 rw [List.all_eq_true]
 intro x hx
 have:=h.take 4 x hx
 unfold isByte
 simp;omega
theorem decS_ok {l:List Int} (h:Bytes l):decS l = (-1,0) ∨ (1 ≤ (decS l).2 ∧ (decS l).2 ≤ l.length ∧ (decS l).2 ≤ 4 ∧ 0 ≤ (decS l).1 ∧ (decS l).1 ≤ 1114111):=by
 match l,h with
 | [],h=>exact .inl rfl
 | c :: t,h=>
  have hc:=h.head
  have ht:=h.tail
  simp only [decS]
  split
  · exact .inr ⟨by simp,by simp only [List.length_cons];omega,by simp,hc.1,by simp only [];omega⟩
  ·split
   ·match t,ht with
    | [],_=>exact .inl rfl
    | a :: t1,ht=>
     have ha:=ht.head
     simp only []
     repeat' split
     all_goals first | exact .inl rfl | (refine .inr ⟨by simp,by simp only [List.length_cons];omega,by simp,?_,?_⟩ <;> (simp only [];omega))
   ·split
    ·match t,ht with
     | [],_=>exact .inl rfl
     | [a],_=>exact .inl rfl
     | a :: b :: t1,ht=>
      have ha:=ht.head
      have hb:=ht.tail.head
      simp only []
      repeat' split
      all_goals first | exact .inl rfl | (refine .inr ⟨by simp,by simp only [List.length_cons];omega,by simp,?_,?_⟩ <;> (simp only [];omega))
    ·split
     ·match t,ht with
      | [],_=>exact .inl rfl
      | [a],_=>exact .inl rfl
      | [a,b],_=>exact .inl rfl
      | a :: b :: d :: t1,ht=>
       have ha:=ht.head
       have hb:=ht.tail.head
       have hd:=ht.tail.tail.head
       simp only []
       repeat' split
       all_goals first | exact .inl rfl | (refine .inr ⟨by simp,by simp only [List.length_cons];omega,by simp,?_,?_⟩ <;> (simp only [];omega))
     · exact .inl rfl
def charB (r:Int):Bool:=decide (r = 9 ∨ r = 10 ∨ r = 13 ∨ (32 ≤ r ∧ r ≤ 55295) ∨ (57344 ≤ r ∧ r ≤ 65533) ∨ (65536 ≤ r ∧ r ≤ 1114111))
theorem char_eq (r:Int):char_Char.f r = some (charB r):=by
 unfold char_Char.f charB
 repeat' split
 all_goals (congr 1;rw [Bool.eq_iff_iff];first | (simp;done) | (simp;omega))
theorem w64 {x:Int} (h0:0 ≤ x) (h1:x < 4611686018427387904):wrap64 x = x:=by unfold wrap64;omega
def startB (r:Int):Bool:=decide ((65 ≤ r ∧ r ≤ 90) ∨ (97 ≤ r ∧ r ≤ 122) ∨ r = 95 ∨ r = 58 ∨ (192 ≤ r ∧ r ≠ 215 ∧ r ≠ 247 ∧ charB r = true))
def partB (r:Int):Bool:=decide (startB r = true ∨ (48 ≤ r ∧ r ≤ 57) ∨ r = 45 ∨ r = 46 ∨ r = 183)
theorem start_eq (k:Nat) (r:Int):char_Start.f (k + 2) r = some (startB r):=by
 unfold char_Start.f startB
 simp only [char_Start.j0,char_Start.j1,char_eq,Option.bind_some,decide_eq_true_eq]
 cases hc:charB r
 all_goals
  repeat' split
  all_goals first | contradiction | rfl | (congr 1;rw [Bool.eq_iff_iff];simp only [decide_eq_true_eq,beq_iff_eq,reduceCtorEq,true_iff,false_iff,and_true,and_false,or_false,false_or,true_or,or_true,not_true,not_false_iff,ne_eq];omega) | (congr 1;rw [Bool.eq_iff_iff];simp only [decide_eq_true_eq,beq_iff_eq,reduceCtorEq,true_iff,false_iff,and_true,and_false,or_false,false_or,true_or,or_true,not_true,not_false_iff,ne_eq];done) | (congr 1;rw [Bool.eq_iff_iff];omega) | (congr 1;simp;done)
theorem start_ev (r:Int):Ev (fun k=>char_Start.f k r) (startB r):=⟨2,fun k hk=>by obtain ⟨j,rfl⟩:∃ j,k = j + 2:=⟨k - 2,by omega⟩;exact start_eq j r⟩
theorem part_eq (k:Nat) (r:Int):char_Part.f (k + 2) r = some (partB r):=by
 unfold char_Part.f partB
 rw [start_eq]
 simp only [Option.bind_some]
 cases hc:startB r
 all_goals
  repeat' split
  all_goals first | contradiction | rfl | (congr 1;rw [Bool.eq_iff_iff];simp only [decide_eq_true_eq,beq_iff_eq,reduceCtorEq,true_iff,false_iff,and_true,and_false,or_false,false_or,true_or,or_true,not_true,not_false_iff,ne_eq];omega) | (congr 1;rw [Bool.eq_iff_iff];simp only [decide_eq_true_eq,beq_iff_eq,reduceCtorEq,true_iff,false_iff,and_true,and_false,or_false,false_or,true_or,or_true,not_true,not_false_iff,ne_eq];done) | (congr 1;rw [Bool.eq_iff_iff];omega) | (congr 1;simp;done)
theorem part_ev (r:Int):Ev (fun k=>char_Part.f k r) (partB r):=⟨2,fun k hk=>by obtain ⟨j,rfl⟩:∃ j,k = j + 2:=⟨k - 2,by omega⟩;exact part_eq j r⟩
def mkB (l:List UInt8):ByteArray:=⟨l.toArray⟩
theorem ba_ext {a b:ByteArray} (h:a.data.toList = b.data.toList):a = b:=by
 obtain ⟨⟨la⟩⟩:=a
 obtain ⟨⟨lb⟩⟩:=b
 simp only at h
 rw [h]
theorem extract_mkB (s:ByteArray) (a b:Nat):s.extract a b = mkB ((s.data.toList.drop a).take (b - a)):=ba_ext (Lib.extract_data s a b)
theorem mkB_size (l:List UInt8):(mkB l).size = l.length:=by rw [← data_length];rfl
def letsN:Nat → List Int → Option (List Int)
  | 0,l=>if l = [] then some [] else none
  | n + 1,l=>if l = [] then some [] else if (decS l).2 = 0 then none else (letsN n (l.drop (decS l).2.toNat)).map ((decS l).1 :: ·)
def lets (l:List Int):Option (List Int):=letsN l.length l
theorem letsN_fuel (n:Nat):∀ (m:Nat) (l:List Int),Bytes l → l.length ≤ n → l.length ≤ m → letsN n l = letsN m l:=by
 induction n with
 | zero=>
  intro m l _ hn _
  obtain rfl:l = []:=List.length_eq_zero_iff.1 (by omega)
  cases m <;> simp [letsN]
 | succ n ih=>
  intro m l hb hn hm
  by_cases he:l = []
  ·subst he
   cases m <;> simp [letsN]
  ·have hp:=List.length_pos_iff.2 he
   obtain ⟨m,rfl⟩:∃ j,m = j + 1:=⟨m - 1,by omega⟩
   simp only [letsN]
   rw [if_neg he,if_neg he]
   by_cases h0:(decS l).2 = 0
   · rw [if_pos h0,if_pos h0]
   ·rw [if_neg h0,if_neg h0]
    rcases decS_ok hb with e | ⟨a,b,c,_⟩
    · rw [e] at h0;exact absurd rfl h0
    · rw [ih m _ (hb.drop _) (by rw [List.length_drop];omega) (by rw [List.length_drop];omega)]
theorem lets_nil:lets [] = some []:=rfl
theorem lets_bad {l:List Int} (he:l ≠ []) (h0:(decS l).2 = 0):lets l = none:=by
 have hp:=List.length_pos_iff.2 he
 unfold lets
 obtain ⟨n,hn⟩:∃ n,l.length = n + 1:=⟨l.length - 1,by omega⟩
 rw [hn]
 simp only [letsN]
 rw [if_neg he,if_pos h0]
theorem lets_step {l:List Int} (hb:Bytes l) (h0:(decS l).2 ≠ 0):lets l = (lets (l.drop (decS l).2.toNat)).map ((decS l).1 :: ·):=by
 have he:l ≠ []:=by
  intro e
  subst e
  exact h0 rfl
 have hp:=List.length_pos_iff.2 he
 unfold lets
 obtain ⟨n,hn⟩:∃ n,l.length = n + 1:=⟨l.length - 1,by omega⟩
 rw [hn]
 simp only [letsN]
 rw [if_neg he,if_neg h0]
 rcases decS_ok hb with e | ⟨a,b,c,_⟩
 · rw [e] at h0;exact absurd rfl h0
 · rw [letsN_fuel n (l.drop (decS l).2.toNat).length _ (hb.drop _) (by rw [List.length_drop];omega) (Nat.le_refl _)]
theorem drop_ne {L:List Int} {i:Nat} (h:i < L.length):L.drop i ≠ []:=by
 intro e
 have:=congrArg List.length e
 rw [List.length_drop,List.length_nil] at this
 omega
theorem conv_eq {s:ByteArray} (h:s.size < 140737488355328):conv_bytes.f s = some (bytesOf s):=by unfold conv_bytes.f;rw [if_pos h]
theorem toL (s:ByteArray):s.toList = s.data.toList:=ByteArray.toList_eq s
def partsL (M:Option (List Int)):Bool:=match M with
 | none=>false
 | some M=>M.all partB
def nameL (p:Int → Bool) (M:Option (List Int)):Bool:=match M with
 | none=>false
 | some []=>false
 | some (r :: t)=>p r && (r :: t).all partB
theorem partsL_cons (r:Int) (M:Option (List Int)):partsL (M.map (r :: ·)) = (partB r && partsL M):=by cases M <;> simp [partsL]
theorem nameL_cons (p:Int → Bool) (r:Int) (M:Option (List Int)):nameL p (M.map (r :: ·)) = (p r && (partB r && partsL M)):=by cases M <;> simp [partsL,nameL]
theorem every1_go (s:ByteArray) (L:List Int) (hb:Bytes L) (hL:L.length < 140737488355328) (hs:s.toList.isEmpty = false) (n:Nat):∀ i:Nat,1 ≤ i → i ≤ L.length → L.length - i ≤ n →
    Ev (fun k=>char_every_char_Start_char_Part.l0 k s L i) (partsL (lets (L.drop i))):=by
  induction n with
  | zero=>
   intro i h1 hi hn
   have e:L.drop i = []:=List.drop_eq_nil_of_le (by omega)
   rw [e,lets_nil]
   refine Ev.step (f:=fun _=>some true) (fun k=>?_) (Ev.now true)
   simp only [char_every_char_Start_char_Part.l0]
   rw [if_neg (by omega),hs]
   rfl
  | succ n ih=>
   intro i h1 hi hn
   by_cases hlt:i < L.length
   ·have hne:=drop_ne hlt
    have hbd:=hb.drop i
    by_cases h0:(decS (L.drop i)).2 = 0
    ·rw [lets_bad hne h0]
     refine Ev.step (f:=fun _=>some false) (fun k=>?_) (Ev.now false)
     simp only [char_every_char_Start_char_Part.l0]
     rw [if_pos (by omega),if_pos (by omega),if_pos (by omega),Int.toNat_natCast,decode_eq hbd]
     simp only [Option.bind_some]
     rw [if_pos h0]
    ·rw [lets_step hbd h0,partsL_cons]
     rcases decS_ok hbd with e | ⟨g1,g2,g3,_⟩
     · rw [e] at h0;exact absurd rfl h0
     rw [List.length_drop] at g2
     obtain ⟨m,hm⟩:∃ m:Nat,(decS (L.drop i)).2 = m:=⟨(decS (L.drop i)).2.toNat,by omega⟩
     have:=ih (i + m) (by omega) (by omega) (by omega)
     rw [hm,Int.toNat_natCast,List.drop_drop]
     refine Ev.step (f:=fun k=>(char_Part.f k (decS (L.drop i)).1).bind fun t=>if t = true then char_every_char_Start_char_Part.l0 k s L ((i + m:Nat):Int) else some false) (fun k=>?_) ?_
     ·simp only [char_every_char_Start_char_Part.l0]
      rw [if_pos (by omega),if_pos (by omega),if_pos (by omega),Int.toNat_natCast,decode_eq hbd]
      simp only [Option.bind_some]
      rw [if_neg h0,if_neg (by omega),hm,w64 (by omega) (by omega)]
      rfl
     ·refine Ev.bind (part_ev _) ?_
      cases hp:partB (decS (L.drop i)).1 with
      | false=>exact Ev.congr (fun k=>if_neg (by simp)) (Ev.now false)
      | true=>exact Ev.congr (fun k=>if_pos rfl) (by simpa using this)
   · exact ih i h1 hi (by omega)
theorem every1_eq (s:ByteArray) (hs:s.size < 4398046511104):Ev (fun k=>char_every_char_Start_char_Part.f k s) (nameL startB (lets (bytesOf s))):=by
 unfold char_every_char_Start_char_Part.f
 refine Ev.congr (fun k=>by rw [conv_eq (by omega)];rfl) (f:=fun k=>char_every_char_Start_char_Part.l0 k s (bytesOf s) 0) ?_
 have hl:=bytesOf_length s
 have hb:=bytes_of s
 by_cases hz:s.size = 0
 ·have he:bytesOf s = []:=List.length_eq_zero_iff.1 (by omega)
  have hse:s.toList.isEmpty = true:=by
   rw [toL,List.isEmpty_iff_length_eq_zero,data_length,hz]
  rw [he,lets_nil]
  refine Ev.step (f:=fun _=>some false) (fun k=>?_) (Ev.now false)
  simp only [char_every_char_Start_char_Part.l0]
  rw [if_neg (by simp),hse]
  rfl
 · have hse:s.toList.isEmpty = false:=by
     rw [toL,Bool.eq_false_iff]
     intro e
     rw [List.isEmpty_iff_length_eq_zero,data_length] at e
     exact hz e
   have hne:bytesOf s ≠ []:=by
    intro e
    rw [e] at hl
    exact hz hl.symm
   by_cases h0:(decS (bytesOf s)).2 = 0
   ·rw [lets_bad hne h0]
    refine Ev.step (f:=fun _=>some false) (fun k=>?_) (Ev.now false)
    simp only [char_every_char_Start_char_Part.l0]
    rw [if_pos (by omega),if_pos (by omega),if_pos (by omega),Int.toNat_zero,List.drop_zero,decode_eq hb]
    simp only [Option.bind_some]
    rw [if_pos h0]
   ·rw [lets_step hb h0,nameL_cons]
    rcases decS_ok hb with e | ⟨g1,g2,g3,_⟩
    · rw [e] at h0;exact absurd rfl h0
    obtain ⟨m,hm⟩:∃ m:Nat,(decS (bytesOf s)).2 = m:=⟨(decS (bytesOf s)).2.toNat,by omega⟩
    have:=every1_go s (bytesOf s) hb (by omega) hse (bytesOf s).length m (by omega) (by omega) (by omega)
    rw [hm,Int.toNat_natCast]
    refine Ev.step (f:=fun k=>(char_Start.f k (decS (bytesOf s)).1).bind fun q=>if q = true then (char_Part.f k (decS (bytesOf s)).1).bind fun t=>if t = true then char_every_char_Start_char_Part.l0 k s (bytesOf s) ((m:Nat):Int) else some false else some false) (fun k=>?_) ?_
    ·simp only [char_every_char_Start_char_Part.l0]
     rw [if_pos (by omega),if_pos (by omega),if_pos (by omega),Int.toNat_zero,List.drop_zero,decode_eq hb]
     simp only [Option.bind_some]
     rw [if_neg h0,if_pos trivial,hm,w64 (by omega) (by omega),Int.zero_add]
    ·refine Ev.bind (start_ev _) ?_
     cases hq:startB (decS (bytesOf s)).1 with
     | false=>exact Ev.congr (fun k=>if_neg (by simp)) (Ev.now false)
     | true=>
      refine Ev.congr (fun k=>if_pos rfl) (Ev.bind (part_ev _) ?_)
      cases hp:partB (decS (bytesOf s)).1 with
      | false=>exact Ev.congr (fun k=>if_neg (by simp)) (Ev.now false)
      | true=>exact Ev.congr (fun k=>if_pos rfl) (by simpa using this)
def ncB (s:ByteArray):Bool:=nameL startB (lets (bytesOf s)) && decide (Lib.indexByte s.data.toList 58 < 0)
def qnS (s:ByteArray):ByteArray × ByteArray × Bool :=
  if Lib.indexByte s.data.toList 58 < 0 then (if ncB s = true then (⟨#[]⟩,s,true) else (⟨#[]⟩,⟨#[]⟩,false))
  else if ncB (s.extract 0 (Lib.indexByte s.data.toList 58).toNat) = true then
    (if ncB (s.extract ((Lib.indexByte s.data.toList 58).toNat + 1) s.size) = true then (s.extract 0 (Lib.indexByte s.data.toList 58).toNat,s.extract ((Lib.indexByte s.data.toList 58).toNat + 1) s.size,true) else (⟨#[]⟩,⟨#[]⟩,false))
  else (⟨#[]⟩,⟨#[]⟩,false)
theorem name_ev (s:ByteArray) (hs:s.size < 4398046511104):Ev (fun k=>char_Name.f k s) (nameL startB (lets (bytesOf s))):=by
 unfold char_Name.f
 exact Ev.bind (every1_eq s hs) (Ev.now _)
theorem ncname_ev (s:ByteArray) (hs:s.size < 4398046511104):Ev (fun k=>char_NCName.f k s) (ncB s):=by
 unfold char_NCName.f ncB
 refine Ev.bind (name_ev s hs) ?_
 cases nameL startB (lets (bytesOf s)) with
 | false=>exact Ev.congr (fun k=>if_neg (by simp)) (Ev.now false)
 | true=>
  refine Ev.congr (fun k=>if_pos rfl) ?_
  unfold strings_IndexByte.f
  exact Ev.now _
theorem extract_small (s:ByteArray) (a b:Nat) (hs:s.size < 4398046511104):(s.extract a b).size < 4398046511104:=by
 rw [extract_mkB,mkB_size,List.length_take,List.length_drop,data_length]
 omega
theorem qname_ev (s:ByteArray) (hs:s.size < 4398046511104):Ev (fun k=>char_QName.f k s) (qnS s):=by
 unfold char_QName.f
 by_cases hi:Lib.indexByte s.data.toList 58 < 0
 · have hc:strings_Cut.f s (⟨#[58]⟩:ByteArray) = some (s,⟨#[]⟩,false):=by
     unfold strings_Cut.f
     rw [if_pos (by omega)]
     simp only []
     rw [if_pos hi]
   rw [hc]
   unfold qnS
   rw [if_pos hi]
   simp only [Option.bind_some]
   refine Ev.congr (fun k=>if_neg (by simp)) ?_
   refine Ev.step (f:=fun k=>(char_NCName.f k s).bind fun t=>if t = true then some ((⟨#[]⟩:ByteArray),s,true) else some ((⟨#[]⟩:ByteArray),(⟨#[]⟩:ByteArray),false)) (fun k=>?_) ?_
   ·simp only [char_QName.j0]
    rw [if_neg (by simp)]
   ·refine Ev.bind (ncname_ev s hs) ?_
    cases ncB s with
    | false=>exact Ev.congr (fun k=>if_neg (by simp)) (Ev.now _)
    | true=>exact Ev.congr (fun k=>if_pos rfl) (Ev.now _)
 · have hc:strings_Cut.f s (⟨#[58]⟩:ByteArray) = some (s.extract 0 (Lib.indexByte s.data.toList 58).toNat,s.extract ((Lib.indexByte s.data.toList 58).toNat + 1) s.size,true):=by
     unfold strings_Cut.f
     rw [if_pos (by omega)]
     simp only []
     rw [if_neg hi]
   rw [hc]
   unfold qnS
   rw [if_neg hi]
   simp only [Option.bind_some]
   refine Ev.congr (fun k=>if_pos trivial) ?_
   generalize (Lib.indexByte s.data.toList 58).toNat = i
   refine Ev.step (f:=fun k=>(char_NCName.f k (s.extract 0 i)).bind fun q=>if q = true then (char_NCName.f k (s.extract (i + 1) s.size)).bind fun t=>if t = true then some (s.extract 0 i,s.extract (i + 1) s.size,true) else some ((⟨#[]⟩:ByteArray),(⟨#[]⟩:ByteArray),false) else some ((⟨#[]⟩:ByteArray),(⟨#[]⟩:ByteArray),false)) (fun k=>?_) ?_
   ·simp only [char_QName.j0]
    rw [if_pos trivial]
   ·refine Ev.bind (ncname_ev _ (extract_small s _ _ hs)) ?_
    cases ncB (s.extract 0 i) with
    | false=>exact Ev.congr (fun k=>if_neg (by simp)) (Ev.now _)
    | true=>
     refine Ev.congr (fun k=>if_pos rfl) (Ev.bind (ncname_ev _ (extract_small s _ _ hs)) ?_)
     cases ncB (s.extract (i + 1) s.size) with
     | false=>exact Ev.congr (fun k=>if_neg (by simp)) (Ev.now _)
     | true=>exact Ev.congr (fun k=>if_pos rfl) (Ev.now _)
abbrev ownB:List UInt8:=[120,109,108,110,115]
abbrev ownC:List UInt8:=[120,109,108,110,115,58]
def bindsS (s:ByteArray):ByteArray × Bool:=if s.data.toList = ownB then (⟨#[]⟩,true) else (mkB (Lib.trimPrefix s.data.toList ownC),Lib.hasPrefix s.data.toList ownC)
abbrev xmlL:List UInt8:=[120,109,108]
abbrev xmlU:List UInt8:=[104,116,116,112,58,47,47,119,119,119,46,119,51,46,111,114,103,47,88,77,76,47,49,57,57,56,47,110,97,109,101,115,112,97,99,101]
abbrev xmlnsU:List UInt8:=[104,116,116,112,58,47,47,119,119,119,46,119,51,46,111,114,103,47,50,48,48,48,47,120,109,108,110,115,47]
def wrongS (name prefix_ space:ByteArray):Bool :=
  if name.data.toList ≠ ownB ∧ (ncB prefix_ = false ∨ prefix_.data.toList = ownB) then true
  else if (prefix_.data.toList == xmlL) ≠ (space.data.toList == xmlU) then true
  else if space.data.toList = xmlnsU then true
  else (decide (space.data.toList = []) && decide (prefix_.data.toList ≠ []))
theorem qname_c (s:ByteArray) (hs:s.size < 4398046511104) (w:World) :
    Calls Tryz.prog 123 #[.string s] w fun e w'=>e = .returned (.tuple #[.string (qnS s).1,.string (qnS s).2.1,.bool (qnS s).2.2]) ∧ Below w.heap.size w w':=by
  obtain ⟨k,h⟩:=(qname_ev s hs).rounds
  exact char_QName.calls k s _ _ _ w h
theorem binds_c (s:ByteArray) (w:World) :
    Calls Tryz.prog 63 #[.string s] w fun e w'=>e = .returned (.tuple #[.string (bindsS s).1,.bool (bindsS s).2]) ∧ Below w.heap.size w w':=by
  have h:ns_binds.f s = some (bindsS s):=by
   unfold ns_binds.f strings_CutPrefix.f bindsS
   rw [toL]
   by_cases h:s.data.toList = [120,109,108,110,115]
   · rw [if_pos h,if_pos (show s.data.toList = ownB from h)]
   ·rw [if_neg h,if_neg (show ¬ s.data.toList = ownB from h)]
    rfl
  refine (ns_binds.calls s _ _ w h).mono fun e w' hh=>?_
  obtain ⟨rfl,hd⟩:=hh
  refine ⟨rfl,?_⟩
  obtain ⟨n,rfl⟩:=hd.out
  exact ⟨rfl,rfl,rfl,Nat.le_refl _,fun _ _=>rfl⟩
theorem hasPrefix_c (s p:ByteArray) (w:World) :
    Calls Tryz.prog 86 #[.string s,.string p] w fun e w'=>e = .returned (.bool (Lib.hasPrefix s.data.toList p.data.toList)) ∧ w' = w:=Tryz.strings_HasPrefix s p w
theorem wrong_ev (a b c:ByteArray) (hb:b.size < 4398046511104):Ev (fun k=>ns_wrong.f k a b c) (wrongS a b c):=by
 have last:∀ x:Bool,Ev (fun k=>ns_wrong.j0 k b c x) (if x = true then true else if (b.data.toList == xmlL) ≠ (c.data.toList == xmlU) then true else if c.data.toList = xmlnsU then true else (decide (c.data.toList = []) && decide (b.data.toList ≠ []))):=by
  intro x
  refine Ev.step (f:=fun _=>some (if x = true then true else if (b.data.toList == xmlL) ≠ (c.data.toList == xmlU) then true else if c.data.toList = xmlnsU then true else (decide (c.data.toList = []) && decide (b.data.toList ≠ [])))) (fun k=>?_) (Ev.now _)
  simp only [ns_wrong.j0,toL]
  cases x with
  | true=>rfl
  | false=>
   simp only [Bool.false_eq_true,if_false]
   by_cases h1:(b.data.toList == xmlL) ≠ (c.data.toList == xmlU)
   · rw [if_pos h1,if_pos (show ((b.data.toList == xmlL) != (c.data.toList == xmlU)) = true from bne_iff_ne.2 h1)]
   ·rw [if_neg h1,if_neg (show ¬ ((b.data.toList == xmlL) != (c.data.toList == xmlU)) = true from fun e=>h1 (bne_iff_ne.1 e))]
    by_cases h2:c.data.toList = xmlnsU
    · rw [if_pos h2,if_pos (show c.data.toList = xmlnsU from h2)]
    ·rw [if_neg h2,if_neg (show ¬ c.data.toList = xmlnsU from h2)]
     by_cases h3:c.data.toList = []
     ·rw [if_pos h3,decide_eq_true h3,Bool.true_and]
      cases b.data.toList <;> simp
     · rw [if_neg h3,decide_eq_false h3,Bool.false_and]
 unfold ns_wrong.f wrongS
 rw [toL,toL]
 by_cases h:a.data.toList = [120,109,108,110,115]
 ·have h':a.data.toList = ownB:=h
  rw [if_neg (show ¬ (a.data.toList ≠ ownB ∧ _) from fun x=>x.1 h')]
  exact Ev.congr (fun k=>if_pos h) (last false)
 ·have h':a.data.toList ≠ ownB:=h
  refine Ev.congr (fun k=>if_neg h) (Ev.bind (ncname_ev b hb) ?_)
  cases hn:ncB b with
  | false=>
   rw [if_pos ⟨h',.inl rfl⟩]
   exact Ev.congr (fun k=>if_neg (by simp)) (last true)
  | true=>
   refine Ev.congr (fun k=>if_pos rfl) ?_
   have:=last (b.data.toList == ownB)
   by_cases h4:b.data.toList = ownB
   ·rw [if_pos ⟨h',.inr h4⟩]
    rw [if_pos (by rw [beq_iff_eq];exact h4)] at this
    exact this
   ·rw [if_neg (fun x=>x.2.elim (fun e=>by cases e) h4)]
    rw [if_neg (by rw [beq_iff_eq];exact h4)] at this
    exact this
theorem wrong_c (a b c:ByteArray) (hb:b.size < 4398046511104) (w:World) :
    Calls Tryz.prog 64 #[.string a,.string b,.string c] w fun e w'=>e = .returned (.bool (wrongS a b c)) ∧ Below w.heap.size w w':=by
  obtain ⟨k,h⟩:=(wrong_ev a b c hb).rounds
  exact ns_wrong.calls k a b c _ w h
end Go.Proofs.YtbaokjfhigjpdaaGreatDoorN
end
section
set_option linter.unusedVariables false
namespace Go.Proofs.YtbaokjfhigjpdaaGreatDoorN
open Go.RowKit Go.Shelf
structure Sc (w:World) (p:Nat) (sv:Value) (L:List Binds):Prop where mk ::
  cell:w.cell? ⟨p,0,none⟩ = some sv
  frozen:w.frozen? ⟨p,0,none⟩ = false
  rows:∃ els:List (Nat × Binds),w.ownsRow 0 161 1 sv els.length (els.map fun e=>Value.map (some e.1)) ∧ els.map (·.2) = L ∧ ∀ e ∈ els,SMap w e.1 e.2
  apart:sv.ownBlock ≠ some p
  typ:∃ v,w.heap[p]? = some (.cells #[v] 160 (0,0))
theorem lt_of_cell {w:World} {p:Addr} {v:Value} (h:w.cell? p = some v):p.block < w.heap.size:=World.block_lt_of_cell? w p h
theorem ownsRow_of_blocks {w w':World} {base:Nat} {e:TypeId} {size n:Nat} {v:Value} {xs:List Value} (h:w.ownsRow base e size v n xs) (hb:∀ k,v.ownBlock = some k → w'.heap[k]? = w.heap[k]?):w'.ownsRow base e size v n xs:=by
 obtain ⟨h1,h2⟩:=h
 refine ⟨h1,?_⟩
 rcases h2 with h2 | ⟨g,cap,cur,rfl,hg,r,h3⟩
 · exact .inl h2
 · exact .inr ⟨g,cap,cur,rfl,hg,(hb g rfl).trans r,h3⟩
theorem typ_set {w:World} {p:Nat} {x:Value} {t:TypeId} (h:∃ v,w.heap[p]? = some (.cells #[v] t (0,0))):∃ v,(w.setCell ⟨p,0,none⟩ x).heap[p]? = some (.cells #[v] t (0,0)):=by
 obtain ⟨v,hv⟩:=h
 refine ⟨x,?_⟩
 simp only [World.setCell,Array.getElem?_modify,if_true]
 rw [hv]
 rfl
theorem Sc.lt {w:World} {p:Nat} {sv:Value} {L:List Binds} (h:Sc w p sv L):p < w.heap.size:=lt_of_cell h.cell
theorem Sc.below {w w':World} {p:Nat} {sv:Value} {L:List Binds} (h:Sc w p sv L) (hb:Below w.heap.size w w'):Sc w' p sv L:=by
 obtain ⟨els,h1,h2,h3⟩:=h.rows
 refine ⟨(hb.cell (p:=⟨p,0,none⟩) h.lt).trans h.cell,(World.frozen?_of_block (hb.block p h.lt)).trans h.frozen,⟨els,ownsRow_of_blocks h1 (fun k hk=>hb.block k (h1.lt k hk).2),h2,fun e he=>(h3 e he).of_block (hb.block _ (h3 e he).lt)⟩,h.apart,by obtain ⟨v,hv⟩:=h.typ;exact ⟨v,(hb.block p h.lt).trans hv⟩⟩
theorem Sc.alloc {w:World} {p:Nat} {sv:Value} {L:List Binds} (h:Sc w p sv L) (o:Obj):Sc (w.alloc o) p sv L:=h.below ((Below.refl _ w).alloc (Nat.le_refl _) o)
theorem Sc.slice {w:World} {p:Nat} {sv:Value} {L:List Binds} (h:Sc w p sv L):∃ a cap,sv = .slice a L.length cap:=by
 obtain ⟨els,h1,h2,_⟩:=h.rows
 have hl:els.length = L.length:=by rw [← h2,List.length_map]
 rcases h1.2 with ⟨rfl,he⟩ | ⟨g,cap,cur,rfl,_⟩
 · exact ⟨none,0,by rw [← hl,he]⟩
 · exact ⟨_,cap,by rw [hl]⟩
theorem Sc.els {w:World} {p:Nat} {sv:Value} {L:List Binds} (h:Sc w p sv L):∃ els:List {e:Nat × Binds // SMap w e.1 e.2},els.map (·.1.2) = L ∧ IsMaps w.heap.size w sv (els.map (·.1.1)):=by
 obtain ⟨els,h1,h2,h3⟩:=h.rows
 refine ⟨els.pmap (fun e h=>⟨e,h⟩) h3,by rw [List.map_pmap];simpa using h2,?_⟩
 have e1:(els.pmap (fun e h=>(⟨e,h⟩:{e:Nat × Binds // SMap w e.1 e.2})) h3).map (·.1.1) = els.map (·.1):=by rw [List.map_pmap];simp
 rw [e1]
 rcases h1.2 with ⟨rfl,he⟩ | ⟨g,cap,cur,rfl,hb,hg,r⟩
 · exact .inl ⟨rfl,by rw [List.length_eq_zero_iff.1 he];rfl⟩
 ·refine .inr ⟨g,0,cap,by rw [List.length_map],(h1.lt g rfl).2,fun j hj=>?_⟩
  have:=h1.cells (g:=g) rfl j (.map (some (els.map (·.1))[j])) (by rw [List.length_map] at hj;simp [hj])
  have ha:(⟨g,0,none⟩:Addr).add j = ⟨g,j,none⟩:=by unfold Addr.add;split <;> simp_all
  rw [ha] at this
  simpa using this
theorem space_c {w:World} {p:Nat} {sv:Value} {L:List Binds} (h:Sc w p sv L) (hL:L.length < 1099511627776) (x:ByteArray) :
    Calls Tryz.prog 124 #[.pointer (some ⟨p,0,none⟩),.string x] w fun e W'=>e = .returned (.tuple #[.string (spaceS L x).1,.bool (spaceS L x).2]) ∧ Below w.heap.size w W':=by
  refine (callsIn_wide (n:=3)).1 ?_
  by_cases hx:x = xmlB
  ·subst hx
   have hs:spaceS L xmlB = (xmlS,true):=by unfold spaceS;rw [if_pos rfl]
   rw [hs]
   exact space_xml_in _ 3 trivial rfl (Nat.le_refl _) _ w
  ·obtain ⟨a,cap,rfl⟩:=h.slice
   obtain ⟨els,h1,h2⟩:=h.els
   subst h1
   rw [List.length_map] at hL
   exact space_in _ 3 trivial trivial trivial rfl (Nat.le_refl _) ⟨p,0,none⟩ x hx a _ cap w els (by omega) h.cell h2
set_option maxRecDepth 100000 in
set_option maxHeartbeats 1000000 in
theorem new_c (w:World) :
    Calls Tryz.prog 39 #[] w fun e W'=>e = .returned (.pointer (some ⟨w.heap.size,0,none⟩)) ∧ W' = w.alloc (.cells #[.slice none 0 0] 160):=by
  go_enter Tryz.func39,Tryz.ntmps39
  go_wp2
  go_ret
  exact ⟨rfl,rfl⟩
theorem Sc_new (w:World):Sc (w.alloc (.cells #[.slice none 0 0] 160)) w.heap.size (.slice none 0 0) [] :=
  ⟨(Boxed.new w 160 _).cell,(Boxed.new w 160 _).frozen,⟨[],World.ownsRow_nil _ _ _ _,rfl,fun e he=>by simp at he⟩,by simp [Value.ownBlock],⟨_,heap_alloc_new w _⟩⟩
end Go.Proofs.YtbaokjfhigjpdaaGreatDoorN
end
