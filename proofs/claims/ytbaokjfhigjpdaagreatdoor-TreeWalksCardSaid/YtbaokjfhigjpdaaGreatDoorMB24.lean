/- What is proved: what the claims of this seat share, part 24: a program of ours merged it out of our own texts, the print's words and the laid shelf. Conditions: those of each. -/
import Derived.Test.YtbaokjfhigjpdaaGreatDoorMB23
import Derived.Deep.RegionHeldLaw
set_option linter.unusedVariables false
set_option linter.unusedSimpArgs false
section
set_option linter.unusedVariables false
namespace Go.Proofs.YtbaokjfhigjpdaaGreatDoorT
open Go.RowKit Go.Shelf
open Go.Proofs.YtbaokjfhigjpdaaGreatDoorN (NA flatN flatB)
open Go.Proofs.YtbaokjfhigjpdaaGreatDoorX (RowAt blk_lt blk_cell blk_frz lt_of_cell alloc_old ownsRow_of_blocks)
structure MI (w wr:World) (ms:List NP) (ns:List ND) (ov:Value) (op:List Nat) (b0 k:Nat):Prop where
  ar:Ar wr w.heap.size ms ns ov op
  up:∀ (i:Nat) (d:ND),ns[i]? = some d → ∀ j ∈ d.kids,i < j ∧ j < ns.length
  op0:op ≠ []
  oplt:∀ u ∈ op,u < ns.length
  below:Below w.heap.size w wr
  m0:(ms[0]?).map (·.b) = some b0
  nl:ns.length ≤ k + 1
  kl:∀ d ∈ ns,d.kids.length ≤ k
  ol:op.length ≤ 15
  cn:Cn ns
theorem Ar.newKid {wr:World} {B:Nat} {ms:List NP} {ns:List ND} {ov:Value} {op:List Nat} (h:Ar wr B ms ns ov op) {u:Nat} {mu:NP} {du:ND} (hmu:ms[u]? = some mu) (hdu:ns[u]? = some du) {av bv:Value} (d:ND) (hd0:d.kids = []) (ha:RowAt wr 70 4 av d.attrs.length (flatN d.attrs)) (hb:RowAt wr 171 2 bv d.binds.length (flatB d.binds))
    (hfa:∀ k,(av.ownBlock = some k ∨ bv.ownBlock = some k) → ¬ TX ms ov k ∧ B ≤ k) (hB:B ≤ wr.heap.size) {w9:World} {g9 cap9:Nat}
    (hown9:w9.ownsRow 0 27 1 (.slice (some ⟨g9,0,none⟩) (du.kids.length + 1) cap9) (du.kids.length + 1) (ptrs ms du.kids ++ [.pointer (some ⟨wr.heap.size,0,none⟩)])) (hg9:((wr.alloc (nodeO av bv d)).alloc (oneO wr.heap.size)).grownBy w9 mu.kv.ownBlock) (hat9:mu.kv.ownBlock = some g9 ∨ g9 = wr.heap.size + 1 + 1) :
    Ar (w9.setCell ⟨mu.b,6,none⟩ (.slice (some ⟨g9,0,none⟩) (du.kids.length + 1) cap9)) B ((ms ++ [(⟨wr.heap.size,av,bv,.slice none 0 0⟩:NP)]).set u { mu with kv:=.slice (some ⟨g9,0,none⟩) (du.kids.length + 1) cap9 }) (kidS (ns ++ [d]) u ns.length) ov op ∧
      Below B wr (w9.setCell ⟨mu.b,6,none⟩ (.slice (some ⟨g9,0,none⟩) (du.kids.length + 1) cap9)):=by
  have hba:=(Below.refl wr.heap.size wr).alloc (Nat.le_refl _) (nodeO av bv d)
  have h1:Ar (wr.alloc (nodeO av bv d)) B ms ns ov op:=h.off fun k hk=>hba.block k (h.below k hk)
  have hlen:=h.len
  have hul:=(List.getElem?_eq_some_iff.1 hmu).1
  have hud:=(List.getElem?_eq_some_iff.1 hdu).1
  have hne:∀ k,(Value.slice none 0 0).ownBlock ≠ some k:=fun k e=>by simp [Value.ownBlock] at e
  have hn:NodeAt (wr.alloc (nodeO av bv d)) ms ⟨wr.heap.size,av,bv,.slice none 0 0⟩ d:=by
   refine ⟨heap_alloc_new wr _,ha.move fun k hk=>hba.block k (ha.lt k hk),hb.move fun k hk=>hba.block k (hb.lt k hk),?_,?_,fun k e=>absurd e (hne k)⟩
   ·rw [hd0]
    exact World.ownsRow_nil _ _ _ _
   ·rw [hd0]
    intro i hi
    cases hi
  have hx:∀ k,NX ⟨wr.heap.size,av,bv,.slice none 0 0⟩ k → k = wr.heap.size ∨ av.ownBlock = some k ∨ bv.ownBlock = some k:=by
   rintro k (e | e | e | e)
   · exact .inl e
   · exact .inr (.inl e)
   · exact .inr (.inr e)
   · exact absurd e (hne k)
  have h2:=h1.add hn rfl (fun k hk ht=>by
      rcases hx k hk with e | e
      ·have:=h.below k ht
       omega
      · exact (hfa k e).1 ht) (fun k hk=>by
      rcases hx k hk with e | e
      · omega
      · exact (hfa k e).2)
  have hmu2:(ms ++ [(⟨wr.heap.size,av,bv,.slice none 0 0⟩:NP)])[u]? = some mu:=by rw [List.getElem?_append_left hul];exact hmu
  have hdu2:(ns ++ [d])[u]? = some du:=by rw [List.getElem?_append_left hud];exact hdu
  have hj:(ms ++ [(⟨wr.heap.size,av,bv,.slice none 0 0⟩:NP)])[ns.length]? = some ⟨wr.heap.size,av,bv,.slice none 0 0⟩:=by rw [← hlen,List.getElem?_append_right (Nat.le_refl _)];simp
  have hpk:ptrs (ms ++ [(⟨wr.heap.size,av,bv,.slice none 0 0⟩:NP)]) du.kids = ptrs ms du.kids:=ptrs_app _ (h.node u mu du hmu hdu).lt
  rw [kidS_eq hdu]
  obtain ⟨k1,k2,k3,k4⟩:=h2.kid hmu2 hdu2 hj (by rw [hpk];exact hown9) hg9 (by
    rcases hat9 with e | e
    · exact .inl (by rw [e];rfl)
    ·refine .inr ?_
     rw [e]
     simp [Value.ownBlock]) (by simp;omega)
  refine ⟨k1,?_⟩
  have hs:=hba.size
  refine ⟨hg9.os,hg9.tape,hg9.output,Nat.le_trans hs k3,fun k hk=>(k2 k (by omega) (fun e=>?_) (fun e=>?_)).trans (hba.block k (by omega))⟩
  ·have:=h.base k (.inl ⟨mu,List.mem_of_getElem? hmu,.inl e⟩)
   omega
  ·have:=h.base k (.inl ⟨mu,List.mem_of_getElem? hmu,.inr (.inr (.inr e))⟩)
   omega
theorem up_kid {ns:List ND} {u:Nat} {d:ND} (h:∀ (i:Nat) (d:ND),ns[i]? = some d → ∀ j ∈ d.kids,i < j ∧ j < ns.length) (hu:u < ns.length) (hd:d.kids = []):∀ (i:Nat) (x:ND),(kidS (ns ++ [d]) u ns.length)[i]? = some x → ∀ j ∈ x.kids,i < j ∧ j < (kidS (ns ++ [d]) u ns.length).length:=by
 intro i x hx j hj
 rw [kidS_len,List.length_append,List.length_singleton]
 obtain ⟨d1,h1,h2⟩:=kidS_get hx
 rcases app_get h1 with ⟨h1,hi⟩ | ⟨rfl,rfl⟩
 ·rcases h2 with ⟨_,e⟩ | ⟨e1,e⟩
  ·rw [e] at hj
   have:=h i d1 h1 j hj
   omega
  ·rw [e] at hj
   rcases List.mem_append.1 hj with hj | hj
   ·have:=h i d1 h1 j hj
    omega
   ·simp at hj
    omega
 ·rcases h2 with ⟨_,e⟩ | ⟨e1,e⟩
  ·rw [e,hd] at hj
   cases hj
  · omega
theorem MI.kid {w wr:World} {ms:List NP} {ns:List ND} {ov:Value} {op:List Nat} {b0 k:Nat} (h:MI w wr ms ns ov op b0 k) {u:Nat} {mu:NP} {du:ND} (hmu:ms[u]? = some mu) (hdu:ns[u]? = some du) {av bv:Value} (d:ND) (hd0:d.kids = []) (ha:RowAt wr 70 4 av d.attrs.length (flatN d.attrs)) (hb:RowAt wr 171 2 bv d.binds.length (flatB d.binds))
    (hfa:∀ k,(av.ownBlock = some k ∨ bv.ownBlock = some k) → ¬ TX ms ov k ∧ w.heap.size ≤ k) {w9:World} {g9 cap9:Nat}
    (hown9:w9.ownsRow 0 27 1 (.slice (some ⟨g9,0,none⟩) (du.kids.length + 1) cap9) (du.kids.length + 1) (ptrs ms du.kids ++ [.pointer (some ⟨wr.heap.size,0,none⟩)])) (hg9:((wr.alloc (nodeO av bv d)).alloc (oneO wr.heap.size)).grownBy w9 mu.kv.ownBlock) (hat9:mu.kv.ownBlock = some g9 ∨ g9 = wr.heap.size + 1 + 1) :
    MI w (w9.setCell ⟨mu.b,6,none⟩ (.slice (some ⟨g9,0,none⟩) (du.kids.length + 1) cap9)) ((ms ++ [(⟨wr.heap.size,av,bv,.slice none 0 0⟩:NP)]).set u { mu with kv:=.slice (some ⟨g9,0,none⟩) (du.kids.length + 1) cap9 }) (kidS (ns ++ [d]) u ns.length) ov op b0 (k + 1):=by
  obtain ⟨k1,k2⟩:=h.ar.newKid hmu hdu d hd0 ha hb hfa h.below.size hown9 hg9 hat9
  have hud:=(List.getElem?_eq_some_iff.1 hdu).1
  refine ⟨k1,up_kid h.up hud hd0,h.op0,fun v hv=>?_,h.below.trans k2,set_b hmu _ _ h.m0,?_,fun x hx=>?_,h.ol,cn_kid h.cn h.up hud hd0⟩
  ·rw [kidS_len,List.length_append]
   have:=h.oplt v hv
   omega
  ·rw [kidS_len,List.length_append,List.length_singleton]
   have:=h.nl
   omega
  ·obtain ⟨d1,h1,h2⟩:=kidS_mem hx
   rcases List.mem_append.1 h1 with h1 | h1
   ·have:=h.kl d1 h1
    omega
   ·simp at h1
    subst h1
    rw [hd0] at h2
    simp at h2
    omega
theorem ar_one {wr:World} {B b g:Nat} {d:ND} (hb:wr.heap[b]? = some (.cells (ndCells ⟨b,.slice none 0 0,.slice none 0 0,.slice none 0 0⟩ d) 55 (0,0))) (hg:wr.heap[g]? = some (oneO b)) (h1:d.attrs = []) (h2:d.binds = []) (h3:d.kids = []) (hB:B ≤ b) (hB2:B ≤ g) (hbg:b ≠ g) :
    Ar wr B [⟨b,.slice none 0 0,.slice none 0 0,.slice none 0 0⟩] [d] (.slice (some ⟨g,0,none⟩) 1 1) [0]:=by
  have noown:∀ k,(Value.slice none 0 0).ownBlock ≠ some k:=fun k e=>by simp [Value.ownBlock] at e
  have one:∀ {i:Nat} {m:NP},([⟨b,.slice none 0 0,.slice none 0 0,.slice none 0 0⟩]:List NP)[i]? = some m → i = 0 ∧ m = ⟨b,.slice none 0 0,.slice none 0 0,.slice none 0 0⟩:=by
   intro i m h
   cases i with
   | zero=>simp at h;exact ⟨rfl,h.symm⟩
   | succ i=>simp at h
  refine ⟨rfl,?_,?_,?_,?_,?_,?_,?_⟩
  ·intro i m x hm hd
   obtain ⟨rfl,rfl⟩:=one hm
   simp at hd
   subst hd
   exact ⟨hb,by rw [h1];exact Go.Proofs.YtbaokjfhigjpdaaGreatDoorX.RowAt.nil _ _ _,by rw [h2];exact Go.Proofs.YtbaokjfhigjpdaaGreatDoorX.RowAt.nil _ _ _,by rw [h3];exact World.ownsRow_nil _ _ _ _,fun i hi=>(by rw [h3] at hi;cases hi),fun k e=>absurd e (noown k)⟩
  ·intro i j m m' hm hm' _
   have:=(one hm).1
   have:=(one hm').1
   omega
  ·intro i j m m' k hm hm' _ _
   have:=(one hm).1
   have:=(one hm').1
   omega
  · exact ⟨rfl,.inr ⟨g,1,_,rfl,Nat.zero_le _,hg,Nat.le_refl _,by unfold maxLen;omega,rfl,rfl⟩⟩
  ·intro i hi
   simp at hi
   simp [hi]
  ·intro i m k hm e
   rw [(one hm).2] at e
   exact absurd e (noown k)
  ·rintro k (⟨m,hm,hk⟩ | hk)
   ·simp only [List.mem_singleton] at hm
    subst hm
    rcases hk with e | e | e | e
    ·simp only at e
     omega
    all_goals exact absurd e (noown k)
   ·simp [Value.ownBlock] at hk
    omega
theorem mi0 (w:World) (rs rl:ByteArray):MI w (((w.alloc (.cells #[.string rs,.string rl] 23)).alloc (nodeO (.slice none 0 0) (.slice none 0 0) ⟨rs,rl,0,0,[],[],[],⟨#[]⟩⟩)).alloc (oneO (w.heap.size + 1))) [⟨w.heap.size + 1,.slice none 0 0,.slice none 0 0,.slice none 0 0⟩] [⟨rs,rl,0,0,[],[],[],⟨#[]⟩⟩] (.slice (some ⟨w.heap.size + 1 + 1,0,none⟩) 1 1) [0] (w.heap.size + 1) 0:=by
 have hb:Below w.heap.size w (((w.alloc (.cells #[.string rs,.string rl] 23)).alloc (nodeO (.slice none 0 0) (.slice none 0 0) ⟨rs,rl,0,0,[],[],[],⟨#[]⟩⟩)).alloc (oneO (w.heap.size + 1))):=(((Below.refl w.heap.size w).alloc (Nat.le_refl _) _).alloc (by simp) _).alloc (by simp;omega) _
 have g1:=two_new w (.cells #[.string rs,.string rl] 23) (nodeO (.slice none 0 0) (.slice none 0 0) ⟨rs,rl,0,0,[],[],[],⟨#[]⟩⟩)
 have g2:=two_new (w.alloc (.cells #[.string rs,.string rl] 23)) (nodeO (.slice none 0 0) (.slice none 0 0) ⟨rs,rl,0,0,[],[],[],⟨#[]⟩⟩) (oneO (w.heap.size + 1))
 rw [World.size_alloc] at g2
 have g3:=(Below.heap_alloc ((w.alloc (.cells #[.string rs,.string rl] 23)).alloc (nodeO (.slice none 0 0) (.slice none 0 0) ⟨rs,rl,0,0,[],[],[],⟨#[]⟩⟩)) (oneO (w.heap.size + 1)) (w.heap.size + 1) (by simp)).trans g1
 refine ⟨ar_one g3 g2 rfl rfl rfl (by omega) (by omega) (by omega),?_,by simp,?_,hb,rfl,by simp,?_,by simp,cn_one rfl⟩
 ·intro i d hd j hj
  cases i with
  | zero=>simp at hd;subst hd;cases hj
  | succ i=>simp at hd
 ·intro u hu
  simp at hu
  simp [hu]
 ·intro d hd
  simp at hd
  simp [hd]
theorem MI.last {w wr:World} {ms:List NP} {ns:List ND} {ov:Value} {op:List Nat} {b0 k n u:Nat} (h:MI w wr ms ns ov op b0 k) (hl:op.length = n + 1) (hu:op[n]? = some u):∃ g c,ov = .slice (some ⟨g,0,none⟩) (n + 1) c ∧ n + 1 ≤ c ∧ c ≤ maxLen ∧ wr.cell? ⟨g,n,none⟩ = some (ptrOf ms u):=by
 have hr:=h.ar.opn
 rcases hr.2 with ⟨e,h0⟩ | ⟨g,cap,cur,e,_,_,r1,r2,_⟩
 · omega
 ·refine ⟨g,cap,by rw [e,hl],by omega,r2,?_⟩
  have:=hr.cells (g:=g) (by rw [e];rfl) n (ptrOf ms u) (by unfold ptrs;rw [List.getElem?_map,hu];rfl)
  have ha:(⟨g,0,none⟩:Addr).add n = ⟨g,n,none⟩:=by unfold Addr.add;split <;> simp_all
  rw [ha] at this
  exact this
theorem MI.pop {w wr:World} {ms:List NP} {ns:List ND} {A:Option Addr} {op:List Nat} {b0 k n c:Nat} (h:MI w wr ms ns (.slice A (n + 1) c) op b0 k) (hl:op.length = n + 1) (h2:0 < n):MI w wr ms ns (.slice A n c) op.dropLast b0 k :=
  ⟨h.ar.pop hl,h.up,fun e=>by have:=congrArg List.length e;simp [hl] at this;omega,fun u hu=>h.oplt u (List.dropLast_subset _ hu),h.below,h.m0,h.nl,h.kl,by rw [List.length_dropLast];have:=h.ol;omega,h.cn⟩
theorem Ar.look {wr:World} {B:Nat} {ms:List NP} {ns:List ND} {ov:Value} {op:List Nat} (h:Ar wr B ms ns ov op) {u:Nat} (hu:u < ns.length):∃ m d A c,ms[u]? = some m ∧ ns[u]? = some d ∧ NodeAt wr ms m d ∧ m.kv = .slice A d.kids.length c ∧ wr.cell? ⟨m.b,6,none⟩ = some (.slice A d.kids.length c) ∧ wr.frozen? ⟨m.b,6,none⟩ = false:=by
 have hm:u < ms.length:=by rw [h.len];exact hu
 have hn:=h.node u _ _ (List.getElem?_eq_getElem hm) (List.getElem?_eq_getElem hu)
 have hs:∃ A c,(ms[u]).kv = .slice A (ns[u]).kids.length c:=row_lit hn.kids
 obtain ⟨A,c,e⟩:=hs
 exact ⟨_,_,A,c,List.getElem?_eq_getElem hm,List.getElem?_eq_getElem hu,hn,e,(Go.Proofs.YtbaokjfhigjpdaaGreatDoorX.blk_cell hn.blk 6).trans (congrArg some e),Go.Proofs.YtbaokjfhigjpdaaGreatDoorX.blk_frz hn.blk 6⟩
theorem MI.grow {w wr w':World} {ms:List NP} {ns:List ND} {ov:Value} {op:List Nat} {b0 k:Nat} (h:MI w wr ms ns ov op b0 k) (hb:Below wr.heap.size wr w'):MI w w' ms ns ov op b0 k :=
  ⟨h.ar.off fun j hj=>hb.block j (h.ar.below j hj),h.up,h.op0,h.oplt,h.below.trans (hb.mono h.below.size),h.m0,h.nl,h.kl,h.ol,h.cn⟩
theorem MI.push {w wr:World} {ms:List NP} {ns:List ND} {ov:Value} {op:List Nat} {b0 k:Nat} (h:MI w wr ms ns ov op b0 k) {j:Nat} {mj:NP} (hj:ms[j]? = some mj) (hjn:j < ns.length) (hl:op.length < 15) {w9:World} {o:Obj} {v':Value}
    (hown:w9.ownsRow 0 27 1 v' (op.length + 1) (ptrs ms op ++ [.pointer (some ⟨mj.b,0,none⟩)])) (hg:(wr.alloc o).grownBy w9 ov.ownBlock) (hat:v'.ownBlock = ov.ownBlock ∨ v'.ownBlock = some (wr.alloc o).heap.size) :
    MI w w9 ms ns v' (op ++ [j]) b0 k:=by
  obtain ⟨k1,k2,k3,k4⟩:=h.ar.push hj hown hg hat h.below.size
  have hs:=h.below.size
  refine ⟨k1,h.up,by simp,fun u hu=>?_,h.below.trans ⟨hg.os,hg.tape,hg.output,k3,fun i hi=>k2 i (by omega) (fun e=>?_)⟩,h.m0,h.nl,h.kl,by simp;omega,h.cn⟩
  ·rcases List.mem_append.1 hu with hu | hu
   · exact h.oplt u hu
   ·simp at hu
    omega
  ·have:=h.ar.base i (.inr e)
   omega
def MadeR (w:World) (e:Ending) (W:World):Prop:=∃ ms ns,e = .returned (ptrOf ms 0) ∧ Fo W W.heap.size ms ns ∧ 0 < ns.length ∧ ns.length ≤ 61 ∧ (∀ d ∈ ns,d.kids.length ≤ 60) ∧ (preF ns ns.length 0 1).length ≤ 61 ∧ Below w.heap.size w W
def lenOf_ (v:Value):Nat:=match v with
 | .slice _ n _=>n
 | _=>0
set_option maxRecDepth 100000 in
set_option maxHeartbeats 4000000 in
theorem made_c (rs rl:ByteArray) (pa:Option Addr) (pc:Nat) (l:List PC) (w:World) (hl:PcAt w pa l) (hf:∀ x ∈ l.take 60,x.attrs.length ≤ 10) (hbl:l.length ≤ 140737488355328) :
    Calls Tryz.prog 9 #[.agg #[.string rs,.string rl],.slice pa l.length pc] w (MadeR w):=by
  go_enter Tryz.func9,Tryz.ntmps9
  have h0:=mi0 w rs rl
  have mv:∀ W,Below w.heap.size w W → ∀ {p:Addr} {v:Value},w.cell? p = some v → W.cell? p = some v:=fun W hW {p v} hc=>(World.cell?_of_block (hW.block _ (lt_of_cell hc))).trans hc
  go_wp2
  generalize (((w.alloc (.cells #[.string rs,.string rl] 23)).alloc (nodeO (.slice none 0 0) (.slice none 0 0) ⟨rs,rl,0,0,[],[],[],⟨#[]⟩⟩)).alloc (oneO (w.heap.size + 1))) = w0 at *
  go_loopw [6,7] (fun ov iv wr=>∃ (k:Nat) (ms:List NP) (ns:List ND) (op:List Nat),k ≤ l.length ∧ k ≤ 60 ∧ iv = .int .i64 k ∧ MI w wr ms ns ov op (w.heap.size + 1) k) (fun _ iv _=>61 - (intOf iv).toNat)
  case atStart=>exact ⟨0,_,_,_,Nat.zero_le _,Nat.zero_le _,rfl,h0⟩
  case round=>
   rename World=>wr
   obtain ⟨k,ms,ns,op,hk1,hk2,rfl,hM⟩:=hrel
   clear h0
   obtain ⟨oa,oc,eov⟩:=row_lit hM.ar.opn
   subst eov
   by_cases hlt:k < l.length ∧ k < 60
   ·obtain ⟨hlt1,hlt2⟩:=hlt
    obtain ⟨q,av,rfl,c0,c1,c2,c3,c4,hn⟩:=hl k hlt1
    obtain ⟨A,ca,rfl,hat⟩:=hn
    have hx10:l[k].attrs.length ≤ 10:=hf _ (List.mem_take_iff_getElem.2 ⟨k,by omega,rfl⟩)
    generalize l[k] = x at *
    have m0:=mv wr hM.below c0
    have hw60:(k:Int) < 60:=by omega
    go_wp2
    go_loopw [6,8] (fun ov jv w2=>∃ (j:Nat) (op2:List Nat),w2 = wr ∧ jv = .int .i64 j ∧ MI w wr ms ns ov op2 (w.heap.size + 1) k ∧ j + op2.length ≤ 16) (fun ov _ _=>lenOf_ ov)
    case atStart=>exact ⟨0,op,rfl,rfl,hM,by have:=hM.ol;omega⟩
    case round=>
     rename World=>w2
     obtain ⟨j,op2,ew2,rfl,hM2,hj⟩:=hrel
     subst w2
     clear hM
     obtain ⟨n,hn1⟩:∃ n,op2.length = n + 1:=⟨op2.length - 1,by have:=List.length_pos_iff.2 hM2.op0;omega⟩
     obtain ⟨u,hu⟩:∃ u,op2[n]? = some u:=⟨_,List.getElem?_eq_getElem (by omega)⟩
     obtain ⟨go,co,eov,hco,hmx,yo⟩:=hM2.last hn1 hu
     subst eov
     have hul:=hM2.oplt u (List.mem_of_getElem? hu)
     have en1:((((n:Int) + 1) - 1).toNat) = n:=by omega
     have en2:((n + 1:Nat):Int) = (n:Int) + 1:=by omega
     have hmx':(co:Int) ≤ 9223372036854775807:=by unfold maxLen at hmx;omega
     by_cases hgo:(j:Int) < x.up ∧ 0 < n
     ·obtain ⟨hg1,hg2⟩:=hgo
      have hg3:(1:Int) < (n:Int) + 1:=by omega
      go_wp2
      refine ⟨⟨j + 1,op2.dropLast,trivial,by simp,hM2.pop hn1 hg2,by rw [List.length_dropLast];omega⟩,?_⟩
      simp [lenOf_]
     ·have hrest:((j:Int) < x.up → ¬ (1:Int) < (n:Int) + 1):=fun h1 h2=>hgo ⟨h1,by omega⟩
      obtain ⟨mu,du,Au,cu,hmu,hdu,hnu,hkv,y6,f6⟩:=hM2.ar.look hul
      have hpu:ptrOf ms u = .pointer (some ⟨mu.b,0,none⟩):=by unfold ptrOf;rw [hmu];rfl
      rw [hpu] at yo
      have hdk:=hM2.kl du (List.mem_of_getElem? hdu)
      have hdk8:du.kids.length ≤ 100000000:=by omega
      have hmub:mu.b < wr.heap.size:=Go.Proofs.YtbaokjfhigjpdaaGreatDoorX.lt_of_cell y6
      have hkids:wr.ownsRow 0 27 1 (.slice Au du.kids.length cu) du.kids.length (ptrs ms du.kids):=hkv ▸ hnu.kids
      have hkmu:(Value.slice Au du.kids.length cu).ownBlock ≠ some mu.b:=by rw [← hkv];exact (hnu.apart hnu).2.2.1
      have m1:=mv wr hM2.below c1
      have m2:=mv wr hM2.below c2
      have m3:=mv wr hM2.below c3
      have m4:=mv wr hM2.below c4
      have hbt:Below wr.heap.size wr (((wr.alloc (nodeO (.slice none 0 0) (.slice none 0 0) ⟨⟨#[]⟩,⟨#[]⟩,0,0,[],[],[],x.text⟩)).alloc (oneO wr.heap.size)).drew):=(((Below.refl _ wr).alloc (Nat.le_refl _) _).alloc (by simp) _).drew
      by_cases ht:x.text.toList.isEmpty = true
      ·have hnat:NAttrs wr (.slice A x.attrs.length ca) x.attrs:=NAttrs.below (w:=w) ⟨A,ca,rfl,hat⟩ hM2.below
       by_cases hju:(j:Int) < x.up
       ·have hn0:=hrest hju
        clear hrest
        have hlm2:(q.add (k * 5)).block < wr.heap.size:=lt_of_cell m0
        have hat_:∀ W,Below wr.heap.size wr W → ∀ r,W.cell? ⟨(q.add (k * 5)).block,(q.add (k * 5)).off + r,none⟩ = wr.cell? ⟨(q.add (k * 5)).block,(q.add (k * 5)).off + r,none⟩:=fun W hW r=>World.cell?_of_block (hW.block _ hlm2)
        have hbt0:Below wr.heap.size wr ((wr.alloc (.cells #[] 70)).drew):=((Below.refl _ wr).alloc (Nat.le_refl _) _).drew
        have hg00:((wr.alloc (.cells #[] 70)).drew).heap[wr.heap.size]? = some (.cells #[] 70 (0,0)):=heap_alloc_new wr _
        have hstp:∀ {ops:Array Oper} {o:Oper} {a:Act} {K:Act → World → Prop} {Q:Exit → Act → World → Prop} {E:Prop},o.guard = none → o.op = .call { callee:=.builtin .append,args:=#[.tmp 78,.tmp 83],argTypes:=#[52,52] } → a.eval (.tmp 78) = .slice (some ⟨wr.heap.size,0,none⟩) 0 0 → a.eval (.tmp 83) = .slice A x.attrs.length ca → (∀ A' c' w',w'.ownsRow wr.heap.size 70 4 (.slice A' x.attrs.length c') x.attrs.length (flatN x.attrs) → Below wr.heap.size wr w' → K (a.put o.dst (.slice A' x.attrs.length c')) w') → if Region.wanted o (yielded ops a.tmps) = true then Oper.wp Tryz.prog o a ((wr.alloc (.cells #[] 70)).drew) K Q else E :=
          fun h1 h2 h3 h4 h5=>step_attrs h1 _ _ h2 wr hbt0 wr.heap.size hg00 (Nat.le_refl _) h3 h4 (hnat.below hbt0) hx10 h5
        go_wp2
        go_region_held_law (fun W=>W.cell? ⟨(q.add (k * 5)).block,(q.add (k * 5)).off + 2,none⟩ = some (.string x.nm.1) ∧ W.cell? ⟨(q.add (k * 5)).block,(q.add (k * 5)).off + 3,none⟩ = some (.string x.nm.2) ∧ W.cell? ⟨(q.add (k * 5)).block,(q.add (k * 5)).off + 4,none⟩ = some (.slice A x.attrs.length ca))
          (first
            | exact ⟨m2,m3,m4⟩
            | exact ⟨n2,n3,n4⟩
            | go_keep)
          (first
            | (
             refine hstp (by rfl) (by rfl) (by rfl) (by rfl) ?_
             intro A5 c5 wB hownB hbB
             have n2:=(hat_ wB hbB 2).trans m2
             have n3:=(hat_ wB hbB 3).trans m3
             have n4:=(hat_ wB hbB 4).trans m4))
        have hMB:=hM2.grow hbB
        have hnuB:=hMB.ar.node u mu du hmu hdu
        have y6B:wB.cell? ⟨mu.b,6,none⟩ = some (.slice Au du.kids.length cu):=(Go.Proofs.YtbaokjfhigjpdaaGreatDoorX.blk_cell hnuB.blk 6).trans (congrArg some hkv)
        have f6B:wB.frozen? ⟨mu.b,6,none⟩ = false:=Go.Proofs.YtbaokjfhigjpdaaGreatDoorX.blk_frz hnuB.blk 6
        have hkidsB:wB.ownsRow 0 27 1 (.slice Au du.kids.length cu) du.kids.length (ptrs ms du.kids):=hkv ▸ hnuB.kids
        have hmB:mu.b < wB.heap.size:=Go.Proofs.YtbaokjfhigjpdaaGreatDoorX.lt_of_cell y6B
        have hbt2:Below wB.heap.size wB ((wB.alloc (nodeO (.slice A5 x.attrs.length c5) (.slice none 0 0) ⟨x.nm.1,x.nm.2,0,0,x.attrs,[],[],⟨#[]⟩⟩)).alloc (oneO wB.heap.size)):=((Below.refl _ wB).alloc (Nat.le_refl _) _).alloc (by simp) _
        have hus:u < ms.length:=(List.getElem?_eq_some_iff.1 hmu).1
        have hlenm:=hM2.ar.len
        have hswr:=hM2.below.size
        have hfa:∀ k,((Value.slice A5 x.attrs.length c5).ownBlock = some k ∨ (Value.slice none 0 0).ownBlock = some k) → ¬ TX ms (.slice (some ⟨go,0,none⟩) (n + 1) co) k ∧ w.heap.size ≤ k:=by
         rintro k (hk | hk)
         ·have h1:=(hownB.lt k hk).1
          exact ⟨fun h=>by have:=hM2.ar.below k h;omega,by omega⟩
         · simp [Value.ownBlock] at hk
        by_cases h15:n + 1 < 15
        all_goals first
         | (exfalso;omega)
         | skip
        all_goals
         have t1:=True.intro
         go_wp2_with (first
           | (
            have _t:=t1
            at_builtin
            go_loud (
             clear _t t1
             refine list_kids (by rfl) _ _ (by rfl) wB hbt2 _ _ _ (by rfl) hkidsB (wB.heap.size + 1) (.pointer (some ⟨wB.heap.size,0,none⟩)) (by rfl) (two_new wB _ _) (by rfl) hdk8 ?_
             intro g9 cap9 w9 hown9 hg9 hat9 hk9
             have y6':=(World.cell?_of_block (hk9 mu.b hmB hkmu)).trans y6B
             have f6':=(World.frozen?_of_block (hk9 mu.b hmB hkmu)).trans f6B
             have hM7:=hMB.kid hmu hdu ⟨x.nm.1,x.nm.2,0,0,x.attrs,[],[],⟨#[]⟩⟩ rfl (Go.Proofs.YtbaokjfhigjpdaaGreatDoorX.RowAt.of_own hownB) (Go.Proofs.YtbaokjfhigjpdaaGreatDoorX.RowAt.nil _ _ _) hfa hown9 (by rw [hkv];exact hg9) (by rw [hkv];simpa using hat9)
             have hopn7:=hM7.ar.opn
             rw [hn1] at hopn7
             have hbt3:=(Below.refl _ (w9.setCell ⟨mu.b,6,none⟩ (.slice (some ⟨g9,0,none⟩) (du.kids.length + 1) cap9))).alloc (Nat.le_refl _) (oneO wB.heap.size)
             have hs10:(w9.setCell ⟨mu.b,6,none⟩ (.slice (some ⟨g9,0,none⟩) (du.kids.length + 1) cap9)).heap.size = w9.heap.size:=by simp [World.setCell]
             have t2:=True.intro))
           | (
            have _t:=t2
            at_builtin
            go_loud (
             clear _t t2
             refine list_kids (by rfl) _ _ (by rfl) _ hbt3 _ _ _ (by rfl) hopn7 w9.heap.size (.pointer (some ⟨wB.heap.size,0,none⟩)) (by rfl) (one_new hs10 _) (by rfl) (by omega) ?_
             intro g11 cap11 w7 hown11 hg11 hat11 hk11
             have hM9:=hM7.push (kid_get hus ⟨wB.heap.size,.slice A5 x.attrs.length c5,.slice none 0 0,.slice none 0 0⟩ _ (show ns.length = _ by rw [hlenm])) (by rw [kidS_len,List.length_append];simp) (by omega) (by rw [hn1];exact hown11) hg11 (hat11.elim (fun e=>.inl (by rw [e];rfl)) (fun e=>.inr (by rw [← e];rfl))))))
         first
          | exact ⟨⟨k + 1,_,_,_,by omega,by omega,by simp,hM9⟩,by simp [intOf];omega⟩
          | exact ⟨⟨k + 1,_,_,_,by omega,by omega,by simp,hM7⟩,by simp [intOf];omega⟩
       ·clear hrest
        have hlm2:(q.add (k * 5)).block < wr.heap.size:=lt_of_cell m0
        have hat_:∀ W,Below wr.heap.size wr W → ∀ r,W.cell? ⟨(q.add (k * 5)).block,(q.add (k * 5)).off + r,none⟩ = wr.cell? ⟨(q.add (k * 5)).block,(q.add (k * 5)).off + r,none⟩:=fun W hW r=>World.cell?_of_block (hW.block _ hlm2)
        have hbt0:Below wr.heap.size wr ((wr.alloc (.cells #[] 70)).drew):=((Below.refl _ wr).alloc (Nat.le_refl _) _).drew
        have hg00:((wr.alloc (.cells #[] 70)).drew).heap[wr.heap.size]? = some (.cells #[] 70 (0,0)):=heap_alloc_new wr _
        have hstp:∀ {ops:Array Oper} {o:Oper} {a:Act} {K:Act → World → Prop} {Q:Exit → Act → World → Prop} {E:Prop},o.guard = none → o.op = .call { callee:=.builtin .append,args:=#[.tmp 78,.tmp 83],argTypes:=#[52,52] } → a.eval (.tmp 78) = .slice (some ⟨wr.heap.size,0,none⟩) 0 0 → a.eval (.tmp 83) = .slice A x.attrs.length ca → (∀ A' c' w',w'.ownsRow wr.heap.size 70 4 (.slice A' x.attrs.length c') x.attrs.length (flatN x.attrs) → Below wr.heap.size wr w' → K (a.put o.dst (.slice A' x.attrs.length c')) w') → if Region.wanted o (yielded ops a.tmps) = true then Oper.wp Tryz.prog o a ((wr.alloc (.cells #[] 70)).drew) K Q else E :=
          fun h1 h2 h3 h4 h5=>step_attrs h1 _ _ h2 wr hbt0 wr.heap.size hg00 (Nat.le_refl _) h3 h4 (hnat.below hbt0) hx10 h5
        go_wp2
        go_region_held_law (fun W=>W.cell? ⟨(q.add (k * 5)).block,(q.add (k * 5)).off + 2,none⟩ = some (.string x.nm.1) ∧ W.cell? ⟨(q.add (k * 5)).block,(q.add (k * 5)).off + 3,none⟩ = some (.string x.nm.2) ∧ W.cell? ⟨(q.add (k * 5)).block,(q.add (k * 5)).off + 4,none⟩ = some (.slice A x.attrs.length ca))
          (first
            | exact ⟨m2,m3,m4⟩
            | exact ⟨n2,n3,n4⟩
            | go_keep)
          (first
            | (
             refine hstp (by rfl) (by rfl) (by rfl) (by rfl) ?_
             intro A5 c5 wB hownB hbB
             have n2:=(hat_ wB hbB 2).trans m2
             have n3:=(hat_ wB hbB 3).trans m3
             have n4:=(hat_ wB hbB 4).trans m4))
        have hMB:=hM2.grow hbB
        have hnuB:=hMB.ar.node u mu du hmu hdu
        have y6B:wB.cell? ⟨mu.b,6,none⟩ = some (.slice Au du.kids.length cu):=(Go.Proofs.YtbaokjfhigjpdaaGreatDoorX.blk_cell hnuB.blk 6).trans (congrArg some hkv)
        have f6B:wB.frozen? ⟨mu.b,6,none⟩ = false:=Go.Proofs.YtbaokjfhigjpdaaGreatDoorX.blk_frz hnuB.blk 6
        have hkidsB:wB.ownsRow 0 27 1 (.slice Au du.kids.length cu) du.kids.length (ptrs ms du.kids):=hkv ▸ hnuB.kids
        have hmB:mu.b < wB.heap.size:=Go.Proofs.YtbaokjfhigjpdaaGreatDoorX.lt_of_cell y6B
        have hbt2:Below wB.heap.size wB ((wB.alloc (nodeO (.slice A5 x.attrs.length c5) (.slice none 0 0) ⟨x.nm.1,x.nm.2,0,0,x.attrs,[],[],⟨#[]⟩⟩)).alloc (oneO wB.heap.size)):=((Below.refl _ wB).alloc (Nat.le_refl _) _).alloc (by simp) _
        have hus:u < ms.length:=(List.getElem?_eq_some_iff.1 hmu).1
        have hlenm:=hM2.ar.len
        have hswr:=hM2.below.size
        have hfa:∀ k,((Value.slice A5 x.attrs.length c5).ownBlock = some k ∨ (Value.slice none 0 0).ownBlock = some k) → ¬ TX ms (.slice (some ⟨go,0,none⟩) (n + 1) co) k ∧ w.heap.size ≤ k:=by
         rintro k (hk | hk)
         ·have h1:=(hownB.lt k hk).1
          exact ⟨fun h=>by have:=hM2.ar.below k h;omega,by omega⟩
         · simp [Value.ownBlock] at hk
        by_cases h15:n + 1 < 15
        all_goals first
         | (exfalso;omega)
         | skip
        all_goals
         have t1:=True.intro
         go_wp2_with (first
           | (
            have _t:=t1
            at_builtin
            go_loud (
             clear _t t1
             refine list_kids (by rfl) _ _ (by rfl) wB hbt2 _ _ _ (by rfl) hkidsB (wB.heap.size + 1) (.pointer (some ⟨wB.heap.size,0,none⟩)) (by rfl) (two_new wB _ _) (by rfl) hdk8 ?_
             intro g9 cap9 w9 hown9 hg9 hat9 hk9
             have y6':=(World.cell?_of_block (hk9 mu.b hmB hkmu)).trans y6B
             have f6':=(World.frozen?_of_block (hk9 mu.b hmB hkmu)).trans f6B
             have hM7:=hMB.kid hmu hdu ⟨x.nm.1,x.nm.2,0,0,x.attrs,[],[],⟨#[]⟩⟩ rfl (Go.Proofs.YtbaokjfhigjpdaaGreatDoorX.RowAt.of_own hownB) (Go.Proofs.YtbaokjfhigjpdaaGreatDoorX.RowAt.nil _ _ _) hfa hown9 (by rw [hkv];exact hg9) (by rw [hkv];simpa using hat9)
             have hopn7:=hM7.ar.opn
             rw [hn1] at hopn7
             have hbt3:=(Below.refl _ (w9.setCell ⟨mu.b,6,none⟩ (.slice (some ⟨g9,0,none⟩) (du.kids.length + 1) cap9))).alloc (Nat.le_refl _) (oneO wB.heap.size)
             have hs10:(w9.setCell ⟨mu.b,6,none⟩ (.slice (some ⟨g9,0,none⟩) (du.kids.length + 1) cap9)).heap.size = w9.heap.size:=by simp [World.setCell]
             have t2:=True.intro))
           | (
            have _t:=t2
            at_builtin
            go_loud (
             clear _t t2
             refine list_kids (by rfl) _ _ (by rfl) _ hbt3 _ _ _ (by rfl) hopn7 w9.heap.size (.pointer (some ⟨wB.heap.size,0,none⟩)) (by rfl) (one_new hs10 _) (by rfl) (by omega) ?_
             intro g11 cap11 w7 hown11 hg11 hat11 hk11
             have hM9:=hM7.push (kid_get hus ⟨wB.heap.size,.slice A5 x.attrs.length c5,.slice none 0 0,.slice none 0 0⟩ _ (show ns.length = _ by rw [hlenm])) (by rw [kidS_len,List.length_append];simp) (by omega) (by rw [hn1];exact hown11) hg11 (hat11.elim (fun e=>.inl (by rw [e];rfl)) (fun e=>.inr (by rw [← e];rfl))))))
         first
          | exact ⟨⟨k + 1,_,_,_,by omega,by omega,by simp,hM9⟩,by simp [intOf];omega⟩
          | exact ⟨⟨k + 1,_,_,_,by omega,by omega,by simp,hM7⟩,by simp [intOf];omega⟩
      ·have htf:x.text.toList.isEmpty = false:=by simpa using ht
       by_cases hju:(j:Int) < x.up
       ·have hn0:=hrest hju
        clear hrest
        go_wp2
        go_region_law (
          (refine step_kids (by rfl) _ _ (by rfl) wr hbt _ _ _ (by rfl) hkids (wr.heap.size + 1) (.pointer (some ⟨wr.heap.size,0,none⟩)) (by rfl) (two_new wr _ _) (by rfl) hdk8 ?_
           intro g9 cap9 w9 hown9 hg9 hat9 hk9
           have bmu:=hk9 mu.b hmub hkmu
           have y6':=(World.cell?_of_block bmu).trans y6
           have f6':=(World.frozen?_of_block bmu).trans f6))
        all_goals
         rw [← hkv] at hg9 hat9
         have hM7:=hM2.kid hmu hdu ⟨⟨#[]⟩,⟨#[]⟩,0,0,[],[],[],x.text⟩ rfl (Go.Proofs.YtbaokjfhigjpdaaGreatDoorX.RowAt.nil _ _ _) (Go.Proofs.YtbaokjfhigjpdaaGreatDoorX.RowAt.nil _ _ _) (fun k e=>by rcases e with e | e <;> simp [Value.ownBlock] at e) hown9 ⟨hg9.os,hg9.tape,hg9.output,hg9.size,hg9.block⟩ (by simpa using hat9)
         generalize w9.setCell ⟨mu.b,6,none⟩ (.slice (some ⟨g9,0,none⟩) (du.kids.length + 1) cap9) = w7 at *
         go_wp2
         exact ⟨⟨k + 1,_,_,_,by omega,by omega,by simp,hM7⟩,by simp [intOf];omega⟩
       ·clear hrest
        go_wp2
        go_region_law (
          (refine step_kids (by rfl) _ _ (by rfl) wr hbt _ _ _ (by rfl) hkids (wr.heap.size + 1) (.pointer (some ⟨wr.heap.size,0,none⟩)) (by rfl) (two_new wr _ _) (by rfl) hdk8 ?_
           intro g9 cap9 w9 hown9 hg9 hat9 hk9
           have bmu:=hk9 mu.b hmub hkmu
           have y6':=(World.cell?_of_block bmu).trans y6
           have f6':=(World.frozen?_of_block bmu).trans f6))
        all_goals
         rw [← hkv] at hg9 hat9
         have hM7:=hM2.kid hmu hdu ⟨⟨#[]⟩,⟨#[]⟩,0,0,[],[],[],x.text⟩ rfl (Go.Proofs.YtbaokjfhigjpdaaGreatDoorX.RowAt.nil _ _ _) (Go.Proofs.YtbaokjfhigjpdaaGreatDoorX.RowAt.nil _ _ _) (fun k e=>by rcases e with e | e <;> simp [Value.ownBlock] at e) hown9 ⟨hg9.os,hg9.tape,hg9.output,hg9.size,hg9.block⟩ (by simpa using hat9)
         generalize w9.setCell ⟨mu.b,6,none⟩ (.slice (some ⟨g9,0,none⟩) (du.kids.length + 1) cap9) = w7 at *
         go_wp2
         exact ⟨⟨k + 1,_,_,_,by omega,by omega,by simp,hM7⟩,by simp [intOf];omega⟩
   · have hfin:MadeR w (.returned (ptrOf ms 0)) wr:=by
       have hp:0 < ns.length:=by
        have hm:=hM.m0
        rw [← hM.ar.len]
        cases ms with
        | nil=>cases hm
        | cons a r=>simp
       exact ⟨ms,ns,rfl,hM.ar.fo hM.up,hp,by have:=hM.nl;omega,fun d hd=>by have:=hM.kl d hd;omega,by have:=hM.nl;have:=hM.cn.2;omega,hM.below⟩
     have hp0:ptrOf ms 0 = .pointer (some ⟨w.heap.size + 1,0,none⟩):=by
      have hm:=hM.m0
      unfold ptrOf
      cases h0:ms[0]? with
      | none=>rw [h0] at hm;cases hm
      | some m=>
       rw [h0] at hm
       simp at hm
       simp [hm]
     rw [hp0] at hfin
     by_cases hkl:k < l.length
     ·obtain rfl:k = 60:=by omega
      go_wp2
      go_ret
      exact hfin
     ·obtain rfl:k = l.length:=by omega
      go_wp2
      go_ret
      exact hfin
end Go.Proofs.YtbaokjfhigjpdaaGreatDoorT
end
section
set_option linter.unusedVariables false
namespace Go.Proofs.YtbaokjfhigjpdaaGreatDoorT
open Go.RowKit Go.Shelf
open Go.Proofs.YtbaokjfhigjpdaaGreatDoorX (EnvW)
set_option maxRecDepth 100000 in
set_option maxHeartbeats 4000000 in
theorem treeWalks_c (rs rl:ByteArray) (pa:Option Addr) (pc:Nat) (l:List PC) (stop:Int) {w:World} (hE:EnvW w) (hl:PcAt w pa l) (hb:PcBig l) (hbl:l.length ≤ 140737488355328) (h1:rs.size ≤ 140737488355328) (h2:rl.size ≤ 140737488355328) :
    Calls Tryz.prog 3 #[.agg #[.string rs,.string rl],.slice pa l.length pc,.int .i64 stop] w fun e W=>e = .returned (.bool true) ∧ Below w.heap.size w W:=by
  have hb1:=(Below.refl w.heap.size w).alloc (Nat.le_refl _) (.cells #[.string rs,.string rl] 23)
  have hbx:=heap_alloc_new w (.cells #[.string rs,.string rl] 23)
  have hs1:(w.alloc (.cells #[.string rs,.string rl] 23)).heap.size = w.heap.size + 1:=by simp
  have hkn:=known_c (envW_below hE hb1)
  have hfew:=fun W (hW:Below w.heap.size w W)=>few_c rs rl pa pc l W (hl.below hW) hb hbl h1 h2
  have hmade:=fun W (hW:Below w.heap.size w W) hf=>made_c rs rl pa pc l W (hl.below hW) hf hbl
  go_enter Tryz.func3,Tryz.ntmps3
  have t1:=True.intro
  go_wp2_with (first
    | (
     have _t:=t1
     go_at_call 7
     go_loud (
      clear _t t1
      refine hkn.mono ?_
      clear hkn
      rintro e w2 ⟨rfl,hb2⟩
      have hb02:=hb1.trans (hb2.mono hb1.size)
      have x0:w2.cell? ⟨w.heap.size,0,none⟩ = some (.string rs):=(World.cell?_of_block (hb2.block w.heap.size (by omega))).trans (Go.Proofs.YtbaokjfhigjpdaaGreatDoorX.blk_cell hbx 0)
      have x1:w2.cell? ⟨w.heap.size,1,none⟩ = some (.string rl):=(World.cell?_of_block (hb2.block w.heap.size (by omega))).trans (Go.Proofs.YtbaokjfhigjpdaaGreatDoorX.blk_cell hbx 1)
      have hs2:=hb2.size
      have t2:=True.intro))
    | (
     have _t:=t2
     go_at_call 8
     go_loud (
      clear _t t2
      refine (hfew _ hb02).mono ?_
      clear hfew
      rintro e w3 ⟨⟨b,rfl,hten⟩,hb3⟩
      have hb03:=hb02.trans (hb3.mono hb02.size)
      have y0:w3.cell? ⟨w.heap.size,0,none⟩ = some (.string rs):=(World.cell?_of_block (hb3.block w.heap.size (by omega))).trans x0
      have y1:w3.cell? ⟨w.heap.size,1,none⟩ = some (.string rl):=(World.cell?_of_block (hb3.block w.heap.size (by omega))).trans x1
      have t3:=True.intro
      cases b))
    | (
     have _t:=t3
     go_at_call 9
     go_loud (
      clear _t t3
      refine (hmade _ hb03 (hten trivial)).mono ?_
      clear hmade
      rintro e w4 ⟨ms,ns,rfl,hF,hp,hnl,hkl,hpl,hb4⟩
      have hb04:=hb03.trans (hb4.mono hb03.size)
      have hz:Szs ns:=⟨by omega,fun d hd=>by have:=hkl d hd;omega⟩
      have hrows:=rows_c ns.length 0 1 [] (.slice none 0 0) w4 hF (Nat.le_refl _) hp (by omega) (by omega) (by omega) (fun d hd=>by have:=hkl d hd;omega) (by simp;omega) (World.ownsRow_nil _ _ _ _)
      rw [List.nil_append,show (((1:Nat):Int)) = 1 from rfl] at hrows
      obtain ⟨m,d,m1,m2,m3,m4⟩:=hF.get hp
      rw [m4] at hrows ⊢
      have t4:=True.intro))
    | (
     have _t:=t4
     go_at_call 10
     go_loud (
      clear _t t4
      refine hrows.mono ?_
      clear hrows
      rintro e w5 ⟨v5,rfl,hrow5,hb5⟩
      have hb05:=hb04.trans (hb5.mono hb04.size)
      obtain ⟨a5,c5,e5⟩:=row_lit hrow5
      subst e5
      have hlp:0 < (preF ns ns.length 0 1).length:=by
       obtain ⟨k,hk⟩:∃ k,ns.length = k + 1:=⟨ns.length - 1,by omega⟩
       rw [hk,preF]
       simp
      obtain ⟨g5,rfl,hgl,hcs,hcap⟩:∃ g,a5 = some ⟨g,0,none⟩ ∧ g < w5.heap.size ∧ (∀ j u,(flatR ms (preF ns ns.length 0 1))[j]? = some u → w5.cell? ⟨g,j,none⟩ = some u) ∧ (preF ns ns.length 0 1).length ≤ c5:=by
       rcases hrow5.2 with ⟨_,h0⟩ | ⟨g,cap,cur,e,_,hg,r1,_⟩
       · omega
       ·cases e
        refine ⟨g,rfl,(hrow5.lt g rfl).2,fun j u hu=>?_,r1⟩
        have:=hrow5.cells (g:=g) rfl j u hu
        rw [Go.Proofs.YtbaokjfhigjpdaaGreatDoorN.plain_add,Nat.zero_add] at this
        exact this
      have hwk:=fun W (hW:Below w5.heap.size w5 W) (st:Int)=>(callsIn_wide (n:=3)).1 (walked_in _ rfl 3 trivial trivial trivial trivial rfl (Nat.le_refl _) 0 W (hF.below (hb5.trans (hW.mono hb5.size))) (Nat.le_trans hb5.size hW.size) hz hp g5 c5 _ rfl (by omega) (fun j u hu=>(World.cell?_of_block (hW.block g5 hgl)).trans (hcs j u hu)) (Nat.lt_of_lt_of_le hgl hW.size) hcap st)
      rw [m4] at hwk
      have t5:=True.intro))
    | (
     have _t:=t5
     go_at_call 11
     go_loud (
      clear _t t5
      refine (hwk _ (Below.refl _ _) _).mono ?_
      rintro e w6 ⟨rfl,hb6⟩
      have t6:=True.intro))
    | (
     have _t:=t6
     go_at_call 11
     go_loud (
      clear _t t6
      refine (hwk _ hb6 _).mono ?_
      rintro e w7 ⟨rfl,hb7⟩
      have hb07:=hb05.trans ((hb6.trans (hb7.mono hb6.size)).mono hb05.size))))
  ·go_ret
   exact ⟨rfl,hb03⟩
  ·go_ret
   exact ⟨rfl,hb07⟩
end Go.Proofs.YtbaokjfhigjpdaaGreatDoorT
end
