/- What is proved: what the claims of this seat share, part 21: a program of ours merged it out of our own texts, the print's words and the laid shelf. Conditions: those of each. -/
import Derived.Test.YtbaokjfhigjpdaaGreatDoorMB20
import Derived.Deep.AppendLies
import Derived.Deep.RegionHeld3
import Derived.LaidEqlPtr
import Derived.Maps.AppendAt
set_option linter.unusedVariables false
set_option linter.unusedSimpArgs false
section
set_option linter.unusedVariables false
namespace Go.Proofs.YtbaokjfhigjpdaaGreatDoorT
open Go.RowKit Go.Shelf
section
variable {P:Program} {ops:Array Oper} {rest:List Oper} {o:Oper} {a:Act} {Q:Exit → Act → World → Prop}
theorem append_own {W:World} (hgd:o.guard = none) (s x:Operand) (t e:TypeId) (z:Value) (size bytes:Nat)
    (ho:o.op = .call { callee:=.builtin .append,args:=#[s,x],argTypes:=#[t,t] })
    (ht:P.underlying t = some (.slice e)) (hinfo:(P.info? e).map (fun i=>(i.zero,i.size,i.bytes)) = some (some z,size,bytes)) (hzs:z.cells.size = size) (hsz:0 < size)
    (base:Nat) (v:Value) (n:Nat) (xs:List Value) (hs:a.eval s = v) (hown:W.ownsRow base e size v n xs)
    (ad:Addr) (m c:Nat) (news:List Value) (hx:a.eval x = .slice (some ad) m c) (hl:news.length = m * size) (hnews:∀ j u,news[j]? = some u → W.cell? (ad.add j) = some u) (h1:∀ u ∈ news,u.oneCell' = true)
    (h63:n + m ≤ maxLen) (hbytes:(n + m) * bytes ≤ 140737488355328) (hbase:base ≤ W.heap.size)
    (h:∀ v' w',w'.ownsRow base e size v' (n + m) (xs ++ news) → W.grownBy w' v.ownBlock → (v'.ownBlock = v.ownBlock ∨ v'.ownBlock = some W.heap.size) → wpList P ops Q rest (a.put o.dst v') w') :
    wpList P ops Q (o :: rest) a W:=by
  obtain ⟨i0,hi,hzz⟩:=Option.map_eq_some_iff.1 hinfo
  simp only [Prod.mk.injEq] at hzz
  obtain ⟨hz0,hz1,hz2⟩:=hzz
  exact wpList_append_own_at W hgd s x t ho base e i0 z size bytes ht hi hz0 hz1 hz2 hzs hsz v n xs hs hown ad m c news hx hl hnews h1 h63 hbytes hbase fun v' w' q1 q2 _ q4=>h v' w' q1 q2 q4
end
theorem row_lit {w:World} {base n:Nat} {e:TypeId} {size:Nat} {v:Value} {xs:List Value} (h:w.ownsRow base e size v n xs):∃ a c,v = .slice a n c:=by
 rcases h.2 with ⟨rfl,h0⟩ | ⟨g,cap,cur,rfl,_⟩
 · exact ⟨none,0,by rw [h0]⟩
 · exact ⟨_,_,rfl⟩
theorem infoN:(Tryz.prog.info? 27).map (fun i=>(i.zero,i.size,i.bytes)) = some (some (.pointer none),1,8):=by kernel_rfl
theorem two_new (w:World) (o1 o2:Obj):((w.alloc o1).alloc o2).heap[w.heap.size + 1]? = some o2:=by
 have:=heap_alloc_new (w.alloc o1) o2
 rw [World.size_alloc] at this
 exact this
theorem step_kids {ops:Array Oper} {o:Oper} {a:Act} {K:Act → World → Prop} {Q:Exit → Act → World → Prop} {E:Prop} {W:World} (hgd:o.guard = none) (s x:Operand)
    (ho:o.op = .call { callee:=.builtin .append,args:=#[s,x],argTypes:=#[49,49] }) (wr:World) (hb:Below wr.heap.size wr W)
    (v:Value) (n:Nat) (xs:List Value) (hs:a.eval s = v) (hown:wr.ownsRow 0 27 1 v n xs) (g:Nat) (y:Value) (hx:a.eval x = .slice (some ⟨g,0,none⟩) 1 1) (hy:W.heap[g]? = some (.cells #[y] 27 (0,0))) (h1:y.oneCell' = true) (hn:n ≤ 100000000)
    (h:∀ g' cap w',w'.ownsRow 0 27 1 (.slice (some ⟨g',0,none⟩) (n + 1) cap) (n + 1) (xs ++ [y]) → W.grownBy w' v.ownBlock → (v.ownBlock = some g' ∨ g' = W.heap.size) → (∀ k,k < wr.heap.size → v.ownBlock ≠ some k → w'.heap[k]? = wr.heap[k]?) → K (a.put o.dst (.slice (some ⟨g',0,none⟩) (n + 1) cap)) w') :
    if Region.wanted o (yielded ops a.tmps) = true then Oper.wp Tryz.prog o a W K Q else E:=by
  obtain ⟨i0,hi,hzz⟩:=Option.map_eq_some_iff.1 infoN
  simp only [Prod.mk.injEq] at hzz
  obtain ⟨hz0,hz1,hz2⟩:=hzz
  exact step_append_lies W hgd s x _ ho 0 27 i0 (.pointer none) 1 8 Tryz.underlying49 hi hz0 hz1 hz2 rfl (by decide) v n xs hs (Go.Proofs.YtbaokjfhigjpdaaGreatDoorX.ownsRow_of_blocks hown fun k hk=>hb.block k (hown.lt k hk).2) ⟨g,0,none⟩ 1 1 [y] hx rfl (World.news_of_block hy) (by simpa using h1) (by decide) (by unfold maxLen;omega) (by omega) (Nat.zero_le _) _ rfl
    fun g' cap w' q1 q2 q3 q4=>h g' cap w' q1 q2 q3 fun k hk hne=>(q2.block k (Nat.lt_of_lt_of_le hk hb.size) (fun e=>hne e.symm)).trans (hb.block k hk)
theorem list_kids {ops:Array Oper} {rest:List Oper} {o:Oper} {a:Act} {Q:Exit → Act → World → Prop} {W:World} (hgd:o.guard = none) (s x:Operand)
    (ho:o.op = .call { callee:=.builtin .append,args:=#[s,x],argTypes:=#[49,49] }) (wr:World) (hb:Below wr.heap.size wr W)
    (v:Value) (n:Nat) (xs:List Value) (hs:a.eval s = v) (hown:wr.ownsRow 0 27 1 v n xs) (g:Nat) (y:Value) (hx:a.eval x = .slice (some ⟨g,0,none⟩) 1 1) (hy:W.heap[g]? = some (.cells #[y] 27 (0,0))) (h1:y.oneCell' = true) (hn:n ≤ 100000000)
    (h:∀ g' cap w',w'.ownsRow 0 27 1 (.slice (some ⟨g',0,none⟩) (n + 1) cap) (n + 1) (xs ++ [y]) → W.grownBy w' v.ownBlock → (v.ownBlock = some g' ∨ g' = W.heap.size) → (∀ k,k < wr.heap.size → v.ownBlock ≠ some k → w'.heap[k]? = wr.heap[k]?) → wpList Tryz.prog ops Q rest (a.put o.dst (.slice (some ⟨g',0,none⟩) (n + 1) cap)) w'):wpList Tryz.prog ops Q (o :: rest) a W:=by
  obtain ⟨i0,hi,hzz⟩:=Option.map_eq_some_iff.1 infoN
  simp only [Prod.mk.injEq] at hzz
  obtain ⟨hz0,hz1,hz2⟩:=hzz
  exact wpList_append_lies W hgd s x _ ho 0 27 i0 (.pointer none) 1 8 Tryz.underlying49 hi hz0 hz1 hz2 rfl (by decide) v n xs hs (Go.Proofs.YtbaokjfhigjpdaaGreatDoorX.ownsRow_of_blocks hown fun k hk=>hb.block k (hown.lt k hk).2) ⟨g,0,none⟩ 1 1 [y] hx rfl (World.news_of_block hy) (by simpa using h1) (by decide) (by unfold maxLen;omega) (by omega) (Nat.zero_le _) _ rfl
    fun g' cap w' q1 q2 q3 q4=>h g' cap w' q1 q2 q3 fun k hk hne=>(q2.block k (Nat.lt_of_lt_of_le hk hb.size) (fun e=>hne e.symm)).trans (hb.block k hk)
theorem size_node:(Tryz.prog.info? 55).map (fun i=>i.size) = some 8:=by kernel_rfl
theorem neq_same (W:World) (a:Addr):(binOp .neq 27 (.pointer (some a)) (.pointer (some a))).run Tryz.prog W = .ok (.bool false) W:=by
 obtain ⟨j,hj,_⟩:=Option.map_eq_some_iff.1 size_node
 have h:∀ d:Nat,(Op.equalIn (d + 1) 27 (.pointer (some a)) (.pointer (some a))).run Tryz.prog W = .ok true W:=fun d=>by
  simp [Op.equalIn,run_underlying Tryz.underlying27,sizeOf,typeInfo,hj,run_sameAddr_same]
 simp only [binOp]
 simp [Op.equal,Op.maxDepth,h 9999]
theorem neq_nil1 (W:World) (a:Addr):(binOp .neq 27 (.pointer none) (.pointer (some a))).run Tryz.prog W = .ok (.bool true) W:=by
 have h:∀ d:Nat,(Op.equalIn (d + 1) 27 (.pointer none) (.pointer (some a))).run Tryz.prog W = .ok false W:=fun d=>by
  simp [Op.equalIn,run_underlying Tryz.underlying27]
 simp only [binOp]
 simp [Op.equal,Op.maxDepth,h 9999]
theorem neq_nil2 (W:World) (a:Addr):(binOp .neq 27 (.pointer (some a)) (.pointer none)).run Tryz.prog W = .ok (.bool true) W:=by
 have h:∀ d:Nat,(Op.equalIn (d + 1) 27 (.pointer (some a)) (.pointer none)).run Tryz.prog W = .ok false W:=fun d=>by
  simp [Op.equalIn,run_underlying Tryz.underlying27]
 simp only [binOp]
 simp [Op.equal,Op.maxDepth,h 9999]
theorem neq_nil3 (W:World):(binOp .neq 27 (.pointer none) (.pointer none)).run Tryz.prog W = .ok (.bool false) W:=by
 have h:∀ d:Nat,(Op.equalIn (d + 1) 27 (.pointer none) (.pointer none)).run Tryz.prog W = .ok true W:=fun d=>by
  simp [Op.equalIn,run_underlying Tryz.underlying27]
 simp only [binOp]
 simp [Op.equal,Op.maxDepth,h 9999]
theorem neq_other (W:World) {a b:Addr} {ca cb:Array Value} {ta tb:TypeId} (hne:a ≠ b) (ha:W.heap[a.block]? = some (.cells ca ta (0,0))) (hb:W.heap[b.block]? = some (.cells cb tb (0,0))) :
    (binOp .neq 27 (.pointer (some a)) (.pointer (some b))).run Tryz.prog W = .ok (.bool true) W:=by
  obtain ⟨j,hj,hs⟩:=Option.map_eq_some_iff.1 size_node
  have h:∀ d:Nat,(Op.equalIn (d + 1) 27 (.pointer (some a)) (.pointer (some b))).run Tryz.prog W = .ok false W:=fun d=>by
   simp [Op.equalIn,run_underlying Tryz.underlying27,sizeOf,typeInfo,hj,hs,run_sameAddr_other W hne ha hb]
  simp only [binOp]
  simp [Op.equal,Op.maxDepth,h 9999]
end Go.Proofs.YtbaokjfhigjpdaaGreatDoorT
end
section
set_option linter.unusedVariables false
namespace Go.Proofs.YtbaokjfhigjpdaaGreatDoorT
open Go.RowKit Go.Shelf Go.Proofs.YtbaokjfhigjpdaaGreatDoor.PXmlBase Go.Proofs.YtbaokjfhigjpdaaGreatDoorW.PrintWords
open Go.Proofs.YtbaokjfhigjpdaaGreatDoorN (Sc Fr Binds NA flatN flatB bindsL openS)
open Go.Proofs.YtbaokjfhigjpdaaGreatDoorX (RowAt PS PX Fx Lim St Tv XE NS NoPs EvRows AttrRow xaCells nestF blk_lt blk_set blk_cell blk_frz lt_of_cell alloc_old ownsRow_of_blocks)
theorem row_type {w:World} {e:TypeId} {size n:Nat} {v:Value} {xs:List Value} {k:Nat} (h:RowAt w e size v n xs) (hk:v.ownBlock = some k):∃ c,w.heap[k]? = some (.cells c e (0,0)):=by
 rcases h.2 with ⟨rfl,_⟩ | ⟨g,off,cap,cur,rfl,hg,_⟩
 · simp [Value.ownBlock] at hk
 ·simp [Value.ownBlock] at hk
  subst hk
  exact ⟨cur,hg⟩
theorem own_type {w:World} {base:Nat} {e:TypeId} {size n:Nat} {v:Value} {xs:List Value} {k:Nat} (h:w.ownsRow base e size v n xs) (hk:v.ownBlock = some k):∃ c,w.heap[k]? = some (.cells c e (0,0)):=row_type (Go.Proofs.YtbaokjfhigjpdaaGreatDoorX.RowAt.of_own h) hk
theorem Ar.types {w:World} {B:Nat} {ms:List NP} {ns:List ND} {ov:Value} {op:List Nat} (h:Ar w B ms ns ov op) {k:Nat} (hk:TX ms ov k):∃ c t,w.heap[k]? = some (.cells c t (0,0)) ∧ (t = 55 ∨ t = 70 ∨ t = 171 ∨ t = 27):=by
 rcases hk with ⟨m,hm,hk⟩ | hk
 ·obtain ⟨i,hi⟩:=List.mem_iff_getElem?.1 hm
  obtain ⟨d,_,hn⟩:=h.get hi
  rcases hk with rfl | hk | hk | hk
  · exact ⟨_,_,hn.blk,.inl rfl⟩
  ·obtain ⟨c,hc⟩:=row_type hn.attrs hk
   exact ⟨c,_,hc,.inr (.inl rfl)⟩
  ·obtain ⟨c,hc⟩:=row_type hn.binds hk
   exact ⟨c,_,hc,.inr (.inr (.inl rfl))⟩
  ·obtain ⟨c,hc⟩:=own_type hn.kids hk
   exact ⟨c,_,hc,.inr (.inr (.inr rfl))⟩
 ·obtain ⟨c,hc⟩:=own_type h.opn hk
  exact ⟨c,_,hc,.inr (.inr (.inr rfl))⟩
section
variable {w wr:World} {p q qs b0:Nat} {bs:List Int} {L:Lim} {o:Option XE} {s t:St} {T:Tv} {sv ov:Value} {ms:List NP} {ts:TS} {nn:NS} {es:List XE} {ec:List Value}
theorem PL.apart (h:PL w wr p bs L q o s t T qs sv ms ts nn ov b0 es ec):q ≠ qs ∧ sv.ownBlock ≠ some q ∧ ¬ TX ms ov q:=by
 have hb:=h.blk
 refine ⟨fun e=>?_,fun e=>?_,fun e=>?_⟩
 ·obtain ⟨v,hv⟩:=h.pz.sc.typ
  rw [← e,hb] at hv
  simp at hv
 ·obtain ⟨c,hc,_⟩:=h.pz.sc.svty e
  rw [hb] at hc
  simp at hc
 ·obtain ⟨c,t,hc,ht⟩:=h.pz.ar.types e
  rw [hb] at hc
  simp only [Option.some.injEq,Obj.cells.injEq] at hc
  rw [← hc.2.1] at ht
  exact absurd ht (by decide)
theorem PL.avOff (h:PL w wr p bs L q o s t T qs sv ms ts nn ov b0 es ec) {av:Value} {xs:List Go.Proofs.YtbaokjfhigjpdaaGreatDoorX.XA} (hav:AttrRow wr av xs):∀ k,av.ownBlock = some k → sv.ownBlock ≠ some k ∧ k ≠ qs:=by
 intro k hk
 obtain ⟨c,hc⟩:=row_type hav hk
 refine ⟨fun e=>?_,fun e=>?_⟩
 ·obtain ⟨c',hc',_⟩:=h.pz.sc.svty e
  rw [hc] at hc'
  simp at hc'
 ·obtain ⟨v,hv⟩:=h.pz.sc.typ
  rw [← e,hc] at hv
  simp at hv
end
section
variable {w0 wr:World} {p:Nat} {bs:List Int} {L:Lim} {s:St} {T:Tv} {q:Nat} {sv:Value} {Ls:List Binds} {ms:List NP} {ns:List ND} {ov:Value} {op:List Nat}
theorem Pz.node (h:Pz w0 wr p bs L s T q sv Ls ms ns ov op) {u:Nat} (hu:u < ns.length):∃ m d A c,ms[u]? = some m ∧ ns[u]? = some d ∧ NodeAt wr ms m d ∧ m.kv = .slice A d.kids.length c ∧ wr.cell? ⟨m.b,6,none⟩ = some (.slice A d.kids.length c) ∧ wr.frozen? ⟨m.b,6,none⟩ = false ∧ wr.cell? ⟨m.b,3,none⟩ = some (.int .i64 d.en) ∧ wr.frozen? ⟨m.b,3,none⟩ = false:=by
 have hm:u < ms.length:=by rw [h.ar.len];exact hu
 have hn:=h.ar.node u _ _ (List.getElem?_eq_getElem hm) (List.getElem?_eq_getElem hu)
 have hs:∃ A c,(ms[u]).kv = .slice A (ns[u]).kids.length c:=row_lit hn.kids
 obtain ⟨A,c,e⟩:=hs
 exact ⟨_,_,A,c,List.getElem?_eq_getElem hm,List.getElem?_eq_getElem hu,hn,e,(Go.Proofs.YtbaokjfhigjpdaaGreatDoorX.blk_cell hn.blk 6).trans (congrArg some e),blk_frz hn.blk 6,Go.Proofs.YtbaokjfhigjpdaaGreatDoorX.blk_cell hn.blk 3,blk_frz hn.blk 3⟩
theorem Pz.last (h:Pz w0 wr p bs L s T q sv Ls ms ns ov op) {k u:Nat} (hl:op.length = k + 1) (hu:op[k]? = some u):∃ g c,ov = .slice (some ⟨g,0,none⟩) (k + 1) c ∧ k + 1 ≤ c ∧ c ≤ maxLen ∧ wr.cell? ⟨g,k,none⟩ = some (ptrOf ms u):=by
 have hr:=h.ar.opn
 rcases hr.2 with ⟨e,h0⟩ | ⟨g,cap,cur,e,_,_,r1,r2,_⟩
 · omega
 ·refine ⟨g,cap,by rw [e,hl],by omega,r2,?_⟩
  have:=hr.cells (g:=g) (by rw [e];rfl) k (ptrOf ms u) (by unfold ptrs;rw [List.getElem?_map,hu];rfl)
  have ha:(⟨g,0,none⟩:Addr).add k = ⟨g,k,none⟩:=by unfold Addr.add;split <;> simp_all
  rw [ha] at this
  exact this
end
end Go.Proofs.YtbaokjfhigjpdaaGreatDoorT
end
section
set_option linter.unusedVariables false
namespace Go.Proofs.YtbaokjfhigjpdaaGreatDoorT
open Go.RowKit Go.Shelf Go.Proofs.YtbaokjfhigjpdaaGreatDoorW.PrintWords
open Go.Proofs.YtbaokjfhigjpdaaGreatDoorN (Sc Fr Binds NA flatN flatB bindsL openS)
open Go.Proofs.YtbaokjfhigjpdaaGreatDoorX (RowAt PS PX Fx Lim St Tv NoPs blk_lt blk_set blk_cell lt_of_cell alloc_old ownsRow_of_blocks)
abbrev nodeO (av bv:Value) (d:ND):Obj:=.cells #[.string d.sp,.string d.lc,.int .i64 d.at_,.int .i64 d.en,av,bv,.slice none 0 0,.string d.text] 55
abbrev oneO (b:Nat):Obj:=.cells #[.pointer (some ⟨b,0,none⟩)] 27
section
variable {w0 wr:World} {p:Nat} {bs:List Int} {L:Lim} {s:St} {T:Tv} {q:Nat} {sv:Value} {Ls:List Binds} {ms:List NP} {ns:List ND} {ov:Value} {op:List Nat}
theorem kidS_eq {ns:List ND} {u:Nat} {du d:ND} (hdu:ns[u]? = some du) (j:Nat):kidS (ns ++ [d]) u j = (ns ++ [d]).set u { du with kids:=du.kids ++ [j] }:=by
 unfold kidS
 rw [List.getElem?_append_left (List.getElem?_eq_some_iff.1 hdu).1,hdu]
theorem set_b {ms:List NP} {u:Nat} {mu:NP} (hmu:ms[u]? = some mu) (m:NP) (kv:Value) {b0:Nat} (h0:(ms[0]?).map (·.b) = some b0):(((ms ++ [m]).set u { mu with kv:=kv })[0]?).map (·.b) = some b0:=by
 have hl:0 < ms.length:=by
  cases ms with
  | nil=>cases h0
  | cons a r=>simp
 rw [List.getElem?_set]
 split
 ·rename_i e
  subst e
  rw [if_pos (by simp)]
  rw [hmu] at h0
  exact h0
 ·rw [List.getElem?_append_left hl]
  exact h0
theorem Pz.newKid (h:Pz w0 wr p bs L s T q sv Ls ms ns ov op) {u:Nat} {mu:NP} {du:ND} (hmu:ms[u]? = some mu) (hdu:ns[u]? = some du) {av bv:Value} (d:ND) (hd0:d.kids = []) (ha:RowAt wr 70 4 av d.attrs.length (flatN d.attrs)) (hb:RowAt wr 171 2 bv d.binds.length (flatB d.binds))
    (hfa:∀ k,(av.ownBlock = some k ∨ bv.ownBlock = some k) → ¬ TX ms ov k ∧ ¬ PX p T k ∧ k ≠ q ∧ sv.ownBlock ≠ some k ∧ w0.heap.size ≤ k) {w9:World} {g9 cap9:Nat}
    (hown9:w9.ownsRow 0 27 1 (.slice (some ⟨g9,0,none⟩) (du.kids.length + 1) cap9) (du.kids.length + 1) (ptrs ms du.kids ++ [.pointer (some ⟨wr.heap.size,0,none⟩)])) (hg9:((wr.alloc (nodeO av bv d)).alloc (oneO wr.heap.size)).grownBy w9 mu.kv.ownBlock) (hat9:mu.kv.ownBlock = some g9 ∨ g9 = wr.heap.size + 1 + 1) :
    Pz w0 (w9.setCell ⟨mu.b,6,none⟩ (.slice (some ⟨g9,0,none⟩) (du.kids.length + 1) cap9)) p bs L s T q sv Ls ((ms ++ [(⟨wr.heap.size,av,bv,.slice none 0 0⟩:NP)]).set u { mu with kv:=.slice (some ⟨g9,0,none⟩) (du.kids.length + 1) cap9 }) (kidS (ns ++ [d]) u ns.length) ov op:=by
  have hba:=(Below.refl wr.heap.size wr).alloc (Nat.le_refl _) (nodeO av bv d)
  have h1:=h.grow hba
  have hlen:=h.ar.len
  have hul:=(List.getElem?_eq_some_iff.1 hmu).1
  have hud:=(List.getElem?_eq_some_iff.1 hdu).1
  have hne:∀ k,(Value.slice none 0 0).ownBlock ≠ some k:=fun k e=>by simp [Value.ownBlock] at e
  have hn:NodeAt (wr.alloc (nodeO av bv d)) ms ⟨wr.heap.size,av,bv,.slice none 0 0⟩ d:=by
   refine ⟨heap_alloc_new wr _,ha.move fun k hk=>hba.block k (ha.lt k hk),hb.move fun k hk=>hba.block k (hb.lt k hk),?_,?_,fun k e=>absurd e (hne k)⟩
   ·rw [hd0]
    exact World.ownsRow_nil _ _ _ _
   ·rw [hd0]
    intro i hi
    cases hi
  have hx:∀ k,NX ⟨wr.heap.size,av,bv,.slice none 0 0⟩ k → k = wr.heap.size ∨ av.ownBlock = some k ∨ bv.ownBlock = some k:=by
   rintro k (e | e | e | e)
   · exact .inl e
   · exact .inr (.inl e)
   · exact .inr (.inr e)
   · exact absurd e (hne k)
  have h2:=h1.add hn rfl (fun k hk ht=>by
   rcases hx k hk with e | e
   ·have:=h.ar.below k ht
    omega
   · exact (hfa k e).1 ht) (fun k hk ht=>by
   rcases hx k hk with e | e
   ·have:=h.ps.xlt k ht
    omega
   · exact (hfa k e).2.1 ht) (fun k hk=>by
   rcases hx k hk with e | e
   · exact ⟨fun e2=>by have:=h.sc.lt;omega,fun e2=>by have:=h.sc.svlt k e2;omega⟩
   · exact ⟨(hfa k e).2.2.1,(hfa k e).2.2.2.1⟩) (fun k hk=>by
   rcases hx k hk with e | e
   ·have:=h.below.size
    omega
   · exact (hfa k e).2.2.2.2)
  have hmu2:(ms ++ [(⟨wr.heap.size,av,bv,.slice none 0 0⟩:NP)])[u]? = some mu:=by rw [List.getElem?_append_left hul];exact hmu
  have hdu2:(ns ++ [d])[u]? = some du:=by rw [List.getElem?_append_left hud];exact hdu
  have hj:(ms ++ [(⟨wr.heap.size,av,bv,.slice none 0 0⟩:NP)])[ns.length]? = some ⟨wr.heap.size,av,bv,.slice none 0 0⟩:=by rw [← hlen,List.getElem?_append_right (Nat.le_refl _)];simp
  have hpk:ptrs (ms ++ [(⟨wr.heap.size,av,bv,.slice none 0 0⟩:NP)]) du.kids = ptrs ms du.kids:=ptrs_app _ (h.ar.node u mu du hmu hdu).lt
  rw [kidS_eq hdu]
  exact h2.kid hmu2 hdu2 hj (by rw [hpk];exact hown9) hg9 (by
   rcases hat9 with e | e
   · exact .inl (by rw [e];rfl)
   ·refine .inr ?_
    rw [e]
    simp [Value.ownBlock])
theorem kid_get {ms:List NP} {u:Nat} (hu:u < ms.length) (m mu':NP) {k:Nat} (hk:k = ms.length):((ms ++ [m]).set u mu')[k]? = some m:=by
 subst hk
 rw [List.getElem?_set,if_neg (by omega),List.getElem?_append_right (Nat.le_refl _)]
 simp
end
theorem one_new {w:World} {n:Nat} (h:w.heap.size = n) (o:Obj):(w.alloc o).heap[n]? = some o:=by
 subst h
 exact heap_alloc_new w o
open Go.Proofs.YtbaokjfhigjpdaaGreatDoorX (XE AttrRow xaCells xa_get) in
theorem xattrs_of {w:World} {v:Value} {x:XE} (h:AttrRow w v x.attrs):Go.Proofs.YtbaokjfhigjpdaaGreatDoorN.XAttrs w v (evA x):=by
 have hl:(evA x).length = x.attrs.length:=by simp [evA]
 obtain ⟨A,c,rfl,hc⟩:=Go.Proofs.YtbaokjfhigjpdaaGreatDoorX.RowAt.slice h
 refine ⟨A,c,by rw [hl],fun i hi=>?_⟩
 rw [hl] at hi
 obtain ⟨g,off,rfl⟩:=Go.Proofs.YtbaokjfhigjpdaaGreatDoorX.RowAt.some h rfl (by omega)
 have hcs:=Go.Proofs.YtbaokjfhigjpdaaGreatDoorX.RowAt.cells h rfl
 have he:(evA x)[i]'(by rw [hl];exact hi) = (strOfNums x.attrs[i].name,strOfNums x.attrs[i].value,(x.attrs[i].at_:Int)):=by simp [evA]
 refine ⟨⟨g,off,none⟩,rfl,?_⟩
 rw [he,Go.Proofs.YtbaokjfhigjpdaaGreatDoorN.plain_add]
 have c0:=hcs (i * 3 + 0) _ ((xa_get x.attrs i hi 0 (by omega)).trans rfl)
 have c1:w.cell? ⟨g,off + (i * 3 + 1),none⟩ = some (.string (strOfNums x.attrs[i].value)):=hcs (i * 3 + 1) _ ((xa_get x.attrs i hi 1 (by omega)).trans rfl)
 have c2:w.cell? ⟨g,off + (i * 3 + 2),none⟩ = some (.int .i64 (x.attrs[i].at_:Int)):=hcs (i * 3 + 2) _ ((xa_get x.attrs i hi 2 (by omega)).trans rfl)
 exact ⟨c0,by simpa [Nat.add_assoc] using c1,by simpa [Nat.add_assoc] using c2⟩
theorem openS_err {L L':List Binds} {name:ByteArray} {at_:Int} {xs:List Go.Proofs.YtbaokjfhigjpdaaGreatDoorN.XA} {f:Int × Int} (h:openS L name at_ xs = (.error f,L')):f.2 ≠ 0:=by
 unfold openS Go.Proofs.YtbaokjfhigjpdaaGreatDoorN.openEnd at h
 split at h
 ·cases h
  simp
 ·split at h
  ·rename_i he
   cases h
   exact Go.Proofs.YtbaokjfhigjpdaaGreatDoorN.tagS_err (pl:=f.1) (er:=f.2) he
  · cases h
end Go.Proofs.YtbaokjfhigjpdaaGreatDoorT
end
section
set_option linter.unusedVariables false
namespace Go.Proofs.YtbaokjfhigjpdaaGreatDoorT
open Go.RowKit Go.Shelf
open Go.Proofs.YtbaokjfhigjpdaaGreatDoorN (NA flatN flatB)
open Go.Proofs.YtbaokjfhigjpdaaGreatDoorX (RowAt blk_lt blk_cell lt_of_cell ownsRow_of_blocks)
structure Fo (w:World) (n0:Nat) (ms:List NP) (ns:List ND):Prop where
  len:ms.length = ns.length
  node:∀ (i:Nat) (m:NP) (d:ND),ms[i]? = some m → ns[i]? = some d → NodeAt w ms m d
  inj:∀ (i j:Nat) (m m':NP),ms[i]? = some m → ms[j]? = some m' → m.b = m'.b → i = j
  low:∀ m ∈ ms,∀ k,NX m k → k < n0
  up:∀ (i:Nat) (d:ND),ns[i]? = some d → ∀ j ∈ d.kids,i < j ∧ j < ns.length
section
variable {w w':World} {n0:Nat} {ms:List NP} {ns:List ND}
theorem Fo.below (h:Fo w n0 ms ns) (hb:Below n0 w w'):Fo w' n0 ms ns :=
  ⟨h.len,fun i m d hm hd=>(h.node i m d hm hd).off fun k hk=>hb.block k (h.low m (List.mem_of_getElem? hm) k hk),h.inj,h.low,h.up⟩
theorem Fo.mono (h:Fo w n0 ms ns) {n1:Nat} (hn:n0 ≤ n1):Fo w n1 ms ns:=⟨h.len,h.node,h.inj,fun m hm k hk=>Nat.lt_of_lt_of_le (h.low m hm k hk) hn,h.up⟩
theorem Ar.fo {B:Nat} {ov:Value} {op:List Nat} (h:Ar w B ms ns ov op) (hup:∀ (i:Nat) (d:ND),ns[i]? = some d → ∀ j ∈ d.kids,i < j ∧ j < ns.length):Fo w w.heap.size ms ns :=
  ⟨h.len,h.node,h.inj,fun m hm k hk=>h.below k (.inl ⟨m,hm,hk⟩),hup⟩
theorem Fo.get (h:Fo w n0 ms ns) {i:Nat} (hi:i < ns.length):∃ m d,ms[i]? = some m ∧ ns[i]? = some d ∧ NodeAt w ms m d ∧ ptrOf ms i = .pointer (some ⟨m.b,0,none⟩):=by
 have hm:i < ms.length:=by rw [h.len];exact hi
 refine ⟨ms[i],ns[i],List.getElem?_eq_getElem hm,List.getElem?_eq_getElem hi,h.node i _ _ (List.getElem?_eq_getElem hm) (List.getElem?_eq_getElem hi),?_⟩
 unfold ptrOf
 rw [List.getElem?_eq_getElem hm]
 rfl
theorem Fo.blow (h:Fo w n0 ms ns) {i:Nat} {m:NP} (hm:ms[i]? = some m):m.b < n0:=h.low m (List.mem_of_getElem? hm) _ (.inl rfl)
theorem NodeAt.kid {m:NP} {d:ND} (h:NodeAt w ms m d):∃ a c,m.kv = .slice a d.kids.length c ∧ ∀ (k:Nat) (j:Nat),d.kids[k]? = some j → ∃ g,a = some ⟨g,0,none⟩ ∧ w.cell? ⟨g,k,none⟩ = some (ptrOf ms j):=by
 rcases h.kids.2 with ⟨e,h0⟩ | ⟨g,cap,cur,e,_⟩
 ·refine ⟨none,0,by rw [e,h0],fun k j hk=>?_⟩
  rw [List.length_eq_zero_iff.1 h0] at hk
  cases hk
 ·refine ⟨_,cap,e,fun k j hk=>⟨g,rfl,?_⟩⟩
  have:=h.kids.cells (g:=g) (by rw [e];rfl) k (ptrOf ms j) (by unfold ptrs;rw [List.getElem?_map,hk];rfl)
  have ha:(⟨g,0,none⟩:Addr).add k = ⟨g,k,none⟩:=by unfold Addr.add;split <;> simp_all
  rw [ha] at this
  exact this
def kidsOf (ns:List ND) (i:Nat):List Nat:=((ns[i]?).map ND.kids).getD []
def preF (ns:List ND):Nat → Nat → Nat → List (Nat × Nat)
  | 0,_,_=>[]
  | f + 1,i,d=>(i,d) :: (kidsOf ns i).flatMap fun j=>preF ns f j (d + 1)
theorem kidsOf_eq {i:Nat} {d:ND} (h:ns[i]? = some d):kidsOf ns i = d.kids:=by unfold kidsOf;rw [h];rfl
theorem preF_len (hup:∀ (i:Nat) (d:ND),ns[i]? = some d → ∀ j ∈ d.kids,i < j ∧ j < ns.length):∀ (f i d:Nat),∀ x ∈ preF ns f i d,i < ns.length → x.1 < ns.length
  | 0,_,_,x,hx,_=>by cases hx
  | f + 1,i,d,x,hx,hi=>by
   rw [preF,List.mem_cons] at hx
   rcases hx with rfl | hx
   · exact hi
   ·obtain ⟨j,hj,hx⟩:=List.mem_flatMap.1 hx
    rw [kidsOf_eq (List.getElem?_eq_getElem hi)] at hj
    exact preF_len hup f j (d + 1) x hx (hup i _ (List.getElem?_eq_getElem hi) j hj).2
end
end Go.Proofs.YtbaokjfhigjpdaaGreatDoorT
end
section
set_option linter.unusedVariables false
namespace Go.Proofs.YtbaokjfhigjpdaaGreatDoorT
open Go.RowKit Go.Shelf Go.Proofs.YtbaokjfhigjpdaaGreatDoor.PXmlBase Go.Proofs.YtbaokjfhigjpdaaGreatDoorW.PrintWords
open Go.Proofs.YtbaokjfhigjpdaaGreatDoorN (Sc Fr Binds NA flatN flatB bindsL openS close_set)
open Go.Proofs.YtbaokjfhigjpdaaGreatDoorX (RowAt PS PX Fx Lim LOk St Tv XE NS NoPs EnvW NewR size_str AttrRow st0 st0_inv limOf limOf_ok nextE nextE_c allE allL restL muS muW Sim Inv nestF all_few all_short all_len allL blk_lt blk_set blk_cell blk_frz lt_of_cell alloc_old ownsRow_of_blocks)
theorem nest_end {n m:NS} {x:XE} (h:nestF n x = some m) (k1:¬ x.kind = 1) (k3:¬ x.kind = 3):x.kind = 2 ∧ n.stk ≠ []:=by
 unfold nestF at h
 by_cases ha:Go.Proofs.YtbaokjfhigjpdaaGreatDoorX.okAt n.prev x.at_ = false
 ·rw [if_pos ha] at h
  cases h
 ·rw [if_neg ha,if_neg k1] at h
  by_cases k2:x.kind = 2
  ·rw [if_pos k2] at h
   by_cases hc:n.stk ≠ [] ∧ n.stk.getLastD [] = x.name
   · exact ⟨k2,hc.1⟩
   ·rw [if_neg hc] at h
    cases h
  ·rw [if_neg k2,if_neg k3] at h
   cases h
def ParseR (w:World) (bs:List Int) (L:Lim) (e:Ending) (W:World):Prop:=Below w.heap.size w W ∧ match parseS bs L with
 | .error f=>e = .returned (.tuple #[.pointer none,.int .i64 f.1,.int .i64 f.2])
 | .ok t=>∃ ms k0,e = .returned (.tuple #[ptrOf ms k0,.int .i64 0,.int .i64 0]) ∧ (t.ns[0]?).map ND.kids = some [k0] ∧ Fo W W.heap.size ms t.ns ∧ ∀ m ∈ ms,∀ k,NX m k → w.heap.size ≤ k
set_option maxRecDepth 100000 in
set_option maxHeartbeats 4000000 in
theorem parse_c {w:World} {ad:Option Addr} {c:Nat} {bs:List Int} (hb:Go.Proofs.YtbaokjfhigjpdaaGreatDoorX.Bytes bs) (hE:EnvW w) (hlen:bs.length ≤ 1000000) (hnil:ad = none → bs = []) (hrow:∀ a,ad = some a → ∀ j x,bs[j]? = some x → w.cell? (a.add j) = some (.int .u8 x)) (l0 l1 l2 l3 l4 l5:Int) :
    Calls Tryz.prog 23 #[.slice ad bs.length c,.agg #[.int .i64 l0,.int .i64 l1,.int .i64 l2,.int .i64 l3,.int .i64 l4,.int .i64 l5]] w (ParseR w bs (limOf l0 l1 l2 l3)):=by
  have hb1:=(Below.refl w.heap.size w).alloc (Nat.le_refl _) (.cells #[.int .i64 l0,.int .i64 l1,.int .i64 l2,.int .i64 l3,.int .i64 l4,.int .i64 l5] 63)
  have hnw:=fun w' (hb':Below w.heap.size w w')=>Go.Proofs.YtbaokjfhigjpdaaGreatDoorX.new_c (w:=w') (c:=c) hb (by
   obtain ⟨w0,h1,h2⟩:=hE
   exact ⟨w0,h1,h2.trans (hb'.mono h2.size)⟩) (by omega) hnil (fun a ha j x hx=>(World.cell?_of_block (hb'.block _ (lt_of_cell (hrow a ha j x hx)))).trans (hrow a ha j x hx)) l0 l1 l2 l3 l4 l5
  have hL:=limOf_ok l0 l1 l2 l3
  generalize limOf l0 l1 l2 l3 = L at *
  clear hrow hnil
  go_enter Tryz.func23,Tryz.ntmps23
  have t1:=True.intro
  go_wp2_with (first
   | (
    have _t:=t1
    go_at_call 38
    go_loud (
     clear _t t1
     refine (hnw _ (by first | exact hb1 | exact hb1.drew)).mono ?_
     clear hnw
     rintro e w2 ⟨p,T,rfl,hS2,hb2,e1,e2,e3⟩
     have hb12:=hb1.trans (hb2.mono hb1.size)
     have hz:=pz0 hE hS2 hb12 (by simp)
     unfold w3n at hz
     rw [show w2.heap.size + 2 = w2.heap.size + 1 + 1 from rfl] at hz
     have t2:=True.intro))
   | (
    have _t:=t2
    go_at_call 39
    go_loud (
     clear _t t2
     refine (Go.Proofs.YtbaokjfhigjpdaaGreatDoorN.new_c _).mono ?_
     rintro e w3 ⟨rfl,rfl⟩
     have t3:=True.intro))
   | (
    have _t:=t3
    go_at_call 40
    go_loud (
     clear _t t3
     refine (nextE_c hz.ps hL (st0_inv bs L) (.inl rfl)).mono ?_
     rintro e w3 ⟨s3,T3,hS3,hF3,hsim3,hout3⟩
     obtain ⟨k3,a3,n3,t3,A3,m3,c3,rfl,hev3⟩:=hout3.cells)))
  have hPL:=pl_first (b0:=w2.heap.size + 1) hz rfl hS3 hF3 hsim3 hev3
  clear hz hF3 hev3 hout3 hb12 hS2 hb2 e1 e2 e3 hb1
  generalize (w3.alloc (.cells #[.int .i64 k3,.int .i64 a3,.string n3,.string t3,.slice A3 m3 c3] 95)) = w4 at *
  generalize (nextE bs L st0).1 = o0 at *
  generalize (nextE bs L st0).2 = t0 at *
  generalize hb0:w2.heap.size + 1 = b0 at *
  generalize hqs:w2.heap.size = qs at *
  go_loopw [10,11,12] (fun ov ev bv wr=>∃ (q:Nat) (o:Option XE) (s t:St) (T:Tv) (sv:Value) (ms:List NP) (ts:TS) (nn:NS) (es:List XE) (ec:List Value),ev = .pointer (some ⟨q,0,none⟩) ∧ bv = .bool o.isSome ∧ PL w wr p bs L q o s t T qs sv ms ts nn ov b0 es ec) (fun _ _ _ wr=>muW bs.length p wr)
  case atStart=>exact ⟨_,_,_,_,_,_,_,_,_,_,_,rfl,rfl,hPL⟩
  case round=>
   rename World=>wr
   obtain ⟨q,o,s,t,T,sv,ms,ts,nn,es,ec,rfl,rfl,hA⟩:=hrel
   clear hPL
   cases o with
   | none=>
    have hfc:=Go.Proofs.YtbaokjfhigjpdaaGreatDoorX.fault_c hA.pz.ps
    obtain ⟨k,_,hr⟩:=hA.res
    obtain ⟨_,_,f1,f2,_,_⟩:=hA.sim.eqs
    simp only [restL,List.append_nil] at hr
    obtain ⟨d1,d2⟩:=hA.ri.done hb (L:=L) (by rw [hr])
    rw [hr] at d1 d2
    simp only at d1 d2
    rw [← f1,← f2] at d1
    rw [← f2] at d2
    have hbel:=hA.pz.below
    clear f1 f2
    by_cases h0:s.ferr = 0
    ·rw [if_neg (by simpa using h0)] at d1
     obtain ⟨dr,hdr,hkr⟩:=hA.ri.ti.root
     have hn0:0 < ts.ns.length:=(List.getElem?_eq_some_iff.1 hdr).1
     obtain ⟨m,d,A,c',m1,m2,m3,m4,y6,f6,_,_⟩:=hA.pz.node hn0
     rw [hdr] at m2
     cases m2
     have hmb:m.b = b0:=by
      have:=hA.m0
      rw [m1] at this
      simpa using this
     rw [hmb] at y6
     obtain ⟨k0,hk0⟩:∃ k0,dr.kids = [k0]:=by
      have:=(d2 h0).1
      rw [← hkr] at this
      exact List.length_eq_one_iff.1 this
     obtain ⟨ka,kc,e1,e2⟩:=m3.kid
     rw [m4] at e1
     cases e1
     rw [hk0] at y6 e2
     obtain ⟨g,rfl,ck⟩:=e2 0 k0 rfl
     have hfo:=hA.pz.ar.fo hA.ri.ti.kids
     simp only [List.length_singleton] at y6
     rw [h0] at hfc
     go_wp2_with (go_at_call 44;go_loud (refine hfc.mono ?_;clear hfc;rintro e w9 ⟨rfl,n9,rfl⟩))
     refine bodyPost_ret (v:=.tuple #[ptrOf ms k0,.int .i64 0,.int .i64 0]) (by simp [results,Tryz.f23,go_sem]) rfl ?_
     refine ⟨Go.Proofs.YtbaokjfhigjpdaaGreatDoorX.Below.drewN hbel,?_⟩
     rw [d1]
     exact ⟨ms,k0,rfl,by rw [hdr,← hk0];rfl,hfo.below (Go.Proofs.YtbaokjfhigjpdaaGreatDoorX.Below.drewN (Below.refl _ _)),fun m hm k hk=>hA.pz.ar.base k (.inl ⟨m,hm,hk⟩)⟩
    ·rw [if_pos (by simpa using h0)] at d1
     have hnb:(s.ferr != 0) = true:=by rw [bne_iff_ne];exact h0
     go_wp2_with (go_at_call 44;go_loud (refine hfc.mono ?_;clear hfc;rintro e w9 ⟨rfl,n9,rfl⟩))
     refine bodyPost_ret (v:=.tuple #[.pointer none,.int .i64 s.fat,.int .i64 s.ferr]) (by simp [results,Tryz.f23,go_sem]) rfl ?_
     refine ⟨Go.Proofs.YtbaokjfhigjpdaaGreatDoorX.Below.drewN hbel,?_⟩
     rw [d1]
   | some x=>
    obtain ⟨hI,hst⟩:=hA.live rfl
    obtain ⟨hq1,hq2,hq3⟩:=hA.apart
    obtain ⟨kk,_,hr⟩:=hA.res
    have hR:(allE bs L).1 = es ++ x :: (allL bs L kk t).1:=by rw [hr];rfl
    obtain ⟨nn',hn1,hn2⟩:=hA.ri.step hb hR
    have hmem:x ∈ (allE bs L).1:=by rw [hR];simp
    have hfew:=all_few bs L x hmem
    have hsh:=all_short bs L x hmem
    have hlen20:es.length + 1 ≤ 20000001:=by
     have:=all_len (L:=L) hb
     rw [hR] at this
     simp at this
     omega
    have hat64:x.attrs.length ≤ 10000:=Nat.le_trans hfew hL.attrs
    obtain ⟨av,rest,hec,hav,hax,hrest⟩:=hA.ev
    rw [show rest = [] from hrest] at hec
    subst hec
    have havo:=hA.avOff hav
    obtain ⟨Aa,ca,e9,_⟩:=hav.slice
    subst e9
    have hblk:=hA.blk
    have hql:q < wr.heap.size:=Go.Proofs.YtbaokjfhigjpdaaGreatDoorX.blk_lt hblk
    have z0:wr.cell? ⟨q,0,none⟩ = some (.int .i64 x.kind):=Go.Proofs.YtbaokjfhigjpdaaGreatDoorX.blk_cell hblk 0
    have z1:wr.cell? ⟨q,1,none⟩ = some (.int .i64 x.at_):=Go.Proofs.YtbaokjfhigjpdaaGreatDoorX.blk_cell hblk 1
    have z2:wr.cell? ⟨q,2,none⟩ = some (.string (strOfNums x.name)):=Go.Proofs.YtbaokjfhigjpdaaGreatDoorX.blk_cell hblk 2
    have z3:wr.cell? ⟨q,3,none⟩ = some (.string (strOfNums x.text)):=Go.Proofs.YtbaokjfhigjpdaaGreatDoorX.blk_cell hblk 3
    have z4:wr.cell? ⟨q,4,none⟩ = some (.slice Aa x.attrs.length ca):=Go.Proofs.YtbaokjfhigjpdaaGreatDoorX.blk_cell hblk 4
    have htop:=top_mem hA.ri.ti
    have hop:=hA.ri.ti.op
    have hLl:=hA.ri.ti.L
    have hol:=hA.ri.ol
    have hnl:=hA.ri.nl
    have htl:topS ts < ts.ns.length:=hA.ri.ti.lt _ (List.mem_of_getElem? htop)
    obtain ⟨go,co,hov,hco,hmx,yo⟩:=hA.pz.last hop htop
    obtain ⟨mu,du,Au,cu,hmu,hdu,hnu,hkv,y6,f6,y3,f3⟩:=hA.pz.node htl
    have hdk:=hA.ri.kl du (List.mem_of_getElem? hdu)
    have hpu:ptrOf ms (topS ts) = .pointer (some ⟨mu.b,0,none⟩):=by unfold ptrOf;rw [hmu];rfl
    rw [hpu] at yo
    subst hov
    have hmub:mu.b < wr.heap.size:=Go.Proofs.YtbaokjfhigjpdaaGreatDoorX.lt_of_cell y6
    have hqmu:q ≠ mu.b:=fun e=>hq3 (.inl ⟨mu,List.mem_of_getElem? hmu,.inl e⟩)
    have ek:((((nn.stk.length:Int) + 1) - 1).toNat) = nn.stk.length:=by omega
    have ek2:((nn.stk.length + 1:Nat):Int) = (nn.stk.length:Int) + 1:=by omega
    have hsw:=hA.pz.below.size
    generalize hu:topS ts = u at *
    by_cases k3:x.kind = 3
    · have hev:evS ts x = .ok ⟨kidS (ts.ns ++ [⟨⟨#[]⟩,⟨#[]⟩,x.at_,0,[],[],[],strOfNums x.text⟩]) u ts.ns.length,ts.op,ts.L⟩:=by
        unfold evS
        rw [if_neg (by omega),if_pos k3,hu]
      rw [k3] at z0
      have hdk8:du.kids.length ≤ 100000000:=by omega
      have hkids:wr.ownsRow 0 27 1 (.slice Au du.kids.length cu) du.kids.length (ptrs ms du.kids):=hkv ▸ hnu.kids
      have hbt:Below wr.heap.size wr (((wr.alloc (nodeO (.slice none 0 0) (.slice none 0 0) ⟨⟨#[]⟩,⟨#[]⟩,x.at_,0,[],[],[],strOfNums x.text⟩)).alloc (oneO wr.heap.size)).drew):=(((Below.refl _ wr).alloc (Nat.le_refl _) _).alloc (by simp) _).drew
      have hkmu:(Value.slice Au du.kids.length cu).ownBlock ≠ some mu.b:=by rw [← hkv];exact (hnu.apart hnu).2.2.1
      have hkq:(Value.slice Au du.kids.length cu).ownBlock ≠ some q:=fun e=>hq3 (.inl ⟨mu,List.mem_of_getElem? hmu,.inr (.inr (.inr (by rw [hkv];exact e)))⟩)
      go_wp2
      go_region_law (
        (refine step_kids (by rfl) _ _ (by rfl) wr hbt _ _ _ (by rfl) hkids (wr.heap.size + 1) (.pointer (some ⟨wr.heap.size,0,none⟩)) (by rfl) (two_new wr _ _) (by rfl) hdk8 ?_
         intro g9 cap9 w9 hown9 hg9 hat9 hk9
         have bmu:=hk9 mu.b hmub hkmu
         have y6':=(World.cell?_of_block bmu).trans y6
         have f6':=(World.frozen?_of_block bmu).trans f6))
      all_goals
       rw [← hkv] at hg9 hat9
       have h7:=hA.pz.newKid hmu hdu ⟨⟨#[]⟩,⟨#[]⟩,x.at_,0,[],[],[],strOfNums x.text⟩ rfl (Go.Proofs.YtbaokjfhigjpdaaGreatDoorX.RowAt.nil _ _ _) (Go.Proofs.YtbaokjfhigjpdaaGreatDoorX.RowAt.nil _ _ _) (fun k e=>by rcases e with e | e <;> simp [Value.ownBlock] at e) hown9 ⟨hg9.os,hg9.tape,hg9.output,hg9.size,hg9.block⟩ (by simpa using hat9)
       have hm7:=set_b hmu ⟨wr.heap.size,.slice none 0 0,.slice none 0 0,.slice none 0 0⟩ (.slice (some ⟨g9,0,none⟩) (du.kids.length + 1) cap9) hA.m0
       have hr7:=hA.ri.next hn1 hn2 hev hat64 hsh.2
       have bq7:=(Below.heap_setCell w9 ⟨mu.b,6,none⟩ (.slice (some ⟨g9,0,none⟩) (du.kids.length + 1) cap9) q hqmu).trans (hk9 q hql hkq)
       generalize w9.setCell ⟨mu.b,6,none⟩ (.slice (some ⟨g9,0,none⟩) (du.kids.length + 1) cap9) = w7 at *
       have y7z0:=(World.cell?_of_block bq7).trans z0
       have y7z1:=(World.cell?_of_block bq7).trans z1
       have y7z2:=(World.cell?_of_block bq7).trans z2
       have y7z3:=(World.cell?_of_block bq7).trans z3
       have y7z4:=(World.cell?_of_block bq7).trans z4
       have hb8:=(Below.refl w7.heap.size w7).alloc (Nat.le_refl _) (.cells #[.int .i64 3,.int .i64 x.at_,.string (strOfNums x.name),.string (strOfNums x.text),.slice Aa x.attrs.length ca] 95)
       have hS8:=(h7.grow hb8).ps
       have hbl8:=heap_alloc_new w7 (.cells #[.int .i64 3,.int .i64 x.at_,.string (strOfNums x.name),.string (strOfNums x.text),.slice Aa x.attrs.length ca] 95)
       have hx7:¬ PX p T w7.heap.size:=fun hx=>Nat.lt_irrefl _ (h7.ps.xlt _ hx)
       go_wp2_with (first
        | (
         go_at_call 40
         go_loud (
          refine (nextE_c hS8 hL hI hA.sim).mono ?_
          rintro e wN ⟨s9,T9,hS9,hF9,hsim9,hout9⟩
          obtain ⟨k9,a9,n9,t9,A9,m9,c9,rfl,hev9⟩:=hout9.cells
          have hbl9:=(hF9.block w7.heap.size (by simp) hx7).trans hbl8
          have v0:=Go.Proofs.YtbaokjfhigjpdaaGreatDoorX.blk_cell hbl9 0
          have v1:=Go.Proofs.YtbaokjfhigjpdaaGreatDoorX.blk_cell hbl9 1
          have v2:=Go.Proofs.YtbaokjfhigjpdaaGreatDoorX.blk_cell hbl9 2
          have v3:=Go.Proofs.YtbaokjfhigjpdaaGreatDoorX.blk_cell hbl9 3
          have v4:=Go.Proofs.YtbaokjfhigjpdaaGreatDoorX.blk_cell hbl9 4
          have g0:=Go.Proofs.YtbaokjfhigjpdaaGreatDoorX.blk_frz hbl9 0
          have g1:=Go.Proofs.YtbaokjfhigjpdaaGreatDoorX.blk_frz hbl9 1
          have g2:=Go.Proofs.YtbaokjfhigjpdaaGreatDoorX.blk_frz hbl9 2
          have g3:=Go.Proofs.YtbaokjfhigjpdaaGreatDoorX.blk_frz hbl9 3
          have g4:=Go.Proofs.YtbaokjfhigjpdaaGreatDoorX.blk_frz hbl9 4)))
       obtain ⟨r1,r2⟩:=pl_round (ts':=⟨kidS (ts.ns ++ [⟨⟨#[]⟩,⟨#[]⟩,x.at_,0,[],[],[],strOfNums x.text⟩]) u ts.ns.length,ts.op,ts.L⟩) hA h7 hr7 hm7 ⟨_,rfl⟩ rfl hF9 hS9 hsim9 hev9
       exact ⟨⟨_,_,_,_,_,_,_,_,_,_,_,rfl,rfl,r1⟩,r2⟩
    by_cases k1:x.kind = 1
    · have hopen:=Go.Proofs.YtbaokjfhigjpdaaGreatDoorN.open_c hA.pz.sc (by omega) 1 x.at_ (strOfNums x.name) (strOfNums x.text) (.slice Aa x.attrs.length ca) (evA x) (by rw [size_str];have:=hsh.1;omega) (xattrs_of hav) (by simp [evA];omega) (fun y hy=>by
        unfold evA at hy
        obtain ⟨a,ha,rfl⟩:=List.mem_map.1 hy
        have:=hsh.2 a ha
        simp only
        rw [size_str]
        omega) havo
      rw [k1] at z0
      obtain ⟨⟨r,L'⟩,hor⟩:∃ r,openS ts.L (strOfNums x.name) x.at_ (evA x) = r:=⟨_,rfl⟩
      rw [hor] at hopen
      cases r with
      | error f=>
       have hev:evS ts x = .error (f.1,2):=by
        unfold evS
        rw [if_pos k1,hor]
       have hbad:=hA.ri.bad hR hev
       have her:=openS_err hor
       have hnb:(f.2 != 0) = true:=by rw [bne_iff_ne];exact her
       obtain ⟨fp,fe⟩:=f
       simp only at her hnb hbad
       go_wp2_with (first
        | (
         go_at_call 41
         go_loud (
          refine hopen.mono ?_
          clear hopen
          rintro e w5 ⟨sv',hS5,hF5,hl5,he5⟩
          have he5:e = .returned (.tuple #[.agg #[.string ⟨#[]⟩,.string ⟨#[]⟩,.slice none 0 0,.int .i64 0],.int .i64 fp,.int .i64 fe]):=he5
          subst he5
          have hb5:=hF5.below hA.pz.qB hA.pz.sB hA.pz.below hsw)))
       refine bodyPost_ret (v:=.tuple #[.pointer none,.int .i64 fp,.int .i64 2]) (by simp [results,Tryz.f23,go_sem]) rfl ?_
       refine ⟨hb5.alloc hb5.size _,?_⟩
       rw [hbad]
      | ok r=>
       have hev:evS ts x = .ok ⟨kidS (ts.ns ++ [⟨r.1.1,r.1.2,x.at_,0,r.2,bindsL L',[],⟨#[]⟩⟩]) u ts.ns.length,ts.op ++ [ts.ns.length],L'⟩:=by
        unfold evS
        rw [if_pos k1,hor,hu]
       have hr7:=hA.ri.next hn1 hn2 hev hat64 hsh.2
       have hL':=openS_len hor
       have hsm:=small_of hr7.sm hlen (by show L'.length ≤ _;omega)
       have hmud:=hA.pz.dst mu.b (.inl ⟨mu,List.mem_of_getElem? hmu,.inl rfl⟩)
       have hkids:wr.ownsRow 0 27 1 (.slice Au du.kids.length cu) du.kids.length (ptrs ms du.kids):=hkv ▸ hnu.kids
       have hkmu:(Value.slice Au du.kids.length cu).ownBlock ≠ some mu.b:=by rw [← hkv];exact (hnu.apart hnu).2.2.1
       have hkq:(Value.slice Au du.kids.length cu).ownBlock ≠ some q:=fun e=>hq3 (.inl ⟨mu,List.mem_of_getElem? hmu,.inr (.inr (.inr (by rw [hkv];exact e)))⟩)
       have hoq:(Value.slice (some ⟨go,0,none⟩) (nn.stk.length + 1) co).ownBlock ≠ some q:=fun e=>hq3 (.inr e)
       have hdk8:du.kids.length ≤ 100000000:=by omega
       obtain ⟨⟨r1,r2⟩,l⟩:=r
       simp only at hev hr7
       go_wp2_with (first
        | (
         go_at_call 41
         go_loud (
          refine hopen.mono ?_
          clear hopen
          rintro e w5 ⟨sv',hS5,hF5,hl5,sl,rfl,hrow5,hdis5⟩
          obtain ⟨sla,slc,esl⟩:=row_lit hrow5
          subst esl
          have hS5:Sc w5 qs sv' L':=hS5
          have h5:=hA.pz.scope hS5 hF5 hl5 (fun k hk=>by
           obtain ⟨c',hc',hne⟩:=hS5.svty hk
           obtain ⟨b,hb'⟩:=hne (fun e=>by rw [e] at hL';simp at hL')
           exact ⟨b,(Go.Proofs.YtbaokjfhigjpdaaGreatDoorX.blk_cell hc' 0).trans hb'⟩)
          have bq5:=hF5.block q hql hq1 hq2
          have hb6:=(Below.refl w5.heap.size w5).alloc (Nat.le_refl _) (.cells #[.string r1,.string r2,.slice sla l.length slc,.int .i64 x.at_] 99)
          have h6:=h5.grow hb6
          have bt6:=heap_alloc_new w5 (.cells #[.string r1,.string r2,.slice sla l.length slc,.int .i64 x.at_] 99)
          have bq6:=(hb6.block q (Nat.lt_of_lt_of_le hql hF5.size)).trans bq5
          have y6z1:=(World.cell?_of_block bq6).trans z1
          have hbin:=fun W (hW:Below (w5.alloc (.cells #[.string r1,.string r2,.slice sla l.length slc,.int .i64 x.at_] 99)).heap.size (w5.alloc (.cells #[.string r1,.string r2,.slice sla l.length slc,.int .i64 x.at_] 99)) W)=>Go.Proofs.YtbaokjfhigjpdaaGreatDoorN.binds_all (h6.sc.below hW) (by omega) hsm)))
       have t0:=Go.Proofs.YtbaokjfhigjpdaaGreatDoorX.blk_cell bt6 0
       have t1:=Go.Proofs.YtbaokjfhigjpdaaGreatDoorX.blk_cell bt6 1
       have t2:=Go.Proofs.YtbaokjfhigjpdaaGreatDoorX.blk_cell bt6 2
       generalize hw6:w5.alloc (.cells #[.string r1,.string r2,.slice sla l.length slc,.int .i64 x.at_] 99) = w6 at *
       go_region_held3 (fun W=>W.cell? ⟨w5.heap.size,0,none⟩ = some (.string r1) ∧ W.cell? ⟨w5.heap.size,1,none⟩ = some (.string r2) ∧ W.cell? ⟨w5.heap.size,2,none⟩ = some (.slice sla l.length slc) ∧ W.cell? ⟨q,1,none⟩ = some (.int .i64 x.at_))
         (first
          | exact ⟨t0,t1,t2,y6z1⟩
          | exact ⟨t0b,t1b,t2b,y6z1b⟩
          | go_keep)
         (first
          | (
           go_at_call 42
           refine (hbin _ (by first | exact Below.refl _ _ | exact (Below.refl _ _).drew)).mono ?_
           rintro e wB ⟨vb,rfl,hrowB,hbB⟩
           obtain ⟨sba,sbc,esb⟩:=row_lit hrowB
           subst esb
           have t0b:=(World.cell?_of_block (hbB.block w5.heap.size (Go.Proofs.YtbaokjfhigjpdaaGreatDoorX.lt_of_cell t0))).trans t0
           have t1b:=(World.cell?_of_block (hbB.block w5.heap.size (Go.Proofs.YtbaokjfhigjpdaaGreatDoorX.lt_of_cell t0))).trans t1
           have t2b:=(World.cell?_of_block (hbB.block w5.heap.size (Go.Proofs.YtbaokjfhigjpdaaGreatDoorX.lt_of_cell t0))).trans t2
           have y6z1b:=(World.cell?_of_block (hbB.block q (Go.Proofs.YtbaokjfhigjpdaaGreatDoorX.lt_of_cell y6z1))).trans y6z1))
       have hbB':Below w6.heap.size w6 wB:=⟨hbB.os,hbB.tape,hbB.output,hbB.size,hbB.block⟩
       have hB:=h6.grow hbB'
       have hnuB:=hB.ar.node u mu du hmu hdu
       have y6B:wB.cell? ⟨mu.b,6,none⟩ = some (.slice Au du.kids.length cu):=(Go.Proofs.YtbaokjfhigjpdaaGreatDoorX.blk_cell hnuB.blk 6).trans (congrArg some hkv)
       have f6B:wB.frozen? ⟨mu.b,6,none⟩ = false:=Go.Proofs.YtbaokjfhigjpdaaGreatDoorX.blk_frz hnuB.blk 6
       have hkidsB:wB.ownsRow 0 27 1 (.slice Au du.kids.length cu) du.kids.length (ptrs ms du.kids):=hkv ▸ hnuB.kids
       have hqB:q < wB.heap.size:=Go.Proofs.YtbaokjfhigjpdaaGreatDoorX.lt_of_cell y6z1b
       have hmB:mu.b < wB.heap.size:=Go.Proofs.YtbaokjfhigjpdaaGreatDoorX.lt_of_cell y6B
       have bqB:=(hbB'.block q (Go.Proofs.YtbaokjfhigjpdaaGreatDoorX.lt_of_cell y6z1)).trans bq6
       have hs56:=hb6.size
       have hs6B:=hbB'.size
       have hs5:=hF5.size
       have hatR:RowAt wB 70 4 (.slice sla l.length slc) l.length (flatN l):=(Go.Proofs.YtbaokjfhigjpdaaGreatDoorX.RowAt.of_own hrow5).move fun k hk=>by
        have:=(hrow5.lt k hk).2
        exact (hbB'.block k (by omega)).trans (hb6.block k this)
       have hbiR:RowAt wB 171 2 (.slice sba (bindsL L').length sbc) (bindsL L').length (flatB (bindsL L')):=Go.Proofs.YtbaokjfhigjpdaaGreatDoorX.RowAt.of_own hrowB
       have hfa:∀ k,((Value.slice sla l.length slc).ownBlock = some k ∨ (Value.slice sba (bindsL L').length sbc).ownBlock = some k) → ¬ TX ms (.slice (some ⟨go,0,none⟩) (nn.stk.length + 1) co) k ∧ ¬ PX p T k ∧ k ≠ qs ∧ sv'.ownBlock ≠ some k ∧ w.heap.size ≤ k:=by
        rintro k (hk | hk)
        ·have h1:=hrow5.lt k hk
         have h2:=hdis5 k hk
         exact ⟨fun h=>by have:=hA.pz.ar.below k h;omega,fun h=>by have:=hA.pz.ps.xlt k h;omega,h2.2,h2.1,by omega⟩
        ·have h1:=(hrowB.lt k hk).1
         have h2:w6.heap.size ≤ k:=h1
         exact ⟨fun h=>by have:=h5.ar.below k h;omega,fun h=>by have:=h5.ps.xlt k h;omega,fun h=>by have:=h5.sc.lt;omega,fun h=>by have:=h5.sc.svlt k h;omega,by omega⟩
       have hbt:Below wB.heap.size wB ((wB.alloc (nodeO (.slice sla l.length slc) (.slice sba (bindsL L').length sbc) ⟨r1,r2,x.at_,0,l,bindsL L',[],⟨#[]⟩⟩)).alloc (oneO wB.heap.size)):=((Below.refl _ wB).alloc (Nat.le_refl _) _).alloc (by simp) _
       have hus:u < ms.length:=(List.getElem?_eq_some_iff.1 hmu).1
       have hlenm:=hA.pz.ar.len
       have t1:=True.intro
       go_wp2_with (first
        | (
         have _t:=t1
         at_builtin
         go_loud (
          clear _t t1
          refine list_kids (by rfl) _ _ (by rfl) wB hbt _ _ _ (by rfl) hkidsB (wB.heap.size + 1) (.pointer (some ⟨wB.heap.size,0,none⟩)) (by rfl) (two_new wB _ _) (by rfl) hdk8 ?_
          intro g9 cap9 w9 hown9 hg9 hat9 hk9
          have y6':=(World.cell?_of_block (hk9 mu.b hmB hkmu)).trans y6B
          have f6':=(World.frozen?_of_block (hk9 mu.b hmB hkmu)).trans f6B
          have h10:=hB.newKid hmu hdu ⟨r1,r2,x.at_,0,l,bindsL L',[],⟨#[]⟩⟩ rfl hatR hbiR hfa hown9 (by rw [hkv];exact hg9) (by rw [hkv];simpa using hat9)
          have bq10:=(Below.heap_setCell w9 ⟨mu.b,6,none⟩ (.slice (some ⟨g9,0,none⟩) (du.kids.length + 1) cap9) q hqmu).trans ((hk9 q hqB hkq).trans bqB)
          have hopn10:=h10.ar.opn
          rw [hop] at hopn10
          have hbt2:=(Below.refl _ (w9.setCell ⟨mu.b,6,none⟩ (.slice (some ⟨g9,0,none⟩) (du.kids.length + 1) cap9))).alloc (Nat.le_refl _) (oneO wB.heap.size)
          have hs10:(w9.setCell ⟨mu.b,6,none⟩ (.slice (some ⟨g9,0,none⟩) (du.kids.length + 1) cap9)).heap.size = w9.heap.size:=by simp [World.setCell]
          have hq10:q < (w9.setCell ⟨mu.b,6,none⟩ (.slice (some ⟨g9,0,none⟩) (du.kids.length + 1) cap9)).heap.size:=by rw [hs10];have:=hg9.size;simp at this;omega
          have t2:=True.intro))
        | (
         have _t:=t2
         at_builtin
         go_loud (
          clear _t t2
          refine list_kids (by rfl) _ _ (by rfl) _ hbt2 _ _ _ (by rfl) hopn10 w9.heap.size (.pointer (some ⟨wB.heap.size,0,none⟩)) (by rfl) (one_new hs10 _) (by rfl) (by omega) ?_
          intro g11 cap11 w7 hown11 hg11 hat11 hk11
          have h7:=h10.push (kid_get hus ⟨wB.heap.size,.slice sla l.length slc,.slice sba (bindsL L').length sbc,.slice none 0 0⟩ _ (show ts.ns.length = _ by rw [hlenm])) (by rw [hop];exact hown11) hg11 (hat11.elim (fun e=>.inl (by rw [e];rfl)) (fun e=>.inr (by rw [← e];rfl)))
          have bq7:=(hk11 q hq10 hoq).trans bq10
          have hm7:=set_b hmu ⟨wB.heap.size,.slice sla l.length slc,.slice sba (bindsL L').length sbc,.slice none 0 0⟩ (.slice (some ⟨g9,0,none⟩) (du.kids.length + 1) cap9) hA.m0
          clear bq10 hopn10 hs10
          have y7z0:=(World.cell?_of_block bq7).trans z0
          have y7z1:=(World.cell?_of_block bq7).trans z1
          have y7z2:=(World.cell?_of_block bq7).trans z2
          have y7z3:=(World.cell?_of_block bq7).trans z3
          have y7z4:=(World.cell?_of_block bq7).trans z4
          have hb8:=(Below.refl w7.heap.size w7).alloc (Nat.le_refl _) (.cells #[.int .i64 1,.int .i64 x.at_,.string (strOfNums x.name),.string (strOfNums x.text),.slice Aa x.attrs.length ca] 95)
          have hS8:=(h7.grow hb8).ps
          have hbl8:=heap_alloc_new w7 (.cells #[.int .i64 1,.int .i64 x.at_,.string (strOfNums x.name),.string (strOfNums x.text),.slice Aa x.attrs.length ca] 95)
          have hx7:¬ PX p T w7.heap.size:=fun hx=>Nat.lt_irrefl _ (h7.ps.xlt _ hx)
          have t3:=True.intro))
        | (
         have _t:=t3
         go_at_call 40
         go_loud (
          clear _t t3
          refine (nextE_c hS8 hL hI hA.sim).mono ?_
          rintro e wN ⟨s9,T9,hS9,hF9,hsim9,hout9⟩
          obtain ⟨k9,a9,n9,t9,A9,m9,c9,rfl,hev9⟩:=hout9.cells
          have hbl9:=(hF9.block w7.heap.size (by simp) hx7).trans hbl8
          have v0:=Go.Proofs.YtbaokjfhigjpdaaGreatDoorX.blk_cell hbl9 0
          have v1:=Go.Proofs.YtbaokjfhigjpdaaGreatDoorX.blk_cell hbl9 1
          have v2:=Go.Proofs.YtbaokjfhigjpdaaGreatDoorX.blk_cell hbl9 2
          have v3:=Go.Proofs.YtbaokjfhigjpdaaGreatDoorX.blk_cell hbl9 3
          have v4:=Go.Proofs.YtbaokjfhigjpdaaGreatDoorX.blk_cell hbl9 4
          have g0:=Go.Proofs.YtbaokjfhigjpdaaGreatDoorX.blk_frz hbl9 0
          have g1:=Go.Proofs.YtbaokjfhigjpdaaGreatDoorX.blk_frz hbl9 1
          have g2:=Go.Proofs.YtbaokjfhigjpdaaGreatDoorX.blk_frz hbl9 2
          have g3:=Go.Proofs.YtbaokjfhigjpdaaGreatDoorX.blk_frz hbl9 3
          have g4:=Go.Proofs.YtbaokjfhigjpdaaGreatDoorX.blk_frz hbl9 4)))
       obtain ⟨r1,r2⟩:=pl_round (ts':=⟨kidS (ts.ns ++ [⟨r1,r2,x.at_,0,l,bindsL L',[],⟨#[]⟩⟩]) u ts.ns.length,ts.op ++ [ts.ns.length],L'⟩) hA h7 hr7 hm7 ⟨_,rfl⟩ rfl hF9 hS9 hsim9 hev9
       exact ⟨⟨_,_,_,_,_,_,_,_,_,_,_,rfl,rfl,r1⟩,r2⟩
    ·obtain ⟨hk2,hstk⟩:=nest_end hn1 k1 k3
     have hev:evS ts x = .ok ⟨endN ts.ns u x.at_,ts.op.dropLast,ts.L.dropLast⟩:=by
      unfold evS
      rw [if_neg k1,if_neg k3,hu]
     rw [hk2] at z0
     have hsp:=List.length_pos_iff.2 hstk
     have hLne:ts.L ≠ []:=fun e=>by rw [e] at hLl;simp at hLl;omega
     have he1:=hA.pz.ended hmu hdu x.at_
     have hcl:=close_set (w:=wr.setCell ⟨mu.b,3,none⟩ (.int .i64 x.at_)) he1.sc (by omega) hLne
     have hsv0:=he1.s0
     have hen:endN ts.ns u x.at_ = ts.ns.set u { du with en:=x.at_ }:=by unfold endN;rw [hdu]
     rw [← hen] at he1
     go_wp2_with (first
      | (
       go_at_call 43
       go_loud (
        refine hcl.mono ?_
        clear hcl
        rintro e w7 ⟨rfl,sv',hS5,hsv5,hw5⟩
        have hk5:∀ k,k ≠ qs → w7.heap[k]? = (wr.setCell ⟨mu.b,3,none⟩ (.int .i64 x.at_)).heap[k]?:=fun k hk=>by rw [hw5];exact Below.heap_setCell _ ⟨qs,0,none⟩ _ k hk
        have hF5:Fr (wr.setCell ⟨mu.b,3,none⟩ (.int .i64 x.at_)) w7 qs sv:=⟨by rw [hw5];rfl,by rw [hw5];rfl,by rw [hw5];rfl,by rw [hw5];simp [World.setCell],fun k _ hk _=>hk5 k hk⟩
        have h5:=he1.scope hS5 hF5 (.inl hsv5) (fun k hk=>by
         rw [hsv5] at hk
         obtain ⟨b,hb'⟩:=hsv0 k hk
         exact ⟨b,(World.cell?_of_block (hk5 k (fun e=>he1.sc.apart (by rw [hk,e])))).trans hb'⟩)
        clear hw5
        have h7:=h5.pop hop hsp
        have bq7:=(hk5 q hq1).trans (Below.heap_setCell wr ⟨mu.b,3,none⟩ (.int .i64 x.at_) q hqmu)
        have hm7:=hA.m0
        have hr7:=hA.ri.next hn1 hn2 hev hat64 hsh.2
        have y7z0:=(World.cell?_of_block bq7).trans z0
        have y7z1:=(World.cell?_of_block bq7).trans z1
        have y7z2:=(World.cell?_of_block bq7).trans z2
        have y7z3:=(World.cell?_of_block bq7).trans z3
        have y7z4:=(World.cell?_of_block bq7).trans z4
        have hb8:=(Below.refl w7.heap.size w7).alloc (Nat.le_refl _) (.cells #[.int .i64 2,.int .i64 x.at_,.string (strOfNums x.name),.string (strOfNums x.text),.slice Aa x.attrs.length ca] 95)
        have hS8:=(h7.grow hb8).ps
        have hbl8:=heap_alloc_new w7 (.cells #[.int .i64 2,.int .i64 x.at_,.string (strOfNums x.name),.string (strOfNums x.text),.slice Aa x.attrs.length ca] 95)
        have hx7:¬ PX p T w7.heap.size:=fun hx=>Nat.lt_irrefl _ (h7.ps.xlt _ hx)))
      | (
       go_at_call 40
       go_loud (
        refine (nextE_c hS8 hL hI hA.sim).mono ?_
        rintro e wN ⟨s9,T9,hS9,hF9,hsim9,hout9⟩
        obtain ⟨k9,a9,n9,t9,A9,m9,c9,rfl,hev9⟩:=hout9.cells
        have hbl9:=(hF9.block w7.heap.size (by simp) hx7).trans hbl8
        have v0:=Go.Proofs.YtbaokjfhigjpdaaGreatDoorX.blk_cell hbl9 0
        have v1:=Go.Proofs.YtbaokjfhigjpdaaGreatDoorX.blk_cell hbl9 1
        have v2:=Go.Proofs.YtbaokjfhigjpdaaGreatDoorX.blk_cell hbl9 2
        have v3:=Go.Proofs.YtbaokjfhigjpdaaGreatDoorX.blk_cell hbl9 3
        have v4:=Go.Proofs.YtbaokjfhigjpdaaGreatDoorX.blk_cell hbl9 4
        have g0:=Go.Proofs.YtbaokjfhigjpdaaGreatDoorX.blk_frz hbl9 0
        have g1:=Go.Proofs.YtbaokjfhigjpdaaGreatDoorX.blk_frz hbl9 1
        have g2:=Go.Proofs.YtbaokjfhigjpdaaGreatDoorX.blk_frz hbl9 2
        have g3:=Go.Proofs.YtbaokjfhigjpdaaGreatDoorX.blk_frz hbl9 3
        have g4:=Go.Proofs.YtbaokjfhigjpdaaGreatDoorX.blk_frz hbl9 4)))
     obtain ⟨r1,r2⟩:=pl_round (ts':=⟨endN ts.ns u x.at_,ts.op.dropLast,ts.L.dropLast⟩) hA h7 hr7 hm7 ⟨_,rfl⟩ rfl hF9 hS9 hsim9 hev9
     exact ⟨⟨_,_,_,_,_,_,_,_,_,_,_,rfl,rfl,r1⟩,r2⟩
end Go.Proofs.YtbaokjfhigjpdaaGreatDoorT
end
section
set_option linter.unusedVariables false
namespace Go.Proofs.YtbaokjfhigjpdaaGreatDoorT
open Go.RowKit Go.Shelf
open Go.Proofs.YtbaokjfhigjpdaaGreatDoorN (NA flatN flatB)
open Go.Proofs.YtbaokjfhigjpdaaGreatDoorX (RowAt blk_lt blk_cell lt_of_cell ownsRow_of_blocks)
def elemB (d:ND):Bool:=!d.lc.toList.isEmpty
def elemN (ns:List ND) (i:Nat):Bool:=((ns[i]?).map elemB).getD false
def elemsS (ns:List ND) (i:Nat):List Nat:=(kidsOf ns i).filter (elemN ns)
set_option maxRecDepth 100000 in
set_option maxHeartbeats 1000000 in
theorem elem_c {w:World} {b:Nat} {lc:ByteArray} (h:w.cell? ⟨b,1,none⟩ = some (.string lc)):Calls Tryz.prog 37 #[.pointer (some ⟨b,0,none⟩)] w fun e W=>e = .returned (.bool (!lc.toList.isEmpty)) ∧ W = w:=by
 go_enter Tryz.func37,Tryz.ntmps37
 go_wp2
 go_ret
 exact ⟨rfl,rfl⟩
section
variable {w:World} {n0:Nat} {ms:List NP} {ns:List ND}
theorem Fo.elem (h:Fo w n0 ms ns) {i:Nat} (hi:i < ns.length):Calls Tryz.prog 37 #[ptrOf ms i] w fun e W=>e = .returned (.bool (elemN ns i)) ∧ W = w:=by
 obtain ⟨m,d,h1,h2,h3,h4⟩:=h.get hi
 rw [h4]
 have:elemN ns i = !d.lc.toList.isEmpty:=by unfold elemN elemB;rw [h2];rfl
 rw [this]
 exact elem_c (blk_cell h3.blk 1)
set_option maxRecDepth 100000 in
set_option maxHeartbeats 2000000 in
theorem elems_c (h:Fo w n0 ms ns) (hn:n0 ≤ w.heap.size) {i:Nat} (hi:i < ns.length) (hk:(kidsOf ns i).length ≤ 1000000000) :
    Calls Tryz.prog 19 #[ptrOf ms i] w fun e W=>∃ v,e = .returned v ∧ W.ownsRow w.heap.size 27 1 v (elemsS ns i).length (ptrs ms (elemsS ns i)) ∧ Below w.heap.size w W:=by
  obtain ⟨m,d,h1,h2,h3,h4⟩:=h.get hi
  obtain ⟨i0,hi0,hz0,hz1,hz2⟩:=info_parts infoN
  have hinfo:=infoN
  rw [h4]
  have hkd:=kidsOf_eq h2
  unfold elemsS
  rw [hkd] at hk ⊢
  obtain ⟨ka,kc,e1,e2⟩:=h3.kid
  have c6:w.cell? ⟨m.b,6,none⟩ = some (.slice ka d.kids.length kc):=(blk_cell h3.blk 6).trans (congrArg some e1)
  go_enter Tryz.func19,Tryz.ntmps19
  go_wp2
  go_loopw [3,11] (fun ov iv wr=>∃ k:Nat,k ≤ d.kids.length ∧ iv = .int .i64 k ∧ wr.ownsRow w.heap.size 27 1 ov ((d.kids.take k).filter (elemN ns)).length (ptrs ms ((d.kids.take k).filter (elemN ns))) ∧ Below w.heap.size w wr) (fun _ iv _=>d.kids.length - (intOf iv).toNat)
  case atStart=>exact ⟨0,Nat.zero_le _,rfl,World.ownsRow_nil _ _ _ _,Below.refl _ _⟩
  case round=>
   rename World=>wr
   obtain ⟨k,hkl,rfl,hown,hbr⟩:=hrel
   obtain ⟨oa,oc,eov⟩:=row_lit hown
   subst eov
   by_cases hlt:k < d.kids.length
   ·have hg:=List.getElem?_eq_getElem hlt
    have htk:d.kids.take (k + 1) = d.kids.take k ++ [d.kids[k]]:=by rw [List.take_add_one,hg];rfl
    have hj:=h.up i d h2 d.kids[k] (List.getElem_mem hlt)
    obtain ⟨g,rfl,ck0⟩:=e2 k d.kids[k] hg
    have ck:=(World.cell?_of_block (hbr.block g (lt_of_cell ck0))).trans ck0
    have hel:=(h.below (hbr.mono hn)).elem hj.2
    generalize d.kids[k] = j at *
    obtain ⟨mj,dj,j1,j2,j3,j4⟩:=h.get hj.2
    rw [j4] at ck hel
    have hfl:((d.kids.take k).filter (elemN ns)).length ≤ k:=Nat.le_trans (List.length_filter_le _ _) (by rw [List.length_take];omega)
    have hpt:ptrs ms [j] = [.pointer (some ⟨mj.b,0,none⟩)]:=by unfold ptrs;simp [j4]
    have howna:∀ o,(wr.alloc o).ownsRow w.heap.size 27 1 (.slice oa ((d.kids.take k).filter (elemN ns)).length oc) ((d.kids.take k).filter (elemN ns)).length (ptrs ms ((d.kids.take k).filter (elemN ns))):=fun o=>ownsRow_of_blocks hown fun k hk=>Below.heap_alloc _ _ _ (hown.lt k hk).2
    cases hb:elemN ns j with
    | false=>
     rw [hb] at hel
     go_wp2_with (go_at_call 37;go_loud (refine hel.mono ?_;rintro e w5 ⟨rfl,hw5⟩;subst w5))
     exact ⟨⟨k + 1,by omega,by simp,by rw [htk,List.filter_append];simpa [hb] using hown,hbr⟩,by simp [intOf];omega⟩
    | true=>
     rw [hb] at hel
     have hsz:=hbr.size
     go_wp2_with (first
      | (go_at_call 37;go_loud (refine hel.mono ?_;clear hel;rintro e w5 ⟨rfl,hw5⟩;subst w5))
      | (
       at_builtin
       go_loud (
        refine append_own (by rfl) _ _ 49 27 (.pointer none) 1 8 (by rfl) Tryz.underlying49 hinfo (by rfl) (by decide) w.heap.size _ ((d.kids.take k).filter (elemN ns)).length (ptrs ms ((d.kids.take k).filter (elemN ns))) (by rfl) (howna _) ⟨_,0,none⟩ 1 1 [.pointer (some ⟨mj.b,0,none⟩)] (by rfl) (by rfl) (cell_one_new _ _ _) (by simp [Value.oneCell']) (by unfold maxLen;omega) (by omega) (by simp;omega) ?_
        intro v7 w7 hown7 hg7 hat7)))
     refine ⟨⟨k + 1,by omega,by simp,?_,?_⟩,by simp [intOf];omega⟩
     ·rw [htk,List.filter_append]
      have:ptrs ms ((d.kids.take k).filter (elemN ns) ++ [j].filter (elemN ns)) = ptrs ms ((d.kids.take k).filter (elemN ns)) ++ [.pointer (some ⟨mj.b,0,none⟩)]:=by
       rw [← hpt]
       unfold ptrs
       rw [List.map_append]
       simp [hb]
      rw [this]
      simpa [hb] using hown7
     ·refine hbr.trans ?_
      have hba:=(Below.refl w.heap.size wr).alloc hsz (.cells #[.pointer (some ⟨mj.b,0,none⟩)] 27)
      exact ⟨hg7.os.trans hba.os,hg7.tape.trans hba.tape,hg7.output.trans hba.output,Nat.le_trans hba.size hg7.size,fun b hb'=>(hg7.block b (by simp;omega) (fun e=>by have:=(hown.lt b e.symm).1;omega)).trans (hba.block b hb')⟩
   ·obtain rfl:k = d.kids.length:=by omega
    simp only [List.take_length] at hown ⊢
    go_wp2
    go_ret
    exact ⟨_,rfl,hown,hbr⟩
end
def depF (ns:List ND):Nat → Nat → Nat
  | 0,_=>0
  | f + 1,i=>if elemN ns i then ((kidsOf ns i).map (depF ns f)).foldl max 0 + 1 else 0
end Go.Proofs.YtbaokjfhigjpdaaGreatDoorT
end
section
set_option linter.unusedVariables false
namespace Go.Proofs.YtbaokjfhigjpdaaGreatDoorT
open Go.RowKit Go.Shelf
open Go.Proofs.YtbaokjfhigjpdaaGreatDoorN (NA flatN flatB)
open Go.Proofs.YtbaokjfhigjpdaaGreatDoorX (RowAt blk_lt blk_cell lt_of_cell ownsRow_of_blocks)
structure PC where
  up:Int
  text:ByteArray
  nm:ByteArray × ByteArray
  attrs:List NA
def NAttrs (w:World) (av:Value) (xs:List NA):Prop :=
  ∃ A c,av = .slice A xs.length c ∧ ∀ (i:Nat) (h:i < xs.length),∃ q,A = some q ∧ w.cell? (q.add (i * 4)) = some (.string xs[i].1.1) ∧ w.cell? ⟨(q.add (i * 4)).block,(q.add (i * 4)).off + 1,none⟩ = some (.string xs[i].1.2) ∧ w.cell? ⟨(q.add (i * 4)).block,(q.add (i * 4)).off + 2,none⟩ = some (.string xs[i].2.1) ∧ w.cell? ⟨(q.add (i * 4)).block,(q.add (i * 4)).off + 3,none⟩ = some (.int .i64 xs[i].2.2)
def PcAt (w:World) (a:Option Addr) (l:List PC):Prop :=
  ∀ (i:Nat) (h:i < l.length),∃ q av,a = some q ∧ w.cell? (q.add (i * 5)) = some (.int .i64 l[i].up) ∧ w.cell? ⟨(q.add (i * 5)).block,(q.add (i * 5)).off + 1,none⟩ = some (.string l[i].text) ∧ w.cell? ⟨(q.add (i * 5)).block,(q.add (i * 5)).off + 2,none⟩ = some (.string l[i].nm.1) ∧ w.cell? ⟨(q.add (i * 5)).block,(q.add (i * 5)).off + 3,none⟩ = some (.string l[i].nm.2) ∧ w.cell? ⟨(q.add (i * 5)).block,(q.add (i * 5)).off + 4,none⟩ = some av ∧ NAttrs w av l[i].attrs
def PcBig (l:List PC):Prop:=∀ x ∈ l,x.text.size ≤ 140737488355328 ∧ x.nm.1.size ≤ 140737488355328 ∧ x.nm.2.size ≤ 140737488355328 ∧ x.attrs.length ≤ 140737488355328 ∧ ∀ a ∈ x.attrs,a.1.1.size ≤ 140737488355328 ∧ a.1.2.size ≤ 140737488355328 ∧ a.2.1.size ≤ 140737488355328
theorem NAttrs.below {w w':World} {av:Value} {xs:List NA} (h:NAttrs w av xs) (hb:Below w.heap.size w w'):NAttrs w' av xs:=by
 obtain ⟨a,cap,rfl,h⟩:=h
 refine ⟨a,cap,rfl,fun i hi=>?_⟩
 obtain ⟨b,ha,c0,c1,c2,c3⟩:=h i hi
 have mv:∀ {p:Addr} {v:Value},w.cell? p = some v → w'.cell? p = some v:=fun {p v} hc=>(World.cell?_of_block (hb.block _ (lt_of_cell hc))).trans hc
 exact ⟨b,ha,mv c0,mv c1,mv c2,mv c3⟩
theorem PcAt.below {w w':World} {a:Option Addr} {l:List PC} (h:PcAt w a l) (hb:Below w.heap.size w w'):PcAt w' a l:=by
 intro i hi
 obtain ⟨q,av,ha,c0,c1,c2,c3,c4,hn⟩:=h i hi
 have mv:∀ {p:Addr} {v:Value},w.cell? p = some v → w'.cell? p = some v:=fun {p v} hc=>(World.cell?_of_block (hb.block _ (lt_of_cell hc))).trans hc
 exact ⟨q,av,ha,mv c0,mv c1,mv c2,mv c3,mv c4,hn.below hb⟩
def FewR (w:World) (l:List PC) (e:Ending) (W:World):Prop:=(∃ b,e = .returned (.bool b) ∧ (b = true → ∀ x ∈ l.take 60,x.attrs.length ≤ 10)) ∧ Below w.heap.size w W
set_option maxRecDepth 100000 in
set_option maxHeartbeats 4000000 in
theorem few_c (rs rl:ByteArray) (pa:Option Addr) (pc:Nat) (l:List PC) (w:World) (hl:PcAt w pa l) (hb:PcBig l) (hbl:l.length ≤ 140737488355328) (h1:rs.size ≤ 140737488355328) (h2:rl.size ≤ 140737488355328) :
    Calls Tryz.prog 8 #[.agg #[.string rs,.string rl],.slice pa l.length pc] w (FewR w l):=by
  have hb1:=(Below.refl w.heap.size w).alloc (Nat.le_refl _) (.cells #[.string rs,.string rl] 23)
  go_enter Tryz.func8,Tryz.ntmps8
  go_wp2
  ·go_ret
   exact ⟨⟨false,rfl,fun e=>by cases e⟩,hb1⟩
  ·go_loopw [5,6] (fun nv iv wr=>∃ (k:Nat) (n:Int),k ≤ l.length ∧ k ≤ 60 ∧ iv = .int .i64 k ∧ nv = .int .i64 n ∧ (∀ x ∈ l.take k,x.attrs.length ≤ 10) ∧ Below w.heap.size w wr) (fun _ iv _=>61 - (intOf iv).toNat)
   case atStart=>exact ⟨0,_,Nat.zero_le _,Nat.zero_le _,rfl,rfl,fun x hx=>(by simp at hx),hb1⟩
   case round=>
    rename World=>wr
    obtain ⟨k,n,hk1,hk2,rfl,rfl,hf,hbr⟩:=hrel
    have mv:∀ W,Below w.heap.size w W → ∀ {p:Addr} {v:Value},w.cell? p = some v → W.cell? p = some v:=fun W hW {p v} hc=>(World.cell?_of_block (hW.block _ (lt_of_cell hc))).trans hc
    by_cases hlt:k < l.length ∧ k < 60
    ·obtain ⟨hlt1,hlt2⟩:=hlt
     obtain ⟨q,av,rfl,c0,c1,c2,c3,c4,hn⟩:=hl k hlt1
     obtain ⟨A,ca,rfl,hat⟩:=hn
     have hlk:=hb l[k] (List.getElem_mem hlt1)
     have htk:l.take (k + 1) = l.take k ++ [l[k]]:=by rw [List.take_add_one,List.getElem?_eq_getElem hlt1];rfl
     generalize l[k] = x at *
     have m1:=mv wr hbr c1
     have m2:=mv wr hbr c2
     have m3:=mv wr hbr c3
     have m4:=mv wr hbr c4
     have hw60:(k:Int) < 60:=by omega
     go_wp2
     go_quiet (fail)
     go_wp2
     all_goals first
      | (
       go_ret
       exact ⟨⟨false,rfl,fun e=>by cases e⟩,by first | exact hbr | exact Go.Proofs.YtbaokjfhigjpdaaGreatDoorX.Below.drewN hbr⟩)
      | skip
     have hx10:x.attrs.length ≤ 10:=by omega
     have hbr':=Go.Proofs.YtbaokjfhigjpdaaGreatDoorX.Below.drewN (k:=nq) hbr
     go_loopw [5,7] (fun nv jv w2=>∃ (j:Nat) (n2:Int),j ≤ x.attrs.length ∧ jv = .int .i64 j ∧ nv = .int .i64 n2 ∧ Below w.heap.size w w2) (fun _ jv _=>x.attrs.length - (intOf jv).toNat)
     case atStart=>exact ⟨0,_,Nat.zero_le _,rfl,rfl,hbr'⟩
     case round=>
      rename World=>w2
      obtain ⟨j,n2,hj,rfl,rfl,hb2⟩:=hrel
      have p4:=mv w2 hb2 c4
      by_cases hlt:j < x.attrs.length
      ·obtain ⟨qa,rfl,a0,a1,a2,a3⟩:=hat j hlt
       have d0:=mv w2 hb2 a0
       have d1:=mv w2 hb2 a1
       have d2:=mv w2 hb2 a2
       go_wp2
       go_quiet (fail)
       go_wp2
       ·go_ret
        exact ⟨⟨false,rfl,fun e=>by cases e⟩,Go.Proofs.YtbaokjfhigjpdaaGreatDoorX.Below.drewN hb2⟩
       · exact ⟨⟨j + 1,_,by omega,by simp,rfl,Go.Proofs.YtbaokjfhigjpdaaGreatDoorX.Below.drewN hb2⟩,by simp [intOf];omega⟩
      ·obtain rfl:j = x.attrs.length:=by omega
       go_wp2
       exact ⟨⟨k + 1,n2,by omega,by omega,by simp,rfl,fun y hy=>by
        rw [htk] at hy
        rcases List.mem_append.1 hy with hy | hy
        · exact hf y hy
        ·simp at hy
         rw [hy]
         exact hx10,hb2⟩,by simp [intOf];omega⟩
    · have hft:∀ x ∈ l.take 60,x.attrs.length ≤ 10:=fun x hx=>hf x (by
        by_cases h6:k = 60
        ·rw [h6]
         exact hx
        ·have:k = l.length:=by omega
         rw [this,List.take_length]
         exact List.mem_of_mem_take hx)
      by_cases hkl:k < l.length
      ·obtain rfl:k = 60:=by omega
       go_wp2
       go_ret
       exact ⟨⟨true,rfl,fun _=>hft⟩,hbr⟩
      ·obtain rfl:k = l.length:=by omega
       go_wp2
       go_ret
       exact ⟨⟨true,rfl,fun _=>hft⟩,hbr⟩
end Go.Proofs.YtbaokjfhigjpdaaGreatDoorT
end
section
set_option linter.unusedVariables false
namespace Go.Proofs.YtbaokjfhigjpdaaGreatDoorT
open Go.RowKit Go.Shelf
open Go.Proofs.YtbaokjfhigjpdaaGreatDoorN (NA flatN flatB)
open Go.Proofs.YtbaokjfhigjpdaaGreatDoorX (RowAt blk_lt blk_cell lt_of_cell ownsRow_of_blocks)
theorem flatN_get:∀ (l:List NA) (i:Nat) (h:i < l.length),(flatN l)[i * 4]? = some (.string l[i].1.1) ∧ (flatN l)[i * 4 + 1]? = some (.string l[i].1.2) ∧ (flatN l)[i * 4 + 2]? = some (.string l[i].2.1) ∧ (flatN l)[i * 4 + 3]? = some (.int .i64 l[i].2.2)
  | a :: r,0,h=>⟨rfl,rfl,rfl,rfl⟩
  | a :: r,i + 1,h=>by
   have:=flatN_get r i (by simpa using h)
   have e:flatN (a :: r) = .string a.1.1 :: .string a.1.2 :: .string a.2.1 :: .int .i64 a.2.2 :: flatN r:=rfl
   rw [e,show (i + 1) * 4 = i * 4 + 1 + 1 + 1 + 1 by omega,show i * 4 + 1 + 1 + 1 + 1 + 1 = (i * 4 + 1) + 1 + 1 + 1 + 1 by omega,show i * 4 + 1 + 1 + 1 + 1 + 2 = (i * 4 + 2) + 1 + 1 + 1 + 1 by omega,show i * 4 + 1 + 1 + 1 + 1 + 3 = (i * 4 + 3) + 1 + 1 + 1 + 1 by omega]
   exact this
theorem flatN_len (l:List NA):(flatN l).length = l.length * 4:=by
 induction l with
 | nil=>rfl
 | cons a r ih=>
  have e:flatN (a :: r) = .string a.1.1 :: .string a.1.2 :: .string a.2.1 :: .int .i64 a.2.2 :: flatN r:=rfl
  rw [e]
  simp only [List.length_cons]
  omega
theorem flatN_one (l:List NA):∀ u ∈ flatN l,u.oneCell' = true:=by
 intro u hu
 unfold flatN at hu
 obtain ⟨a,_,ha⟩:=List.mem_flatMap.1 hu
 simp at ha
 rcases ha with rfl | rfl | rfl | rfl <;> rfl
theorem nattrs_cells {W:World} {A:Option Addr} {n c:Nat} {xs:List NA} (h:NAttrs W (.slice A n c) xs) (h0:xs ≠ []):∃ ad,A = some ad ∧ ∀ j u,(flatN xs)[j]? = some u → W.cell? (ad.add j) = some u:=by
 obtain ⟨A',c',e,hat⟩:=h
 cases e
 have hp:=List.length_pos_iff.2 h0
 obtain ⟨q,rfl,z0,_⟩:=hat 0 hp
 have hsp:q.spot = none:=by
  have:=World.cell?_spot z0
  simpa [Addr.add] using this
 obtain ⟨g,o,sp⟩:=q
 simp only at hsp
 subst hsp
 have hadd:∀ j,(⟨g,o,none⟩:Addr).add j = ⟨g,o + j,none⟩:=fun j=>by unfold Addr.add;split <;> simp_all
 refine ⟨_,rfl,fun j u hu=>?_⟩
 have hj:j < xs.length * 4:=by rw [← flatN_len];exact (List.getElem?_eq_some_iff.1 hu).1
 have hi:j / 4 < xs.length:=by omega
 obtain ⟨q',e',a0,a1,a2,a3⟩:=hat (j / 4) hi
 cases e'
 obtain ⟨f0,f1,f2,f3⟩:=flatN_get xs (j / 4) hi
 rw [hadd] at a0 a1 a2 a3 ⊢
 simp only at a0 a1 a2 a3
 have hr:j % 4 < 4:=Nat.mod_lt _ (by decide)
 have hd:=Nat.div_add_mod j 4
 rcases (by omega:j % 4 = 0 ∨ j % 4 = 1 ∨ j % 4 = 2 ∨ j % 4 = 3) with hm | hm | hm | hm
 ·have e:j = j / 4 * 4:=by omega
  rw [e,f0] at hu
  rw [e,← hu,← a0]
 ·have e:j = j / 4 * 4 + 1:=by omega
  rw [e,f1] at hu
  rw [e,← hu,← a1]
  congr 2
 ·have e:j = j / 4 * 4 + 2:=by omega
  rw [e,f2] at hu
  rw [e,← hu,← a2]
  congr 2
 ·have e:j = j / 4 * 4 + 3:=by omega
  rw [e,f3] at hu
  rw [e,← hu,← a3]
  congr 2
theorem infoA:(Tryz.prog.info? 70).map (fun i=>(i.zero,i.size,i.bytes)) = some (some (.agg #[.string ⟨#[]⟩,.string ⟨#[]⟩,.string ⟨#[]⟩,.int .i64 0]),4,56):=by kernel_rfl
theorem app0 (W:World) (ty:TypeId) (a b:Option Addr) (n c c':Nat) (hn:n ≤ c):(Builtin.append_ #[52,52] ty #[.slice b n c,.slice a 0 c']).run Tryz.prog W = .ok (.slice b n c) W:=by
 obtain ⟨i0,hi,_⟩:=Option.map_eq_some_iff.1 infoA
 cases a <;> cases b <;> simp [Builtin.append_,run_underlying Tryz.underlying52,sizeOf,typeInfo,hi,Builtin.lenOf,hn,Builtin.firstCells,storeCells,loadCells,loadCellsFrom]
theorem step_attrs {ops:Array Oper} {o:Oper} {a:Act} {K:Act → World → Prop} {Q:Exit → Act → World → Prop} {E:Prop} {W:World} (hgd:o.guard = none) (s x:Operand)
    (ho:o.op = .call { callee:=.builtin .append,args:=#[s,x],argTypes:=#[52,52] }) (wr:World) (hb:Below wr.heap.size wr W) (g0:Nat) (hg0:W.heap[g0]? = some (.cells #[] 70 (0,0))) (hg1:wr.heap.size ≤ g0)
    (hs:a.eval s = .slice (some ⟨g0,0,none⟩) 0 0) {xs:List NA} {A:Option Addr} {c:Nat} (hx:a.eval x = .slice A xs.length c) (hat:NAttrs W (.slice A xs.length c) xs) (h10:xs.length ≤ 10)
    (h:∀ A' c' w',w'.ownsRow wr.heap.size 70 4 (.slice A' xs.length c') xs.length (flatN xs) → Below wr.heap.size wr w' → K (a.put o.dst (.slice A' xs.length c')) w') :
    if Region.wanted o (yielded ops a.tmps) = true then Oper.wp Tryz.prog o a W K Q else E:=by
  have hw:Region.wanted o (yielded ops a.tmps) = true:=by simp [Region.wanted,hgd]
  rw [if_pos hw]
  have hown:W.ownsRow wr.heap.size 70 4 (.slice (some ⟨g0,0,none⟩) 0 0) 0 []:=⟨by simp,.inr ⟨g0,0,#[],rfl,hg1,hg0,Nat.le_refl _,by unfold maxLen;omega,rfl,rfl⟩⟩
  by_cases h0:xs = []
  ·subst h0
   have hrun:=app0 W o.type A (some ⟨g0,0,none⟩) 0 0 c (Nat.le_refl _)
   unfold Oper.wp execOp
   simp only [List.length_nil] at hx
   simp only [ho,resolve,invoke,builtin,Sem.run_bind,Sem.run_pure,Result.andThen_ok,List.map_toArray,List.map_cons,List.map_nil,hs,hx,hrun]
   exact h _ _ _ hown hb
  ·obtain ⟨ad,rfl,hcs⟩:=nattrs_cells hat h0
   obtain ⟨i0,hi,hzz⟩:=Option.map_eq_some_iff.1 infoA
   simp only [Prod.mk.injEq] at hzz
   obtain ⟨hz0,hz1,hz2⟩:=hzz
   have hstep:=step_append_lies (ops:=ops) (K:=K) (Q:=Q) (E:=E) W hgd s x _ ho wr.heap.size 70 i0 (.agg #[.string ⟨#[]⟩,.string ⟨#[]⟩,.string ⟨#[]⟩,.int .i64 0]) 4 56 Tryz.underlying52 hi hz0 hz1 hz2 rfl (by decide) _ 0 [] hs hown ad xs.length c (flatN xs) hx (flatN_len xs) hcs (flatN_one xs) (List.length_pos_iff.2 h0) (by unfold maxLen;omega) (by omega) hb.size _ rfl
     fun g' cap w' q1 q2 q3 q4=>by
      rw [Nat.zero_add]
      rw [Nat.zero_add,List.nil_append] at q1
      refine h _ _ _ q1 ?_
      exact ⟨q2.os.trans hb.os,q2.tape.trans hb.tape,q2.output.trans hb.output,Nat.le_trans hb.size q2.size,fun k hk=>(q2.block k (Nat.lt_of_lt_of_le hk hb.size) (fun e=>by simp [Value.ownBlock] at e;omega)).trans (hb.block k hk)⟩
   rw [if_pos hw] at hstep
   exact hstep
end Go.Proofs.YtbaokjfhigjpdaaGreatDoorT
end
section
set_option linter.unusedVariables false
namespace Go.Proofs.YtbaokjfhigjpdaaGreatDoorT
open Go.RowKit Go.Shelf
open Go.Proofs.YtbaokjfhigjpdaaGreatDoorN (NA flatN flatB)
open Go.Proofs.YtbaokjfhigjpdaaGreatDoorX (RowAt blk_lt blk_cell lt_of_cell alloc_old ownsRow_of_blocks)
def flatR (ms:List NP) (l:List (Nat × Nat)):List Value:=l.flatMap fun x=>[.int .i64 x.2,ptrOf ms x.1]
theorem infoR:(Tryz.prog.info? 72).map (fun i=>(i.zero,i.size,i.bytes)) = some (some (.agg #[.int .i64 0,.pointer none]),2,16):=by kernel_rfl
theorem flatR_app (ms:List NP) (l r:List (Nat × Nat)):flatR ms (l ++ r) = flatR ms l ++ flatR ms r:=by unfold flatR;rw [List.flatMap_append]
theorem take_next {α:Type} {l:List α} {k:Nat} (h:k < l.length):l.take (k + 1) = l.take k ++ [l[k]]:=by rw [List.take_add_one,List.getElem?_eq_getElem h];rfl
theorem flat_take {α β:Type} (g:α → List β) (l:List α) (k:Nat):((l.take k).flatMap g).length ≤ (l.flatMap g).length:=by
 conv=>rhs;rw [← List.take_append_drop k l,List.flatMap_append,List.length_append]
 omega
theorem cells2 (w:World) (x y:Value) (t:TypeId):∀ j u,[x,y][j]? = some u → (w.alloc (.cells #[x,y] t)).cell? ((⟨w.heap.size,0,none⟩:Addr).add j) = some u:=World.news_of_block (heap_alloc_new w (.cells #[x,y] t))
set_option maxRecDepth 100000 in
set_option maxHeartbeats 4000000 in
theorem rows_c {n0:Nat} {ms:List NP} {ns:List ND}:∀ (f i d:Nat) (l:List (Nat × Nat)) (lv:Value) (w:World),Fo w n0 ms ns → n0 ≤ w.heap.size → i < ns.length → ns.length ≤ f + i → d + f ≤ 1000000000 → ns.length ≤ 1000000000 → (∀ d ∈ ns,d.kids.length ≤ 1000000000) → l.length + (preF ns f i d).length ≤ 1000000 → w.ownsRow n0 72 2 lv l.length (flatR ms l) →
    Calls Tryz.prog 10 #[ptrOf ms i,.int .i64 d,lv] w fun e W=>∃ v,e = .returned v ∧ W.ownsRow n0 72 2 v (l ++ preF ns f i d).length (flatR ms (l ++ preF ns f i d)) ∧ Below n0 w W:=by
  intro f
  induction f with
  | zero=>
   intro i d l lv w _ _ hi hf
   omega
  | succ f ih=>
   intro i d l lv w hF hn hi hf hdf hnl hkl hN hown
   obtain ⟨m,dd,h1,h2,h3,h4⟩:=hF.get hi
   have hinfo:=infoR
   have hpre:preF ns (f + 1) i d = (i,d) :: dd.kids.flatMap fun j=>preF ns f j (d + 1):=by rw [preF,kidsOf_eq h2]
   have hkd:=hkl dd (List.mem_of_getElem? h2)
   have hup:=hF.up i dd h2
   rw [hpre] at hN ⊢
   simp only [List.length_cons] at hN
   obtain ⟨ka,kc,e1,e2⟩:=h3.kid
   have c6:w.cell? ⟨m.b,6,none⟩ = some (.slice ka dd.kids.length kc):=(blk_cell h3.blk 6).trans (congrArg some e1)
   have hmb:=hF.blow h1
   obtain ⟨la,lc,rfl⟩:=row_lit hown
   rw [h4]
   have howna:∀ o,(w.alloc o).ownsRow n0 72 2 (.slice la l.length lc) l.length (flatR ms l):=fun o=>ownsRow_of_blocks hown fun k hk=>Below.heap_alloc _ _ _ (hown.lt k hk).2
   go_enter Tryz.func10,Tryz.ntmps10
   go_wp2_with (
    at_builtin
    go_loud (
     refine append_own (by rfl) _ _ 29 72 (.agg #[.int .i64 0,.pointer none]) 2 16 (by rfl) Tryz.underlying29 hinfo (by rfl) (by decide) n0 _ l.length (flatR ms l) (by rfl) (howna _) ⟨_,0,none⟩ 1 1 [.int .i64 d,.pointer (some ⟨m.b,0,none⟩)] (by rfl) (by rfl) (cells2 _ _ _ _) (by simp [Value.oneCell']) (by unfold maxLen;omega) (by omega) (by simp;omega) ?_
     intro v7 w7 hown7 hg7 hat7))
   have hba:=(Below.refl n0 w).alloc hn (.cells #[.int .i64 d,.pointer (some ⟨m.b,0,none⟩)] 72)
   have hb7:Below n0 w w7:=⟨hg7.os.trans hba.os,hg7.tape.trans hba.tape,hg7.output.trans hba.output,Nat.le_trans hba.size hg7.size,fun b hb'=>(hg7.block b (by simp;omega) (fun e=>by have:=(hown.lt b e.symm).1;omega)).trans (hba.block b hb')⟩
   have hown7':w7.ownsRow n0 72 2 v7 (l ++ [(i,d)]).length (flatR ms (l ++ [(i,d)])):=by
    have:flatR ms (l ++ [(i,d)]) = flatR ms l ++ [.int .i64 d,.pointer (some ⟨m.b,0,none⟩)]:=by
     rw [flatR_app,← h4]
     rfl
    rw [this,List.length_append]
    exact hown7
   clear hown7 hown howna hg7 hat7 hba
   go_loopw [2,7] (fun lv iv wr=>∃ k:Nat,k ≤ dd.kids.length ∧ iv = .int .i64 k ∧ wr.ownsRow n0 72 2 lv (l ++ [(i,d)] ++ (dd.kids.take k).flatMap fun j=>preF ns f j (d + 1)).length (flatR ms (l ++ [(i,d)] ++ (dd.kids.take k).flatMap fun j=>preF ns f j (d + 1))) ∧ Below n0 w wr) (fun _ iv _=>dd.kids.length - (intOf iv).toNat)
   case atStart=>exact ⟨0,Nat.zero_le _,rfl,by simpa using hown7',hb7⟩
   case round=>
    rename World=>wr
    obtain ⟨k,hkl2,rfl,hownr,hbr⟩:=hrel
    have c6r:=(hbr.cell (p:=⟨m.b,6,none⟩) hmb).trans c6
    obtain ⟨ra,rc,erv⟩:=row_lit hownr
    subst erv
    by_cases hlt:k < dd.kids.length
    ·have htk:=take_next hlt
     have hj:=hup dd.kids[k] (List.getElem_mem hlt)
     obtain ⟨g,rfl,ck0⟩:=e2 k dd.kids[k] (List.getElem?_eq_getElem hlt)
     have hgl:g < n0:=hF.low m (List.mem_of_getElem? h1) g (.inr (.inr (.inr (by rw [e1];rfl))))
     have ck:=(World.cell?_of_block (hbr.block g hgl)).trans ck0
     have hft:=flat_take (fun j=>preF ns f j (d + 1)) dd.kids (k + 1)
     rw [htk] at hft
     simp only [List.flatMap_append,List.length_append,List.flatMap_cons,List.flatMap_nil,List.append_nil] at hft
     have hrec:=ih dd.kids[k] (d + 1) _ _ wr (hF.below hbr) (Nat.le_trans hn hbr.size) hj.2 (by omega) (by omega) hnl hkl (by simp only [List.length_append,List.length_singleton];omega) hownr
     have hres:l ++ [(i,d)] ++ (dd.kids.take (k + 1)).flatMap (fun j=>preF ns f j (d + 1)) = l ++ [(i,d)] ++ (dd.kids.take k).flatMap (fun j=>preF ns f j (d + 1)) ++ preF ns f dd.kids[k] (d + 1):=by
      rw [htk,List.flatMap_append]
      simp
     generalize dd.kids[k] = j at *
     obtain ⟨mj,dj,j1,j2,j3,j4⟩:=hF.get hj.2
     rw [j4] at ck hrec
     generalize hll:(l ++ [(i,d)] ++ (dd.kids.take k).flatMap fun j=>preF ns f j (d + 1)) = ll at *
     rw [show ((d + 1:Nat):Int) = (d:Int) + 1 from rfl] at hrec
     have hw1:IntKind.i64.wrap ((d:Int) + 1) = (d:Int) + 1:=IntWalk.i64_in _ (by omega)
     go_wp2_with (go_at_call 10;go_loud (refine hrec.mono ?_;rintro e w9 ⟨v9,rfl,hown9,hb9⟩))
     exact ⟨⟨k + 1,by omega,by simp,by rw [hres];exact hown9,hbr.trans hb9⟩,by simp [intOf];omega⟩
    ·obtain rfl:k = dd.kids.length:=by omega
     rw [List.take_length] at hownr
     go_wp2
     go_ret
     refine ⟨_,rfl,?_,hbr⟩
     simpa using hownr
end Go.Proofs.YtbaokjfhigjpdaaGreatDoorT
end
