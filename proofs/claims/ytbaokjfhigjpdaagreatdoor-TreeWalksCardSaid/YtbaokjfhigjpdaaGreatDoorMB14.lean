/- What is proved: what the claims of this seat share, part 14: a program of ours merged it out of our own texts, the print's words and the laid shelf. Conditions: those of each. -/
import Derived.Test.YtbaokjfhigjpdaaGreatDoorMB13
import Derived.WalkSpells
set_option linter.unusedVariables false
set_option linter.unusedSimpArgs false
section
set_option linter.unusedVariables false
namespace Go.Proofs.YtbaokjfhigjpdaaGreatDoorX
open Go.RowKit Go.Shelf Go.Proofs.YtbaokjfhigjpdaaGreatDoor.PXmlBase Go.Proofs.YtbaokjfhigjpdaaGreatDoorW.PrintWords
section
variable {P:Program} {ops:Array Oper} {rest:List Oper} {o:Oper} {a:Act} {Q:Exit → Act → World → Prop}
theorem append_first {W:World} (hgd:o.guard = none) (s x:Operand) (t e:TypeId) (z:Value) (size bytes:Nat)
    (ho:o.op = .call { callee:=.builtin .append,args:=#[s,x],argTypes:=#[t,t] })
    (ht:P.underlying t = some (.slice e)) (hinfo:(P.info? e).map (fun i=>(i.zero,i.size,i.bytes)) = some (some z,size,bytes)) (hzs:z.cells.size = size)
    (b:Addr) (hs:a.eval s = .slice (some b) 0 0)
    (ad:Addr) (m c:Nat) (news:List Value) (hx:a.eval x = .slice (some ad) m c) (hl:news.length = m * size) (hnews:∀ j u,news[j]? = some u → W.cell? (ad.add j) = some u)
    (hm:0 < m) (h63:m ≤ maxLen) (hbytes:m * bytes ≤ 140737488355328)
    (h:∀ cap zs,m ≤ cap → wpList P ops Q rest (a.put o.dst (.slice (some ⟨W.heap.size,0,none⟩) m cap)) (W.drew.alloc (.cells (news.toArray ++ zs) e))) :
    wpList P ops Q (o :: rest) a W:=by
  obtain ⟨i0,hi,hzz⟩:=Option.map_eq_some_iff.1 hinfo
  simp only [Prod.mk.injEq] at hzz
  obtain ⟨hz0,hz1,hz2⟩:=hzz
  subst hz1
  subst hz2
  have hr:=run_append_grow (P:=P) W t o.type e i0 z ht hi hz0 b 0 0 [] (by simp) (by simp) ad m c news hl hnews (by omega) (by simp only [maxLen] at h63;omega) (growslice_fits (by omega) (by simpa using hbytes))
  refine wpList_plain hgd fun K hK=>?_
  unfold Oper.wp execOp
  simp only [ho,resolve,invoke,builtin,Sem.run_bind,Sem.run_pure,Result.andThen_ok,List.map_toArray,List.map_cons,List.map_nil,hs,hx,hr]
  refine hK _ _ ?_
  simp only [Nat.zero_add,Array.empty_append]
  exact h _ _ (grownCap_ge W m 0 e)
end
def CloneR (w:World) (bs:List Int) (e:Ending) (W:World):Prop:=∃ A cap,e = .returned (.slice A bs.length cap) ∧ bs.length ≤ cap ∧ Below w.heap.size w W ∧ ∀ i (h:i < bs.length),∃ g,A = some ⟨g,0,none⟩ ∧ w.heap.size ≤ g ∧ W.cell? ⟨g,i,none⟩ = some (.int .u8 bs[i])
set_option maxRecDepth 100000 in
set_option maxHeartbeats 1000000 in
theorem clone_c {w:World} {ad:Option Addr} {c:Nat} {bs:List Int} (hlen:bs.length ≤ 1099511627776) (hnil:ad = none → bs = []) (hrow:∀ a,ad = some a → ∀ j x,bs[j]? = some x → w.cell? (a.add j) = some (.int .u8 x)) :
    Calls Tryz.prog 61 #[.slice ad bs.length c] w (CloneR w bs):=by
  have q22:∀ (w:World) (a:Option Addr) (n c n' c':Nat),(binOp .eql 33 (.slice a n c) (.slice none n' c')).run Tryz.prog w = .ok (.bool a.isNone) w:=fun w a n c n' c'=>Lib.run_eql_slice_nil w _ _ a n c n' c' Tryz.underlying33
  go_enter Tryz.func61,Tryz.ntmps61
  cases ad with
  | none=>
   have hb:=hnil rfl
   subst hb
   go_wp2
   go_ret
   exact ⟨_,_,rfl,Nat.le_refl _,Below.refl _ _,fun i h=>absurd h (by simp)⟩
  | some a=>
   by_cases h0:bs.length = 0
   ·rw [h0]
    go_wp2
    go_ret
    refine ⟨some ⟨w.heap.size,0,none⟩,0,?_,by omega,(Below.refl _ _).alloc (Nat.le_refl _) _,fun i h=>absurd h (by omega)⟩
    rw [h0]
    rfl
   ·have hne:∃ n,bs.length = n + 1:=⟨bs.length - 1,by omega⟩
    have hnews:∀ o,∀ j u,(nums .u8 bs)[j]? = some u → (w.alloc o).cell? (a.add j) = some u:=by
     intro o j u hu
     simp only [nums,List.getElem?_map,Option.map_eq_some_iff] at hu
     obtain ⟨x,hx,rfl⟩:=hu
     exact (World.cell?_of_block (alloc_old w o _ (lt_of_cell (hrow a rfl j x hx)))).trans (hrow a rfl j x hx)
    go_wp2_with (at_builtin;go_loud (refine append_first (by rfl) _ _ 33 5 (.int .u8 0) 1 1 (by rfl) Tryz.underlying33 (by kernel_rfl) (by rfl) _ (by rfl) a bs.length c (nums .u8 bs) (by rfl) (by simp [nums]) (hnews _) (by omega) (by unfold maxLen;omega) (by omega) ?_;intro cap zs hcap))
    go_ret
    refine ⟨_,cap,rfl,hcap,((((Below.refl _ _).alloc (Nat.le_refl _) _).drew).alloc (by simp) _),fun i h=>⟨_,rfl,by simp,?_⟩⟩
    have hh:=heap_alloc_new (w.alloc (.cells #[] 5)) (.cells ((nums .u8 bs).toArray ++ zs) 5)
    refine (cell_of_row _ (w.heap.size + 1) i ((nums .u8 bs).toArray ++ zs) 5 (0,0) ?_).trans ?_
    ·have hs:(w.alloc (.cells #[] 5)).heap.size = w.heap.size + 1:=by simp
     rw [hs] at hh
     exact hh
    · simp [nums,Array.getElem?_append,h]
def limS (own most:Int):Int:=if own < 1 ∨ own > most then most else own
theorem limit_c (own most:Int) (w:World):Calls Tryz.prog 60 #[.int .i64 own,.int .i64 most] w fun e w'=>e = .returned (.int .i64 (limS own most)) ∧ ∃ n,w' = w.drewN n:=by
 refine (xml_limit.calls own most (limS own most) w ?_).mono fun e w' hh=>⟨hh.1,hh.2.out⟩
 unfold xml_limit.f limS
 split
 · rw [if_pos (.inl (by assumption))]
 ·split
  · rw [if_pos (.inr (by assumption))]
  · rw [if_neg (by omega)]
def limOf (d n a t:Int):Lim:=⟨(limS d 64).toNat,(limS n 4096).toNat,(limS a 64).toNat,(limS t 4096).toNat⟩
theorem limS_le (o m:Int) (h:1 ≤ m):1 ≤ limS o m ∧ limS o m ≤ m:=by
 unfold limS
 split <;> omega
theorem limOf_ok (d n a t:Int):LOk (limOf d n a t):=by
 have h1:=limS_le d 64 (by decide)
 have h2:=limS_le n 4096 (by decide)
 have h3:=limS_le a 64 (by decide)
 have h4:=limS_le t 4096 (by decide)
 exact ⟨by show (limS d 64).toNat ≤ _;omega,by show (limS n 4096).toNat ≤ _;omega,by show (limS a 64).toNat ≤ _;omega,by show (limS t 4096).toNat ≤ _;omega⟩
def st0:St:=⟨0,0,[],0,0,0,[],0,[],0,0⟩
theorem st0_inv (bs:List Int) (L:Lim):Inv bs L st0:=⟨⟨Nat.zero_le _,Nat.zero_le _,Nat.zero_le _,Nat.zero_le _,fun n h=>(by cases h),Nat.zero_le _⟩,fun e=>(by cases e),by decide,fun _=>rfl⟩
def EnvW (w:World):Prop:=∃ w0,Gl w0 ∧ Below w0.heap.size w0 w
def NewR (w:World) (bs:List Int) (L:Lim) (e:Ending) (W:World):Prop:=∃ p T,e = .returned (.pointer (some ⟨p,0,none⟩)) ∧ PS W p w.heap.size bs L st0 T ∧ Below w.heap.size w W ∧ T.rv = .slice none 0 0 ∧ T.tv = .slice none 0 0 ∧ T.ov = .slice none 0 0
abbrev lim4 (w:World) (n1 n2 n3 n4:Nat) (l0 l1 l2 l3 l4 l5 a0 a1 a2 a3:Value):World :=
  ((((((((w.alloc (.cells #[l0,l1,l2,l3,l4,l5] 63)).drewN n1).setCell ⟨w.heap.size,0,none⟩ a0).drewN n2).setCell ⟨w.heap.size,1,none⟩ a1).drewN n3).setCell ⟨w.heap.size,2,none⟩ a2).drewN n4).setCell ⟨w.heap.size,3,none⟩ a3
theorem lim4_blk (w:World) (n1 n2 n3 n4:Nat) (l0 l1 l2 l3 l4 l5 a0 a1 a2 a3:Value):(lim4 w n1 n2 n3 n4 l0 l1 l2 l3 l4 l5 a0 a1 a2 a3).heap[w.heap.size]? = some (.cells #[a0,a1,a2,a3,l4,l5] 63 (0,0)):=by
 have h0:=heap_alloc_new w (.cells #[l0,l1,l2,l3,l4,l5] 63)
 unfold lim4
 generalize w.alloc (.cells #[l0,l1,l2,l3,l4,l5] 63) = W0 at *
 have h1:=blk_set (w:=W0.drewN n1) (i:=0) (v:=a0) h0
 generalize (W0.drewN n1).setCell ⟨w.heap.size,0,none⟩ a0 = W1 at *
 have h2:=blk_set (w:=W1.drewN n2) (i:=1) (v:=a1) h1
 generalize (W1.drewN n2).setCell ⟨w.heap.size,1,none⟩ a1 = W2 at *
 have h3:=blk_set (w:=W2.drewN n3) (i:=2) (v:=a2) h2
 generalize (W2.drewN n3).setCell ⟨w.heap.size,2,none⟩ a2 = W3 at *
 exact blk_set (w:=W3.drewN n4) (i:=3) (v:=a3) h3
theorem Below.drewN {n k:Nat} {a b:World} (h:Below n a b):Below n a (b.drewN k):=⟨h.os,h.tape,h.output,h.size,h.block⟩
theorem lim4_below (w:World) (n1 n2 n3 n4:Nat) (l0 l1 l2 l3 l4 l5 a0 a1 a2 a3:Value):Below w.heap.size w (lim4 w n1 n2 n3 n4 l0 l1 l2 l3 l4 l5 a0 a1 a2 a3):=by
 have h0:=(Below.refl w.heap.size w).alloc (Nat.le_refl _) (.cells #[l0,l1,l2,l3,l4,l5] 63)
 have h1:=(Below.drewN (k:=n1) h0).setCell (p:=⟨w.heap.size,0,none⟩) (Nat.le_refl _) a0
 have h2:=(Below.drewN (k:=n2) h1).setCell (p:=⟨w.heap.size,1,none⟩) (Nat.le_refl _) a1
 have h3:=(Below.drewN (k:=n3) h2).setCell (p:=⟨w.heap.size,2,none⟩) (Nat.le_refl _) a2
 exact (Below.drewN (k:=n4) h3).setCell (p:=⟨w.heap.size,3,none⟩) (Nat.le_refl _) a3
theorem lim4_elim {R:World → Prop} {w:World} {n1 n2 n3 n4:Nat} {l0 l1 l2 l3 l4 l5 a0 a1 a2 a3:Value} (h:∀ W,W.heap[w.heap.size]? = some (.cells #[a0,a1,a2,a3,l4,l5] 63 (0,0)) → Below w.heap.size w W → R W):R (lim4 w n1 n2 n3 n4 l0 l1 l2 l3 l4 l5 a0 a1 a2 a3):=h _ (lim4_blk _ _ _ _ _ _ _ _ _ _ _ _ _ _ _) (lim4_below _ _ _ _ _ _ _ _ _ _ _ _ _ _ _)
theorem new_leaf {w w6:World} {A6:Option Addr} {cap6:Nat} {bs:List Int} (hb:Bytes bs) (hE:EnvW w) (hlen:bs.length ≤ 1099511627776) (hb6:Below w.heap.size w w6) (hcap:bs.length ≤ cap6) (hc:∀ i (h:i < bs.length),∃ g,A6 = some ⟨g,0,none⟩ ∧ g < w6.heap.size ∧ w6.cell? ⟨g,i,none⟩ = some (.int .u8 bs[i])) (l0 l1 l2 l3:Int) (v4 v5:Value) :
    NewR w bs (limOf l0 l1 l2 l3) (.returned (.pointer (some ⟨w6.heap.size,0,none⟩))) (w6.alloc (.cells #[.slice A6 bs.length cap6,.int .i64 (limS l0 64),.int .i64 (limS l1 4096),.int .i64 (limS l2 64),.int .i64 (limS l3 4096),v4,v5,.int .i64 0,.int .i64 0,.slice none 0 0,.int .i64 0,.int .i64 0,.int .i64 0,.slice none 0 0,.int .i64 0,.slice none 0 0,.int .i64 0,.int .i64 0] 157)):=by
  have h1:=limS_le l0 64 (by decide)
  have h2:=limS_le l1 4096 (by decide)
  have h3:=limS_le l2 64 (by decide)
  have h4:=limS_le l3 4096 (by decide)
  have e1:(((limS l0 64).toNat:Nat):Int) = limS l0 64:=Int.toNat_of_nonneg (by omega)
  have e2:(((limS l1 4096).toNat:Nat):Int) = limS l1 4096:=Int.toNat_of_nonneg (by omega)
  have e3:(((limS l2 64).toNat:Nat):Int) = limS l2 64:=Int.toNat_of_nonneg (by omega)
  have e4:(((limS l3 4096).toNat:Nat):Int) = limS l3 4096:=Int.toNat_of_nonneg (by omega)
  have hn:=heap_alloc_new w6 (.cells #[.slice A6 bs.length cap6,.int .i64 (limS l0 64),.int .i64 (limS l1 4096),.int .i64 (limS l2 64),.int .i64 (limS l3 4096),v4,v5,.int .i64 0,.int .i64 0,.slice none 0 0,.int .i64 0,.int .i64 0,.int .i64 0,.slice none 0 0,.int .i64 0,.slice none 0 0,.int .i64 0,.int .i64 0] 157)
  have hbl:=(Below.refl w6.heap.size w6).alloc (Nat.le_refl _) (.cells #[.slice A6 bs.length cap6,.int .i64 (limS l0 64),.int .i64 (limS l1 4096),.int .i64 (limS l2 64),.int .i64 (limS l3 4096),v4,v5,.int .i64 0,.int .i64 0,.slice none 0 0,.int .i64 0,.int .i64 0,.int .i64 0,.slice none 0 0,.int .i64 0,.slice none 0 0,.int .i64 0,.int .i64 0] 157)
  generalize w6.alloc _ = W at *
  have hx:∀ k,PX w6.heap.size ⟨.slice A6 bs.length cap6,v4,v5,.slice none 0 0,.slice none 0 0,.slice none 0 0⟩ k → k = w6.heap.size:=by
   intro k hk
   rcases hk with hk | hk | hk | hk
   · exact hk
   · cases hk
   · cases hk
   · cases hk
  refine ⟨w6.heap.size,⟨.slice A6 bs.length cap6,v4,v5,.slice none 0 0,.slice none 0 0,.slice none 0 0⟩,rfl,⟨fun i=>?_,fun i=>blk_frz hn i,⟨A6,cap6,rfl,hcap,fun i hi=>?_⟩,hb,hlen,RowAt.nil _ _ _,RowAt.nil _ _ _,⟨[],RowAt.nil _ _ _,rfl⟩,fun k hk=>?_,?_,(by intro e;cases e),(by intro e;cases e),(by intro e;cases e),(by intro k e;cases e),(by intro k e;cases e),(by intro k e;cases e)⟩,hb6.trans (hbl.mono hb6.size),rfl,rfl,rfl⟩
  ·rw [blk_cell hn i]
   unfold pcells limOf
   simp only [e1,e2,e3,e4]
   exact List.getElem?_toArray
  ·obtain ⟨g,q1,q2,q3⟩:=hc i hi
   exact ⟨g,q1,fun hk=>by have:=hx g hk;omega,(World.cell?_of_block (hbl.block g q2)).trans q3⟩
  ·rw [hx k hk]
   exact hb6.size
  ·obtain ⟨w0,q1,q2⟩:=hE
   exact ⟨w0,q1,q2.trans ((hb6.trans (hbl.mono hb6.size)).mono q2.size),q2.size⟩
set_option maxRecDepth 100000 in
set_option maxHeartbeats 2000000 in
theorem new_c {w:World} {ad:Option Addr} {c:Nat} {bs:List Int} (hb:Bytes bs) (hE:EnvW w) (hlen:bs.length ≤ 1099511627776) (hnil:ad = none → bs = []) (hrow:∀ a,ad = some a → ∀ j x,bs[j]? = some x → w.cell? (a.add j) = some (.int .u8 x)) (l0 l1 l2 l3 l4 l5:Int) :
    Calls Tryz.prog 38 #[.slice ad bs.length c,.agg #[.int .i64 l0,.int .i64 l1,.int .i64 l2,.int .i64 l3,.int .i64 l4,.int .i64 l5]] w (NewR w bs (limOf l0 l1 l2 l3)):=by
  have hl:=fun o m w=>limit_c o m w
  go_enter Tryz.func38,Tryz.ntmps38
  go_wp2_with (first
   | (go_at_call 60;go_loud (refine (hl _ _ _).mono ?_;rintro e w1 ⟨rfl,n1,rfl⟩)))
  refine lim4_elim (R:=fun w5=>Code.wp _ _ _ _ w5) ?_
  intro w5 hk5 hb5
  have hcl:∀ w',Below w.heap.size w w' → Calls Tryz.prog 61 #[.slice ad bs.length c] w' (CloneR w' bs):=fun w' hb'=>clone_c hlen hnil (fun a ha j x hx=>by
   exact (World.cell?_of_block (hb'.block _ (lt_of_cell (hrow a ha j x hx)))).trans (hrow a ha j x hx))
  have k0:w5.cell? ⟨w.heap.size,0,none⟩ = some (.int .i64 (limS l0 64)):=blk_cell hk5 0
  have k1:w5.cell? ⟨w.heap.size,1,none⟩ = some (.int .i64 (limS l1 4096)):=blk_cell hk5 1
  have k2:w5.cell? ⟨w.heap.size,2,none⟩ = some (.int .i64 (limS l2 64)):=blk_cell hk5 2
  have k3:w5.cell? ⟨w.heap.size,3,none⟩ = some (.int .i64 (limS l3 4096)):=blk_cell hk5 3
  have k4:w5.cell? ⟨w.heap.size,4,none⟩ = some (.int .i64 l4):=blk_cell hk5 4
  have k5:w5.cell? ⟨w.heap.size,5,none⟩ = some (.int .i64 l5):=blk_cell hk5 5
  have hN5:w.heap.size < w5.heap.size:=lt_of_cell k0
  have hmv:∀ w' w6,Below w'.heap.size w' w6 → (w' = w5 ∨ w' = w5.drew) → Below w.heap.size w w6 ∧ w.heap.size < w6.heap.size ∧ (∀ i v,w5.cell? ⟨w.heap.size,i,none⟩ = some v → w6.cell? ⟨w.heap.size,i,none⟩ = some v) ∧ w.heap.size < w'.heap.size:=by
   intro w' w6 h4 h2
   have h1:Below w.heap.size w w':=by
    rcases h2 with rfl | rfl
    · exact hb5
    · exact hb5.drew
   have h3:w'.heap = w5.heap:=by
    rcases h2 with rfl | rfl
    · rfl
    · rfl
   have h5:w.heap.size < w'.heap.size:=by rw [h3];exact hN5
   exact ⟨h1.trans (h4.mono h1.size),Nat.lt_of_lt_of_le h5 h4.size,fun i v hv=>(World.cell?_of_block ((h4.block _ h5).trans (by rw [h3]))).trans hv,h5⟩
  clear hrow hnil
  go_region_with (go_at_call 61;go_loud (refine (hcl _ (by first | exact hb5 | exact hb5.drew)).mono ?_;rintro e w6 ⟨A6,cap6,rfl,hcap6,hb6,hc6⟩;obtain ⟨hb56,hl56,hc56,hN6⟩:=hmv _ _ hb6 (by first | exact .inl rfl | exact .inr rfl);clear hmv hcl;have m0:=hc56 0 _ k0;have m1:=hc56 1 _ k1;have m2:=hc56 2 _ k2;have m3:=hc56 3 _ k3;have m4:=hc56 4 _ k4;have m5:=hc56 5 _ k5))
  all_goals (try go_wp2_with fail)
  all_goals
   go_ret
   refine new_leaf hb hE hlen hb56 hcap6 (fun i hi=>?_) l0 l1 l2 l3 _ _
   obtain ⟨g,e1,e2,e3⟩:=hc6 i hi
   exact ⟨g,e1,lt_of_cell e3,e3⟩
theorem fault_c {w:World} {p B:Nat} {bs:List Int} {L:Lim} {s:St} {T:Tv} (h:PS w p B bs L s T) :
    Calls Tryz.prog 44 #[.pointer (some ⟨p,0,none⟩)] w fun e W=>e = .returned (.tuple #[.int .i64 s.fat,.int .i64 s.ferr]) ∧ ∃ n,W = w.drewN n:=by
  have h16:w.cell? ⟨p,16,none⟩ = some (.int .i64 s.fat):=h.cells 16
  have h17:w.cell? ⟨p,17,none⟩ = some (.int .i64 s.ferr):=h.cells 17
  go_enter Tryz.func44,Tryz.ntmps44
  go_wp2
  go_quiet (fail)
  go_wp2
  refine bodyPost_ret (v:=.tuple #[.int .i64 s.fat,.int .i64 s.ferr]) (by simp [results,Tryz.f44,go_sem]) rfl ⟨rfl,_,rfl⟩
end Go.Proofs.YtbaokjfhigjpdaaGreatDoorX
end
