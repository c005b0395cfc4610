/- What is proved: what the claims of this seat share, part 13: a program of ours merged it out of our own texts, the print's words and the laid shelf. Conditions: those of each. -/
import Derived.Test.YtbaokjfhigjpdaaGreatDoorMB12
import Derived.Defers
import Derived.Recover
set_option linter.unusedVariables false
set_option linter.unusedSimpArgs false
section
set_option linter.unusedVariables false
namespace Go.Proofs.YtbaokjfhigjpdaaGreatDoorX
open Go.RowKit Go.Shelf Go.Proofs.YtbaokjfhigjpdaaGreatDoor.PXmlBase Go.Proofs.YtbaokjfhigjpdaaGreatDoorW.PrintWords
set_option maxRecDepth 100000 in
set_option maxHeartbeats 4000000 in
theorem idle_c (K:Addr) (w:World) :
    CallsD Tryz.prog 77 #[.pointer (some K)] .returning w fun e u' w'=>e = .returned (.tuple #[]) ∧ u' = .returning ∧ w' = w:=by
  refine callsD_of_wpS Tryz.func77 rfl fun c₀ cs hu=>?_
  apply wpS_seq
  apply wpS_region
  simp [wpOpsS,go_sem,recoverD,hu,Tryz.ntmps77,Exit.thenS]
  apply wpS_seq
  apply wpS_region
  simp [wpOpsS,go_sem,recoverD,hu,Exit.thenS]
  refine wpS_cond (t:=false) (by simp [Act.eval,Array.replicate]) ?_
  simp only [Bool.false_eq_true,if_false]
  refine wpS_of_wp (wp_skip ?_)
  cases c₀
  simp_all [bodyPostS,results,Tryz.results77]
set_option maxRecDepth 100000 in
set_option maxHeartbeats 4000000 in
theorem caught_c {w:World} {p B:Nat} {bs:List Int} {L:Lim} {s:St} {T:Tv} (h:PS w p B bs L s T) (K:Nat) (f:Flt) (hK:w.cell? ⟨K,0,none⟩ = some (.pointer (some ⟨p,0,none⟩))) (hKp:K ≠ p) :
    CallsD Tryz.prog 77 #[.pointer (some ⟨K,0,none⟩)] (.panicking (fltV f)) w fun e u' w'=>e = .returned (.tuple #[]) ∧ u' = .panicking [{ v:=.iface 155 (.agg #[.int .i64 f.1,.int .i64 f.2]),recovered:=true }] ∧ PS w' p B bs L { s with fat:=f.1,ferr:=f.2,state:=3 } T ∧ Fx w w' p T T:=by
  refine callsD_of_wpS Tryz.func77 rfl fun c₀ cs hu=>?_
  unfold fltV at hu
  have hta:∀ w1:World,(Instr.typeAssert (.iface 155 (.agg #[.int .i64 f.1,.int .i64 f.2])) 20 155 true).run Tryz.prog w1 = .ok (.tuple #[.agg #[.int .i64 f.1,.int .i64 f.2],.bool true]) w1:=fun w1=>by
   simp [Instr.typeAssert]
  simp only [Tryz.ntmps77,List.size_toArray,List.length_cons,List.length_nil,Nat.reduceAdd,Nat.reduceSub,Array.replicate_succ,Array.replicate_zero,List.push_toArray,List.append_toArray,List.nil_append,List.cons_append]
  apply wpS_seq
  apply wpS_region
  simp [wpOpsS,go_sem,recoverD,hu,Exit.thenS]
  have hb1:=(Below.refl w.heap.size w).alloc (Nat.le_refl _) (.cells #[.int .i64 f.1,.int .i64 f.2] 155)
  have hK1:=cellB hb1 hK (lt_of_cell hK)
  have hP1:=h.below hb1
  have hc8:(w.alloc (.cells #[.int .i64 f.1,.int .i64 f.2] 155)).cell? ⟨p,8,none⟩ = some (.int .i64 s.state):=hP1.cells 8
  have hc16:(w.alloc (.cells #[.int .i64 f.1,.int .i64 f.2] 155)).cell? ⟨p,16,none⟩ = some (.int .i64 s.fat):=hP1.cells 16
  have hc17:(w.alloc (.cells #[.int .i64 f.1,.int .i64 f.2] 155)).cell? ⟨p,17,none⟩ = some (.int .i64 s.ferr):=hP1.cells 17
  have hf8:=hP1.frz 8
  have hf16:=hP1.frz 16
  have hf17:=hP1.frz 17
  apply wpS_seq
  apply wpS_region
  simp [wpOpsS,go_sem,recoverD,hu,Exit.thenS]
  refine wpS_cond (t:=true) (by simp [Act.eval,Array.replicate]) ?_
  simp only [if_true]
  refine wpS_of_wp (Code.wp_mono (Q:=fun e a' w'=>e = .normal ∧ a'.defers = [] ∧ PS w' p B bs L { s with fat:=f.1,ferr:=f.2,state:=3 } T ∧ Fx w w' p T T) ?_ ?_)
  ·rintro e a w' ⟨rfl,h0,h1,h2⟩
   simp [bodyPostS,results,Tryz.results77]
   exact ⟨h0,h1,h2⟩
  ·go_wp2
   obtain ⟨hQ1,hG1⟩:=hP1.set (s':={ s with fat:=f.1 }) 16 (.int .i64 f.1) (by decide) rfl rfl rfl rfl
   obtain ⟨hQ2,hG2⟩:=hQ1.set (s':={ s with fat:=f.1,ferr:=f.2 }) 17 (.int .i64 f.2) (by decide) rfl rfl rfl rfl
   obtain ⟨hQ3,hG3⟩:=hQ2.set (s':={ s with fat:=f.1,ferr:=f.2,state:=3 }) 8 (.int .i64 3) (by decide) rfl rfl rfl rfl
   exact ⟨hQ3,(((Fx.of_below hb1).trans hG1).trans hG2).trans hG3⟩
def StepR (s s':St) (r:XR St):Prop:=match r with
 | .ok s1=>s' = s1
 | .error f=>s'.ready = s.ready ∧ s'.state = 3 ∧ s'.fat = f.1 ∧ s'.ferr = f.2 ∧ s'.most = s.most ∧ s'.depth = s.depth
set_option maxRecDepth 100000 in
set_option maxHeartbeats 4000000 in
theorem step_c {w:World} {p B:Nat} {bs:List Int} {L:Lim} {s:St} {T:Tv} (h:PS w p B bs L s T) (hL:LOk L) (hg:Good bs L s) (hr0:s.ready = []) (hne:s.state = 1 → s.opn ≠ []) (hst:s.state ≤ 2) :
    Calls Tryz.prog 62 #[.pointer (some ⟨p,0,none⟩)] w fun e W=>e = .returned (.tuple #[]) ∧ ∃ s' T',PS W p B bs L s' T' ∧ Fx w W p T T' ∧ StepR s s' (bodyS bs L s):=by
  have hmf:∀ (fn:Fn) (first cap:Array Value) (w:World),(Instr.makeFunc fn first cap).run Tryz.prog w = .ok (.func fn first cap) w:=fun _ _ _ _=>rfl
  have hb1:=(Below.refl w.heap.size w).alloc (Nat.le_refl _) (.cells #[.pointer (some ⟨p,0,none⟩)] 89)
  have hS1:=h.below hb1
  have hK:(w.alloc (.cells #[.pointer (some ⟨p,0,none⟩)] 89)).cell? ⟨w.heap.size,0,none⟩ = some (.pointer (some ⟨p,0,none⟩)):=by
   unfold World.cell?
   rw [heap_alloc_new]
   rfl
  have hKl:w.heap.size < (w.alloc (.cells #[.pointer (some ⟨p,0,none⟩)] 89)).heap.size:=by simp
  have hKx:¬ PX p T w.heap.size:=fun hx=>by have:=h.xlt _ hx;omega
  have hKp:w.heap.size ≠ p:=by have:=h.lt;omega
  have hF1:=Fx.of_below (T:=T) (p:=p) hb1
  have hc8:(w.alloc (.cells #[.pointer (some ⟨p,0,none⟩)] 89)).cell? ⟨p,8,none⟩ = some (.int .i64 s.state):=hS1.cells 8
  clear hb1
  generalize hR:bodyS bs L s = R
  unfold bodyS at hR
  go_enter_defers Tryz.func62,Tryz.ntmps62
  by_cases h0:s.state = 0
  ·rw [if_pos h0] at hR
   have q0:((s.state:Int) == 0) = true:=by rw [h0];rfl
   have hn:=begin_c hS1 hL hg hr0
   rw [hR] at hn
   clear h0
   rcases R with f | s1
   ·go_wp2_with (go_at_call 78;go_loud (refine hn.mono ?_;rintro e w2 ⟨rfl,s5,T5,hS5,hF5,e1,e2,e3⟩))
    have hK5:=(World.cell?_of_block ((hF5).block _ hKl hKx)).trans hK
    refine leaves_cons (f:=77) (args:=#[.pointer (some ⟨w.heap.size,0,none⟩)]) (by simp) (by simp [go_sem]) ?_
    refine (caught_c hS5 w.heap.size f hK5 hKp).mono ?_
    rintro e u' w9 ⟨rfl,rfl,hS6,hF6⟩
    simp [Leaves,settle,results,Tryz.results62,go_sem]
    exact ⟨_,_,hS6,(hF1.trans (hF5)).trans hF6,e1,rfl,rfl,rfl,e2,e3⟩
   ·go_wp2_with (go_at_call 78;go_loud (refine hn.mono ?_;rintro e w2 ⟨rfl,T5,hS5,hF5⟩))
    refine leaves_cons (f:=77) (args:=#[.pointer (some ⟨w.heap.size,0,none⟩)]) (by simp) (by simp [go_sem]) ?_
    refine (idle_c _ _).mono ?_
    rintro e u' w9 ⟨rfl,rfl,rfl⟩
    simp [Leaves,settle,results,Tryz.results62,go_sem]
    exact ⟨s1,_,hS5,hF1.trans hF5,(by unfold StepR;first | rfl | simp only [hr0])⟩
  rw [if_neg h0] at hR
  have q0:((s.state:Int) == 0) = false:=by rw [beq_eq_false_iff_ne];omega
  by_cases h1:s.state = 1
  ·rw [if_pos h1] at hR
   have q1:((s.state:Int) == 1) = true:=by rw [h1];rfl
   have hn:=content_c hS1 hL hg (hne h1)
   rw [hR] at hn
   clear h1 h0
   rcases R with f | s1
   ·go_wp2_with (go_at_call 79;go_loud (refine hn.mono ?_;rintro e w2 ⟨rfl,s5,T5,hS5,hF5,e1,e2,e3⟩))
    have hK5:=(World.cell?_of_block ((hF5).block _ hKl hKx)).trans hK
    refine leaves_cons (f:=77) (args:=#[.pointer (some ⟨w.heap.size,0,none⟩)]) (by simp) (by simp [go_sem]) ?_
    refine (caught_c hS5 w.heap.size f hK5 hKp).mono ?_
    rintro e u' w9 ⟨rfl,rfl,hS6,hF6⟩
    simp [Leaves,settle,results,Tryz.results62,go_sem]
    exact ⟨_,_,hS6,(hF1.trans (hF5)).trans hF6,e1,rfl,rfl,rfl,e2,e3⟩
   ·go_wp2_with (go_at_call 79;go_loud (refine hn.mono ?_;rintro e w2 ⟨rfl,T5,hS5,hF5⟩))
    refine leaves_cons (f:=77) (args:=#[.pointer (some ⟨w.heap.size,0,none⟩)]) (by simp) (by simp [go_sem]) ?_
    refine (idle_c _ _).mono ?_
    rintro e u' w9 ⟨rfl,rfl,rfl⟩
    simp [Leaves,settle,results,Tryz.results62,go_sem]
    exact ⟨s1,_,hS5,hF1.trans hF5,(by unfold StepR;first | rfl | simp only [hr0])⟩
  rw [if_neg h1] at hR
  have q1:((s.state:Int) == 1) = false:=by rw [beq_eq_false_iff_ne];omega
  have h2:s.state = 2:=by omega
  rw [if_pos h2] at hR
  have q2:((s.state:Int) == 2) = true:=by rw [h2];rfl
  unfold behindS at hR
  have htk4:L.token ≤ 4294967280:=by have:=hL.token;omega
  have hn:=misc_c (hS1.pb hg.le) htk4 hS1.envp
  clear h0 h1 h2
  rcases hq:miscS bs L.token s.at_ with f | a1
  ·rw [hq] at hn hR
   simp only at hR
   subst hR
   go_wp2_with (go_at_call 80;go_loud (refine hn.mono ?_;rintro e w2 ⟨rfl,a5,hmx⟩))
   have hS5:=hS1.moved hmx
   have hF5:=Fx.of_mv (T:=T) hmx
   have hK5:=(World.cell?_of_block ((hF5).block _ hKl hKx)).trans hK
   refine leaves_cons (f:=77) (args:=#[.pointer (some ⟨w.heap.size,0,none⟩)]) (by simp) (by simp [go_sem]) ?_
   refine (caught_c hS5 w.heap.size f hK5 hKp).mono ?_
   rintro e u' w9 ⟨rfl,rfl,hS6,hF6⟩
   simp [Leaves,settle,results,Tryz.results62,go_sem]
   exact ⟨_,_,hS6,(hF1.trans (hF5)).trans hF6,rfl,rfl,rfl,rfl,rfl,rfl⟩
  rw [hq] at hn hR
  simp only at hR
  have hle2:=(misc_le h.bytes hg.le hq).2
  go_wp2_with (go_at_call 80;go_loud (refine hn.mono ?_;rintro e w2 ⟨rfl,hmx⟩;have hS2:=hS1.moved hmx;have hF2:=Fx.of_mv (T:=T) hmx;have hK2:=(World.cell?_of_block (hF2.block _ hKl hKx)).trans hK;clear hmx;have hP2:PB w2 p bs L.token a1:=hS2.pb hle2;have hc7:w2.cell? ⟨p,7,none⟩ = some (.int .i64 a1):=hS2.cells 7;obtain ⟨ba,cap,hrow,_,_⟩:=hP2.row))
  go_region
  have hbd:=(Below.refl w2.heap.size w2).drew
  generalize w2.drew = w3 at *
  have hS3:=hS2.below hbd
  have hF3:=hF2.trans (Fx.of_below hbd)
  have hK3:=(World.cell?_of_block (hF3.block _ hKl hKx)).trans hK
  have hP3:PB w3 p bs L.token a1:=hS3.pb hle2
  have hc83:w3.cell? ⟨p,8,none⟩ = some (.int .i64 s.state):=hS3.cells 8
  have hf83:=hS3.frz 8
  clear hbd hrow hc7 hK2
  by_cases hlt:a1 < bs.length
  ·rw [if_pos hlt] at hR
   have ql:(a1:Int) < (bs.length:Int):=by omega
   have hns:=stray_c hP3
   rcases hqs:strayS bs a1 with _ | f
   ·rw [hqs] at hns hR
    simp only at hR
    subst hR
    go_wp2_with (first | (go_at_call 81;go_loud (refine hns.mono ?_;rintro e w4 ⟨rfl,hb4⟩;have hK4:=cellB hb4 hK3 (lt_of_cell hK3);have hP4:=hP3.below hb4)) | (go_at_call 82;go_loud (refine (odd_c hP4).mono ?_;rintro e w5 ⟨rfl,hb5⟩)))
    have hS5:=(hS3.below hb4).below hb5
    have hF5:=(hF3.trans (Fx.of_below hb4)).trans (Fx.of_below hb5)
    have hK5:=(World.cell?_of_block ((hF5).block _ hKl hKx)).trans hK
    refine leaves_cons (f:=77) (args:=#[.pointer (some ⟨w.heap.size,0,none⟩)]) (by simp) (by simp [go_sem]) ?_
    refine (caught_c hS5 w.heap.size (refuseF bs a1 a1) hK5 hKp).mono ?_
    rintro e u' w9 ⟨rfl,rfl,hS6,hF6⟩
    simp [Leaves,settle,results,Tryz.results62,go_sem]
    exact ⟨_,_,hS6,(hF1.trans (hF5)).trans hF6,rfl,rfl,rfl,rfl,rfl,rfl⟩
   ·rw [hqs] at hns hR
    simp only at hR
    subst hR
    go_wp2_with (go_at_call 81;go_loud (refine hns.mono ?_;rintro e w4 ⟨rfl,hb4⟩))
    have hS5:=hS3.below hb4
    have hF5:=hF3.trans (Fx.of_below hb4)
    have hK5:=(World.cell?_of_block ((hF5).block _ hKl hKx)).trans hK
    refine leaves_cons (f:=77) (args:=#[.pointer (some ⟨w.heap.size,0,none⟩)]) (by simp) (by simp [go_sem]) ?_
    refine (caught_c hS5 w.heap.size f hK5 hKp).mono ?_
    rintro e u' w9 ⟨rfl,rfl,hS6,hF6⟩
    simp [Leaves,settle,results,Tryz.results62,go_sem]
    exact ⟨_,_,hS6,(hF1.trans (hF5)).trans hF6,rfl,rfl,rfl,rfl,rfl,rfl⟩
  ·rw [if_neg hlt] at hR
   subst hR
   have ql:¬ ((a1:Int) < (bs.length:Int)):=by omega
   obtain ⟨hS5,hF5⟩:=hS3.set (s':={ s with at_:=a1,state:=3 }) 8 (.int .i64 3) (by decide) rfl rfl rfl rfl
   go_wp2
   refine leaves_cons (f:=77) (args:=#[.pointer (some ⟨w.heap.size,0,none⟩)]) (by simp) (by simp [go_sem]) ?_
   refine (idle_c _ _).mono ?_
   rintro e u' w9 ⟨rfl,rfl,rfl⟩
   simp [Leaves,settle,results,Tryz.results62,go_sem]
   exact ⟨_,_,hS5,(hF1.trans hF3).trans hF5,(by unfold StepR;first | rfl | simp only [hr0])⟩
end Go.Proofs.YtbaokjfhigjpdaaGreatDoorX
end
section
set_option linter.unusedVariables false
namespace Go.Proofs.YtbaokjfhigjpdaaGreatDoorX
open Go.RowKit Go.Shelf Go.Proofs.YtbaokjfhigjpdaaGreatDoor.PXmlBase Go.Proofs.YtbaokjfhigjpdaaGreatDoorW.PrintWords
def Fin_ (s:St):Prop:=(s.state = 1 → s.opn ≠ []) ∧ s.state ≤ 2 ∧ s.state ≠ 0
theorem left_fin (s:St) (h:s.state ≤ 2) (h0:s.state ≠ 0):Fin_ (leftS s):=by
 unfold leftS Fin_
 split
 · exact ⟨fun e=>(by cases e),Nat.le_refl _,by show 2 ≠ 0;decide⟩
 ·rename_i hn
  exact ⟨fun _=>hn,h,h0⟩
theorem tag_fin {bs:List Int} {L:Lim} {s s':St} {at_:Nat} (ht:tagS bs L s at_ = .ok s'):Fin_ s':=by
 have hE:∀ n l sl a e,Fin_ (tagE L s at_ n l sl a e):=by
  intro n l sl a e
  unfold tagE
  split
  · exact left_fin _ (by show 1 ≤ 2;decide) (by show 1 ≠ 0;decide)
  · exact ⟨fun _=>by show s.opn ++ [n] ≠ [];simp,by show 1 ≤ 2;decide,by show 1 ≠ 0;decide⟩
 unfold tagS at ht
 split at ht
 · cases ht
 ·split at ht
  · cases ht
  ·split at ht
   · cases ht
   ·split at ht
    · cases ht
    ·split at ht
     ·split at ht
      · cases ht
      ·split at ht
       · cases ht
       ·cases ht
        exact hE _ _ _ _ _
     ·cases ht
      exact hE _ _ _ _ _
theorem end_fin {bs:List Int} {L:Lim} {s s':St} {at_:Nat} (hs:s.state ≤ 2 ∧ s.state ≠ 0) (ht:endS bs L s at_ = .ok s'):Fin_ s':=by
 unfold endS at ht
 split at ht
 · cases ht
 ·split at ht
  · cases ht
  ·split at ht
   · cases ht
   ·split at ht
    · cases ht
    ·split at ht
     · cases ht
     ·split at ht
      · cases ht
      ·split at ht
       · cases ht
       ·cases ht
        exact left_fin _ hs.1 hs.2
theorem markT_fin {bs:List Int} {L:Lim} {s s':St} (hf:Fin_ s) (ht:markT bs L s = .ok s'):Fin_ s':=by
 unfold markT at ht
 split at ht
 · cases ht
 ·split at ht
  · cases ht
  ·split at ht
   ·split at ht
    · cases ht
    ·cases ht
     exact hf
   ·split at ht
    ·refine end_fin ?_ ht
     exact hf.2
    ·split at ht
     · exact tag_fin ht
     · cases ht
theorem mark_fin {bs:List Int} {L:Lim} {s s':St} (hb:Bytes bs) (h:Good bs L s) (hf:Fin_ s) (ht:markS bs L s = .ok s'):Fin_ s':=by
 unfold markS at ht
 split at ht
 ·split at ht
  · cases ht
  ·cases ht
   exact hf
 ·split at ht
  ·rename_i hh
   have g3:s.at_ + 9 ≤ bs.length:=has_le h.le hh
   obtain ⟨_,_,_,m4,m5,_,_⟩:=cdata_good hb _ _ s' (h.moved g3) (by simp only;omega) ht
   unfold Fin_
   rw [m4,m5]
   exact hf
  ·split at ht
   ·split at ht
    · cases ht
    ·unfold markU at ht
     split at ht
     · cases ht
     · exact markT_fin hf ht
   ·unfold markU at ht
    split at ht
    · cases ht
    · exact markT_fin hf ht
theorem contentT_fin {bs:List Int} {L:Lim} {s s':St} (hb:Bytes bs) (h:Good bs L s) (hf:Fin_ s) (ht:contentT bs L s = .ok s'):Fin_ s':=by
 unfold contentT at ht
 split at ht
 · cases ht
 ·rename_i r hm
  split at ht
  · exact mark_fin hb h hf ht
  ·split at ht
   ·split at ht
    · cases ht
    ·rename_i c a1 h1
     obtain ⟨g1,g2,g3⟩:=reference_le hb h.le h1
     obtain ⟨_,_,_,k4,k5,_⟩:=put_good (h.moved g2) ht
     unfold Fin_
     rw [k4,k5]
     exact hf
   ·split at ht
    · cases ht
    ·obtain ⟨_,_,_,k4,k5,_⟩:=line_good hb h (must_step hb h.le hm) ht
     unfold Fin_
     rw [k4,k5]
     exact hf
theorem contentL_good {bs:List Int} {L:Lim} (hb:Bytes bs):∀ (k:Nat) (s s':St),Good bs L s → Fin_ s → bs.length + 2 ≤ k + s.at_ → contentL bs L k s = .ok s' → Good bs L s' ∧ Fin_ s' ∧ s'.ready ≠ [] ∧ s.at_ ≤ s'.at_ ∧ (s.ready = [] → s.at_ < s'.at_)
  | 0,s,s',h,hf,hk,ht=>by have:=h.le;omega
  | k + 1,s,s',h,hf,hk,ht=>by
   unfold contentL at ht
   split at ht
   ·rename_i hr
    cases ht
    exact ⟨h,hf,hr,Nat.le_refl _,fun e=>absurd e hr⟩
   ·rename_i hr
    have hr:s.ready = []:=Classical.byContradiction hr
    split at ht
    · cases ht
    ·rename_i s1 h1
     obtain ⟨w1,w2,_⟩:=contentT_good hb h hr h1
     obtain ⟨m1,m2,m3,m4,_⟩:=contentL_good hb k s1 s' w1 (contentT_fin hb h hf h1) (by omega) ht
     exact ⟨m1,m2,m3,by omega,fun _=>by omega⟩
structure Inv (bs:List Int) (L:Lim) (s:St):Prop where
  good:Good bs L s
  fin:s.state = 1 → s.opn ≠ []
  top:s.state ≤ 3
  zero:s.state = 0 → s.at_ = 0
theorem root_good {bs:List Int} {L:Lim} {s s':St} {a:Nat} (hb:Bytes bs) (h:Good bs L s) (hr:s.ready = []) (hle:a ≤ bs.length) (ht:rootS bs L s a = .ok s'):Good bs L s' ∧ Fin_ s' ∧ s'.ready ≠ [] ∧ a < s'.at_:=by
 unfold rootS at ht
 split at ht
 · cases ht
 ·rename_i a1 h1
  obtain ⟨g1,g2⟩:=misc_le hb hle h1
  split at ht
  · cases ht
  ·rename_i r hm
   obtain ⟨g3,g4⟩:=must_step hb g2 hm
   split at ht
   · cases ht
   ·split at ht
    · cases ht
    ·split at ht
     · cases ht
     ·split at ht
      ·obtain ⟨k1,k2,k3⟩:=tag_good hb (h.moved g4) hr ht
       exact ⟨k1,tag_fin ht,k2,by simp only at k3;omega⟩
      · cases ht
theorem body_good {bs:List Int} {L:Lim} {s s':St} (hb:Bytes bs) (h:Inv bs L s) (hr:s.ready = []) (h3:s.state ≠ 3) (ht:bodyS bs L s = .ok s'):Inv bs L s' ∧ ((s'.ready ≠ [] ∧ s.at_ < s'.at_) ∨ (s'.ready = [] ∧ s'.state = 3)):=by
 have h4:=h.top
 unfold bodyS at ht
 split at ht
 ·rename_i hz
  unfold beginS at ht
  split at ht
  · cases ht
  ·split at ht
   ·rename_i hc
    split at ht
    · cases ht
    ·rename_i a ha
     obtain ⟨g1,g2⟩:=declaration_le hb (by omega) ha
     obtain ⟨k1,k2,k3,k4⟩:=root_good hb h.good hr g2 ht
     have h5:=h.zero hz
     exact ⟨⟨k1,k2.1,by have:=k2.2.1;omega,fun e=>absurd e k2.2.2⟩,.inl ⟨k3,by omega⟩⟩
   ·obtain ⟨k1,k2,k3,k4⟩:=root_good hb h.good hr h.good.le ht
    exact ⟨⟨k1,k2.1,by have:=k2.2.1;omega,fun e=>absurd e k2.2.2⟩,.inl ⟨k3,k4⟩⟩
 ·split at ht
  ·rename_i h1
   obtain ⟨m1,m2,m3,m4,m5⟩:=contentL_good hb _ _ _ h.good ⟨h.fin,by omega,by omega⟩ (by omega) ht
   exact ⟨⟨m1,m2.1,by have:=m2.2.1;omega,fun e=>absurd e m2.2.2⟩,.inl ⟨m3,m5 hr⟩⟩
  ·split at ht
   ·unfold behindS at ht
    split at ht
    · cases ht
    ·rename_i a1 ha
     obtain ⟨g1,g2⟩:=misc_le hb h.good.le ha
     split at ht
     · split at ht <;> cases ht
     ·cases ht
      exact ⟨⟨⟨g2,h.good.nodes,h.good.opn,h.good.text,h.good.names,h.good.few⟩,fun e=>(by cases e),Nat.le_refl _,fun e=>(by cases e)⟩,.inr ⟨hr,rfl⟩⟩
   · omega
end Go.Proofs.YtbaokjfhigjpdaaGreatDoorX
end
section
set_option linter.unusedVariables false
namespace Go.Proofs.YtbaokjfhigjpdaaGreatDoorX
open Go.RowKit Go.Shelf Go.Proofs.YtbaokjfhigjpdaaGreatDoor.PXmlBase Go.Proofs.YtbaokjfhigjpdaaGreatDoorW.PrintWords
def stepE (bs:List Int) (L:Lim) (s:St):St:=match bodyS bs L s with
 | .ok s1=>s1
 | .error f=>{ s with fat:=f.1,ferr:=f.2,state:=3 }
def fillE (bs:List Int) (L:Lim) (s:St):St:=if s.ready = [] ∧ s.state ≠ 3 then stepE bs L s else s
def depthE (k d:Int):Int:=if k = 1 then Go.RowKit.wrap64 (d + 1) else if k = 2 then Go.RowKit.wrap64 (d - 1) else d
def popE (u:St):Option XE × St:=match u.ready with
 | []=>(none,u)
 | e :: r=>(some e,{ u with ready:=r,depth:=depthE e.kind u.depth })
def nextE (bs:List Int) (L:Lim) (s:St):Option XE × St:=popE (fillE bs L s)
def Sim (s t:St):Prop:=s = t ∨ (t.state = 3 ∧ s.state = 3 ∧ s.ready = t.ready ∧ s.fat = t.fat ∧ s.ferr = t.ferr ∧ s.most = t.most ∧ s.depth = t.depth)
theorem Sim.eqs {s t:St} (h:Sim s t):s.state = t.state ∧ s.ready = t.ready ∧ s.fat = t.fat ∧ s.ferr = t.ferr ∧ s.most = t.most ∧ s.depth = t.depth:=by
 rcases h with rfl | ⟨h1,h2,h3,h4,h5,h6,h7⟩
 · exact ⟨rfl,rfl,rfl,rfl,rfl,rfl⟩
 · exact ⟨h2.trans h1.symm,h3,h4,h5,h6,h7⟩
def actOf (p:Nat) (w:World):Nat:=match w.cell? ⟨p,15,none⟩ with
 | some (.slice _ 0 _)=>(match w.cell? ⟨p,8,none⟩ with
  | some (.int _ 3)=>0
  | _=>1)
 | _=>0
theorem PS.act {w:World} {p B:Nat} {bs:List Int} {L:Lim} {s:St} {T:Tv} (h:PS w p B bs L s T):actOf p w = if s.ready = [] ∧ s.state ≠ 3 then 1 else 0:=by
 obtain ⟨cs,hc,_⟩:=h.ready
 obtain ⟨A,c,hT,_⟩:=hc.slice
 have h15:w.cell? ⟨p,15,none⟩ = some (.slice A s.ready.length c):=(h.cells 15).trans (congrArg some hT)
 have h8:w.cell? ⟨p,8,none⟩ = some (.int .i64 s.state):=h.cells 8
 unfold actOf
 rw [h15,h8]
 cases hr:s.ready with
 | nil=>
  simp only [List.length_nil]
  by_cases h3:s.state = 3
  ·rw [h3]
   simp
  ·rw [if_pos ⟨trivial,h3⟩]
   split
   ·rename_i e
    simp at e
    omega
   · rfl
 | cons x t=>simp
theorem step_done {bs:List Int} {L:Lim} {t:St} (hb:Bytes bs) (hI:Inv bs L t) (hr:t.ready = []) (h3:t.state ≠ 3):¬ ((stepE bs L t).ready = [] ∧ (stepE bs L t).state ≠ 3):=by
 unfold stepE
 cases hq:bodyS bs L t with
 | error f=>exact fun e=>e.2 rfl
 | ok s1=>
  rcases (body_good hb hI hr h3 hq).2 with ⟨h1,_⟩ | ⟨_,h2⟩
  · exact fun e=>h1 e.1
  · exact fun e=>e.2 h2
def zeroE:Value:=.agg #[.int .i64 0,.int .i64 0,.string ⟨#[]⟩,.string ⟨#[]⟩,.slice none 0 0]
def OutNx (W:World) (p:Nat) (T:Tv) (o:Option XE) (e:Ending):Prop:=match o with
 | none=>e = .returned (.tuple #[zeroE,.bool false])
 | some x=>∃ av,e = .returned (.tuple #[.agg #[.int .i64 x.kind,.int .i64 x.at_,.string (strOfNums x.name),.string (strOfNums x.text),av],.bool true]) ∧ AttrRow W av x.attrs ∧ (∀ k,av.ownBlock = some k → ¬ PX p T k)
abbrev w5s (w:World) (b:Nat) (x0 x1 x2 x3 x4:Value):World:=((((w.setCell ⟨b,0,none⟩ x0).setCell ⟨b,1,none⟩ x1).setCell ⟨b,2,none⟩ x2).setCell ⟨b,3,none⟩ x3).setCell ⟨b,4,none⟩ x4
theorem cellSet (w:World) (a:Addr) (v:Value) {u:Value} (h:w.cell? a = some u):(w.setCell a v).cell? a = some v:=World.cell?_setCell_same' _ _ _ (by rw [h];rfl)
theorem set5 (w:World) (b:Nat) (x0 x1 x2 x3 x4:Value) {u0 u1 u2 u3 u4:Value} (h0:w.cell? ⟨b,0,none⟩ = some u0) (h1:w.cell? ⟨b,1,none⟩ = some u1) (h2:w.cell? ⟨b,2,none⟩ = some u2) (h3:w.cell? ⟨b,3,none⟩ = some u3) (h4:w.cell? ⟨b,4,none⟩ = some u4) :
    (w5s w b x0 x1 x2 x3 x4).cell? ⟨b,0,none⟩ = some x0 ∧ (w5s w b x0 x1 x2 x3 x4).cell? ⟨b,1,none⟩ = some x1 ∧ (w5s w b x0 x1 x2 x3 x4).cell? ⟨b,2,none⟩ = some x2 ∧ (w5s w b x0 x1 x2 x3 x4).cell? ⟨b,3,none⟩ = some x3 ∧ (w5s w b x0 x1 x2 x3 x4).cell? ⟨b,4,none⟩ = some x4:=by
  have o:∀ (w:World) (i j:Nat) (x:Value),i ≠ j → (w.setCell ⟨b,i,none⟩ x).cell? ⟨b,j,none⟩ = w.cell? ⟨b,j,none⟩:=fun w i j x hij=>World.cell?_setCell_other w _ _ _ (by simp [hij])
  refine ⟨?_,?_,?_,?_,?_⟩
  ·rw [o _ 4 0 _ (by decide),o _ 3 0 _ (by decide),o _ 2 0 _ (by decide),o _ 1 0 _ (by decide)]
   exact cellSet _ _ _ h0
  ·rw [o _ 4 1 _ (by decide),o _ 3 1 _ (by decide),o _ 2 1 _ (by decide)]
   exact cellSet _ _ _ (by rw [o _ 0 1 _ (by decide)];exact h1)
  ·rw [o _ 4 2 _ (by decide),o _ 3 2 _ (by decide)]
   exact cellSet _ _ _ (by rw [o _ 1 2 _ (by decide),o _ 0 2 _ (by decide)];exact h2)
  ·rw [o _ 4 3 _ (by decide)]
   exact cellSet _ _ _ (by rw [o _ 2 3 _ (by decide),o _ 1 3 _ (by decide),o _ 0 3 _ (by decide)];exact h3)
  · exact cellSet _ _ _ (by rw [o _ 3 4 _ (by decide),o _ 2 4 _ (by decide),o _ 1 4 _ (by decide),o _ 0 4 _ (by decide)];exact h4)
theorem set5_block (w:World) (b:Nat) (x0 x1 x2 x3 x4:Value) (k:Nat) (hk:k ≠ b):(w5s w b x0 x1 x2 x3 x4).heap[k]? = w.heap[k]?:=by
 rw [Below.heap_setCell _ ⟨b,4,none⟩ _ k hk,Below.heap_setCell _ ⟨b,3,none⟩ _ k hk,Below.heap_setCell _ ⟨b,2,none⟩ _ k hk,Below.heap_setCell _ ⟨b,1,none⟩ _ k hk,Below.heap_setCell _ ⟨b,0,none⟩ _ k hk]
theorem EvRows.off {w w':World} {X:Nat → Prop} {k:Nat} {c:Array Value} (hk:w.heap[k]? = some (.cells c 95 (0,0))) (hb:∀ j,j ≠ k → w'.heap[j]? = w.heap[j]?):∀ {es:List XE} {cs:List Value},EvRows w X es cs → EvRows w' X es cs
  | [],cs,h=>h
  | x :: t,cs,h=>by
   obtain ⟨av,rest,h1,h2,h3,h4⟩:=h
   refine ⟨av,rest,h1,RowAt.move h2 (fun j hj=>hb j (fun e=>?_)),h3,h4.off hk hb⟩
   subst e
   rcases h2.2 with ⟨rfl,_⟩ | ⟨g,off,cap,cur,rfl,hg,_⟩
   · simp [Value.ownBlock] at hj
   ·simp [Value.ownBlock] at hj
    subst hj
    rw [hk] at hg
    simp at hg
theorem PS.offw {w w':World} {p B:Nat} {bs:List Int} {L:Lim} {s:St} {T:Tv} (h:PS w p B bs L s T) {k:Nat} {c:Array Value} (hkc:w.heap[k]? = some (.cells c 95 (0,0))) (h0:∃ z,c[0]? = some (.int .i64 z)) (hk:¬ PX p T k) (hB:B ≤ k)
    (hset:∀ j,j ≠ k → w'.heap[j]? = w.heap[j]?) (hsz:w'.heap.size = w.heap.size) (hos:w'.os = w.os) (htp:w'.tape = w.tape) (hou:w'.output = w.output):PS w' p B bs L s T:=by
  have hp:p ≠ k:=fun e=>hk (.inl e.symm)
  refine ⟨fun j=>(World.cell?_of_block (hset p hp)).trans (h.cells j),fun j=>(World.frozen?_of_block (hset p hp)).trans (h.frz j),?_,h.bytes,h.small,?_,?_,?_,h.base,?_,h.po,h.pt,h.pr,h.ot,h.or_,h.tr⟩
  ·obtain ⟨ba,cap,h1,h2,h3⟩:=h.row
   refine ⟨ba,cap,h1,h2,fun j hj=>?_⟩
   obtain ⟨g,e,hg,hc⟩:=h3 j hj
   refine ⟨g,e,hg,(World.cell?_of_block (hset g (fun e2=>?_))).trans hc⟩
   obtain ⟨g',e',_,hc'⟩:=h3 0 (by omega)
   obtain ⟨z,hz⟩:=h0
   rw [e'] at e
   cases e
   subst e2
   rw [blk_cell hkc 0,hz] at hc'
   cases hc'
  · exact h.opn.move fun j hj=>hset j (fun e=>hk (.inr (.inl (e ▸ hj))))
  · exact h.text.move fun j hj=>hset j (fun e=>hk (.inr (.inr (.inl (e ▸ hj)))))
  ·obtain ⟨cs,h1,h2⟩:=h.ready
   exact ⟨cs,h1.move fun j hj=>hset j (fun e=>hk (.inr (.inr (.inr (e ▸ hj))))),h2.off hkc hset⟩
  ·obtain ⟨w0,h1,h2,h3⟩:=h.env
   exact ⟨w0,h1,⟨hos.trans h2.os,htp.trans h2.tape,hou.trans h2.output,by rw [hsz];exact h2.size,fun j hj=>(hset j (by omega)).trans (h2.block j hj)⟩,h3⟩
theorem w5s_size (w:World) (k:Nat) (x0 x1 x2 x3 x4:Value):(w5s w k x0 x1 x2 x3 x4).heap.size = w.heap.size:=by simp [World.setCell]
theorem setCell_rest (w:World) (a:Addr) (v:Value):(w.setCell a v).os = w.os ∧ (w.setCell a v).tape = w.tape ∧ (w.setCell a v).output = w.output:=⟨rfl,rfl,rfl⟩
theorem w5s_rest (w:World) (k:Nat) (x0 x1 x2 x3 x4:Value):(w5s w k x0 x1 x2 x3 x4).os = w.os ∧ (w5s w k x0 x1 x2 x3 x4).tape = w.tape ∧ (w5s w k x0 x1 x2 x3 x4).output = w.output:=by
 simp only [setCell_rest,and_self]
theorem PS.off5 {w:World} {p B:Nat} {bs:List Int} {L:Lim} {s:St} {T:Tv} (h:PS w p B bs L s T) {k:Nat} {c:Array Value} (hkc:w.heap[k]? = some (.cells c 95 (0,0))) (h0:∃ z,c[0]? = some (.int .i64 z)) (hk:¬ PX p T k) (hB:B ≤ k) (x0 x1 x2 x3 x4:Value):PS (w5s w k x0 x1 x2 x3 x4) p B bs L s T :=
  h.offw hkc h0 hk hB (set5_block w k x0 x1 x2 x3 x4) (w5s_size w k x0 x1 x2 x3 x4) (w5s_rest w k x0 x1 x2 x3 x4).1 (w5s_rest w k x0 x1 x2 x3 x4).2.1 (w5s_rest w k x0 x1 x2 x3 x4).2.2
theorem Fx.off5 {w W:World} {p k:Nat} {T T':Tv} (h:Fx w W p T T') (hk:w.heap.size ≤ k) (x0 x1 x2 x3 x4:Value):Fx w (w5s W k x0 x1 x2 x3 x4) p T T':=by
 have hb:=set5_block W k x0 x1 x2 x3 x4
 have hr:=w5s_rest W k x0 x1 x2 x3 x4
 refine ⟨hr.1.trans h.os,hr.2.1.trans h.tape,hr.2.2.trans h.output,?_,?_,h.grow⟩
 ·rw [w5s_size]
  exact h.size
 ·intro j hj hx
  exact (hb j (by omega)).trans (h.block j hj hx)
theorem next_ret {W:World} {b:Nat} {u0 u1 u2 u3 u4 x0 x1 x2 x3 x4:Value} (r0:W.cell? ⟨b,0,none⟩ = some u0) (r1:W.cell? ⟨b,1,none⟩ = some u1) (r2:W.cell? ⟨b,2,none⟩ = some u2) (r3:W.cell? ⟨b,3,none⟩ = some u3) (r4:W.cell? ⟨b,4,none⟩ = some u4) {T:Array Value} {ok:Bool}
    (h2:T.getD 2 undef = .pointer (some ⟨b,0,none⟩)) (h3:T.getD 3 undef = .bool ok) {R:Ending → World → Prop}
    (hR:R (.returned (.tuple #[.agg #[x0,x1,x2,x3,x4],.bool ok])) (w5s W b x0 x1 x2 x3 x4)) :
    bodyPost Tryz.prog Tryz.f40 R .ret { tmps:=T,defers:=[] } (w5s W b x0 x1 x2 x3 x4):=by
  obtain ⟨d0,d1,d2,d3,d4⟩:=set5 W b x0 x1 x2 x3 x4 r0 r1 r2 r3 r4
  refine bodyPost_ret (v:=.tuple #[.agg #[x0,x1,x2,x3,x4],.bool ok]) ?_ rfl hR
  generalize w5s W b x0 x1 x2 x3 x4 = W2 at *
  rw [Array.getD_eq_getD_getElem?] at h2 h3
  simp [results,Tryz.f40,go_sem,h2,h3,d0,d1,d2,d3,d4]
theorem RowAt.some {w:World} {e:TypeId} {size n:Nat} {A:Option Addr} {c:Nat} {xs:List Value} {v:Value} (h:RowAt w e size v n xs) (hv:v = .slice A n c) (hn:0 < n):∃ g off,A = .some ⟨g,off,none⟩:=by
 rcases h.2 with ⟨_,h2⟩ | ⟨g,off,cap,cur,e1,_⟩
 · omega
 ·rw [hv] at e1
  cases e1
  exact ⟨g,off,rfl⟩
theorem RowAt.rest1 {w:World} {e:TypeId} {size g off n:Nat} {ys xs:List Value} (h:RowAt w e size (.slice (.some ⟨g,off,none⟩) (n + 1) 1) (n + 1) (ys ++ xs)) (hy:ys.length = size):RowAt w e size (.slice (.some ⟨g,off,none⟩) n 0) n xs:=by
 rcases h with ⟨hl,⟨h1,_⟩ | ⟨g',off',cap,cur,e1,hg,h2,h3,h4,h5⟩⟩
 · cases h1
 ·cases e1
  have hn:n = 0:=by omega
  subst hn
  rw [List.length_append,hy] at hl
  have hx:xs = []:=List.eq_nil_of_length_eq_zero (by omega)
  subst hx
  exact ⟨by simp,.inr ⟨g,off,0,cur,rfl,hg,Nat.le_refl _,Nat.zero_le _,by omega,by simp⟩⟩
theorem RowAt.rest {w:World} {e:TypeId} {size g off n c:Nat} {ys xs:List Value} (h:RowAt w e size (.slice (.some ⟨g,off,none⟩) (n + 1) c) (n + 1) (ys ++ xs)) (hy:ys.length = size):RowAt w e size (.slice (.some ⟨g,off + size,none⟩) n (c - 1)) n xs:=by
 rcases h with ⟨hl,⟨h1,_⟩ | ⟨g',off',cap,cur,e1,hg,h2,h3,h4,h5⟩⟩
 · cases h1
 ·cases e1
  rw [List.length_append,hy,Nat.add_mul,Nat.one_mul] at hl
  have hl2:xs.length = n * size:=by omega
  refine ⟨hl2,.inr ⟨g,_,c - 1,cur,rfl,hg,by omega,by omega,?_,?_⟩⟩
  · have:(c - 1) * size + size = c * size:=by
      rw [← Nat.succ_mul]
      congr 1
      omega
    omega
  ·have hd:xs = (ys ++ xs).drop size:=by rw [← hy];simp
   rw [hd,← h5,List.drop_take,List.drop_drop,Nat.add_mul,Nat.one_mul,Nat.add_sub_cancel]
theorem Sim.pop {s t:St} (h:Sim s t) (r:List XE) (k:Int):Sim { s with ready:=r,depth:=depthE k s.depth } { t with ready:=r,depth:=depthE k t.depth }:=by
 rcases h with rfl | ⟨h1,h2,h3,h4,h5,h6,h7⟩
 · exact .inl rfl
 · exact .inr ⟨h1,h2,rfl,h4,h5,h6,by rw [h7]⟩
theorem next_leaf {w0 w W:World} {p B:Nat} {bs:List Int} {L:Lim} {s u:St} {T T0:Tv} {c:Array Value} {x:XE} {r:List XE} {av v:Value} (h:PS w p B bs L s T) (hF:Fx w0 w p T0 T) (hkc:w.heap[w0.heap.size]? = some (.cells c 95 (0,0))) (h0:∃ z,c[0]? = some (.int .i64 z)) (hX:¬ PX p T w0.heap.size) (hB:B ≤ w0.heap.size) (hu:Sim s u)
    (hr:∃ cs,RowAt w 95 5 v r.length cs ∧ EvRows w (PX p T) r cs) (hv:v.ownBlock = T.rv.ownBlock) (hav:AttrRow w av x.attrs) (hax:∀ k,av.ownBlock = some k → ¬ PX p T k)
    (hW:W = w.setCell ⟨p,15,none⟩ v ∧ depthE x.kind s.depth = s.depth ∨ W = (w.setCell ⟨p,15,none⟩ v).setCell ⟨p,12,none⟩ (.int .i64 (depthE x.kind s.depth))) (x0 x1 x2 x3 x4:Value) (o:Obj) {e:Ending} (he:e = .returned (.tuple #[.agg #[.int .i64 x.kind,.int .i64 x.at_,.string (strOfNums x.name),.string (strOfNums x.text),av],.bool true])) :
    ∃ s' T',PS ((w5s W w0.heap.size x0 x1 x2 x3 x4).alloc o) p B bs L s' T' ∧ Fx w0 ((w5s W w0.heap.size x0 x1 x2 x3 x4).alloc o) p T0 T' ∧ Sim s' { u with ready:=r,depth:=depthE x.kind u.depth } ∧ OutNx ((w5s W w0.heap.size x0 x1 x2 x3 x4).alloc o) p T' (some x) e:=by
  have hpN:p ≠ w0.heap.size:=fun e=>hX (.inl e.symm)
  have hav2:∀ k,av.ownBlock = some k → k ≠ w0.heap.size:=by
   intro k hk e
   subst e
   rcases hav.2 with ⟨rfl,_⟩ | ⟨g,off,cap,cur,rfl,hg,_⟩
   · simp [Value.ownBlock] at hk
   ·simp [Value.ownBlock] at hk
    subst hk
    rw [hkc] at hg
    simp at hg
  have hWs:∀ k,k ≠ p → W.heap[k]? = w.heap[k]?:=by
   intro k hk
   rcases hW with ⟨rfl,_⟩ | rfl
   · exact Below.heap_setCell w ⟨p,15,none⟩ _ k hk
   · exact (Below.heap_setCell _ ⟨p,12,none⟩ _ k hk).trans (Below.heap_setCell w ⟨p,15,none⟩ _ k hk)
  have hPW:PS W p B bs L { s with ready:=r,depth:=depthE x.kind s.depth } { T with rv:=v } ∧ Fx w W p T { T with rv:=v }:=by
   obtain ⟨q1,q2⟩:=h.readied (w':=w) (v:=v) (l:=r) ⟨rfl,rfl,rfl,Nat.le_refl _,fun _ _ _=>rfl⟩ hr (.inl hv)
   rcases hW with ⟨rfl,hd⟩ | rfl
   ·rw [hd]
    exact ⟨q1,q2⟩
   ·obtain ⟨q3,q4⟩:=q1.set (s':={ s with ready:=r,depth:=depthE x.kind s.depth }) 12 (.int .i64 (depthE x.kind s.depth)) (by decide) rfl rfl rfl rfl
    exact ⟨q3,q2.trans q4⟩
  obtain ⟨q1,q2⟩:=hPW
  have hkc2:W.heap[w0.heap.size]? = some (.cells c 95 (0,0)):=(hWs _ (fun e=>hpN e.symm)).trans hkc
  have hPX:∀ k,PX p { T with rv:=v } k → PX p T k:=by
   intro k hk
   rcases hk with hk | hk | hk | hk
   · exact .inl hk
   · exact .inr (.inl hk)
   · exact .inr (.inr (.inl hk))
   · exact .inr (.inr (.inr (hv ▸ hk)))
  have q3:=q1.off5 hkc2 h0 (fun hx=>hX (hPX _ hx)) hB x0 x1 x2 x3 x4
  have q4:=(hF.trans q2).off5 (Nat.le_refl _) x0 x1 x2 x3 x4
  have hset:=set5_block W w0.heap.size x0 x1 x2 x3 x4
  generalize w5s W w0.heap.size x0 x1 x2 x3 x4 = W5 at *
  have hb5:=(Below.refl W5.heap.size W5).alloc (Nat.le_refl _) o
  refine ⟨_,_,q3.below hb5,q4.trans (Fx.of_below hb5),hu.pop r x.kind,av,he,hav.move fun k hk=>?_,fun k hk hx=>hax k hk (hPX _ hx)⟩
  have hkl:=hav.lt k hk
  have e5:W5.heap[k]? = w.heap[k]?:=(hset k (hav2 k hk)).trans (hWs k (fun e=>hax k hk (.inl e)))
  rw [alloc_old _ _ _ (by
   rw [Array.getElem?_eq_getElem hkl] at e5
   exact (Array.getElem?_eq_some_iff.1 e5).1)]
  exact e5
theorem next_ret2 {W:World} {b:Nat} {u0 u1 u2 u3 u4 x0 x1 x2 x3 x4:Value} (r0:W.cell? ⟨b,0,none⟩ = some u0) (r1:W.cell? ⟨b,1,none⟩ = some u1) (r2:W.cell? ⟨b,2,none⟩ = some u2) (r3:W.cell? ⟨b,3,none⟩ = some u3) (r4:W.cell? ⟨b,4,none⟩ = some u4) {T:Array Value} {ok:Bool} (o:Obj)
    (h2:T.getD 2 undef = .pointer (some ⟨b,0,none⟩)) (h3:T.getD 3 undef = .bool ok) {R:Ending → World → Prop}
    (hR:R (.returned (.tuple #[.agg #[x0,x1,x2,x3,x4],.bool ok])) ((w5s W b x0 x1 x2 x3 x4).alloc o)) :
    bodyPost Tryz.prog Tryz.f40 R .ret { tmps:=T,defers:=[] } ((w5s W b x0 x1 x2 x3 x4).alloc o):=by
  obtain ⟨d0,d1,d2,d3,d4⟩:=set5 W b x0 x1 x2 x3 x4 r0 r1 r2 r3 r4
  refine bodyPost_ret (v:=.tuple #[.agg #[x0,x1,x2,x3,x4],.bool ok]) ?_ rfl hR
  generalize w5s W b x0 x1 x2 x3 x4 = W2 at *
  have c0:=(World.cell?_of_block (alloc_old W2 o b (lt_of_cell d0))).trans d0
  have c1:=(World.cell?_of_block (alloc_old W2 o b (lt_of_cell d0))).trans d1
  have c2:=(World.cell?_of_block (alloc_old W2 o b (lt_of_cell d0))).trans d2
  have c3:=(World.cell?_of_block (alloc_old W2 o b (lt_of_cell d0))).trans d3
  have c4:=(World.cell?_of_block (alloc_old W2 o b (lt_of_cell d0))).trans d4
  generalize W2.alloc o = W3 at *
  rw [Array.getD_eq_getD_getElem?] at h2 h3
  simp [results,Tryz.f40,go_sem,h2,h3,c0,c1,c2,c3,c4]
set_option maxRecDepth 100000 in
set_option maxHeartbeats 4000000 in
theorem nextU_c {w0:World} {p B:Nat} {bs:List Int} {L:Lim} {s t u:St} {T:Tv} (hfu:fillE bs L t = u) (h:PS w0 p B bs L s T) (hL:LOk L) (hI:Inv bs L t) (hs:Sim s t) :
    Calls Tryz.prog 40 #[.pointer (some ⟨p,0,none⟩)] w0 fun e W=>∃ s' T',PS W p B bs L s' T' ∧ Fx w0 W p T T' ∧ Sim s' (popE u).2 ∧ OutNx W p T' (popE u).1 e:=by
  have hb1:=(Below.refl w0.heap.size w0).alloc (Nat.le_refl _) (.cells #[.int .i64 0,.int .i64 0,.string ⟨#[]⟩,.string ⟨#[]⟩,.slice none 0 0] 95)
  have hS1:=h.below hb1
  have hF1:=Fx.of_below (T:=T) (p:=p) hb1
  have hRV:(w0.alloc (.cells #[.int .i64 0,.int .i64 0,.string ⟨#[]⟩,.string ⟨#[]⟩,.slice none 0 0] 95)).heap[w0.heap.size]? = some (.cells #[.int .i64 0,.int .i64 0,.string ⟨#[]⟩,.string ⟨#[]⟩,.slice none 0 0] 95 (0,0)):=heap_alloc_new _ _
  have hRx:∀ k,PX p T k → k < w0.heap.size:=h.xlt
  have hRl:w0.heap.size < (w0.alloc (.cells #[.int .i64 0,.int .i64 0,.string ⟨#[]⟩,.string ⟨#[]⟩,.slice none 0 0] 95)).heap.size:=by simp
  clear hb1
  go_enter Tryz.func40,Tryz.ntmps40
  go_wp2
  go_loopw [19] (fun _ wr=>∃ (s10:St) (T10:Tv),PS wr p B bs L s10 T10 ∧ Fx (w0.alloc (.cells #[.int .i64 0,.int .i64 0,.string ⟨#[]⟩,.string ⟨#[]⟩,.slice none 0 0] 95)) wr p T T10 ∧ (Sim s10 t ∨ ((t.ready = [] ∧ t.state ≠ 3) ∧ Sim s10 (stepE bs L t)))) (fun _ wr=>actOf p wr)
  case atStart=>exact ⟨s,T,hS1,Fx.refl _ _ _,.inl hs⟩
  case round=>
   rename World=>w10
   obtain ⟨s10,T10,hS10,hF10,hsim⟩:=hrel
   obtain ⟨cs10,hcs10,hev10⟩:=hS10.ready
   obtain ⟨A2,c2,hT2,hcc2⟩:=hcs10.slice
   have h15:w10.cell? ⟨p,15,none⟩ = some (.slice A2 s10.ready.length c2):=(hS10.cells 15).trans (congrArg some hT2)
   have h8:w10.cell? ⟨p,8,none⟩ = some (.int .i64 s10.state):=hS10.cells 8
   have hRV10:=(hF10.block w0.heap.size hRl (fun hx=>by have:=hRx _ hx;omega)).trans hRV
   have rv0:w10.cell? ⟨w0.heap.size,0,none⟩ = some (.int .i64 0):=blk_cell hRV10 0
   have rv1:w10.cell? ⟨w0.heap.size,1,none⟩ = some (.int .i64 0):=blk_cell hRV10 1
   have rv2:w10.cell? ⟨w0.heap.size,2,none⟩ = some (.string ⟨#[]⟩):=blk_cell hRV10 2
   have rv3:w10.cell? ⟨w0.heap.size,3,none⟩ = some (.string ⟨#[]⟩):=blk_cell hRV10 3
   have rv4:w10.cell? ⟨w0.heap.size,4,none⟩ = some (.slice none 0 0):=blk_cell hRV10 4
   have rf0:=blk_frz hRV10 0
   have rf1:=blk_frz hRV10 1
   have rf2:=blk_frz hRV10 2
   have rf3:=blk_frz hRV10 3
   have rf4:=blk_frz hRV10 4
   have hX10:¬ PX p T10 w0.heap.size:=fun hx=>(hF10.grow _ hx).elim (fun hx=>by have:=hRx _ hx;omega) (by omega)
   have hBk:B ≤ w0.heap.size:=by have:=h.base p (.inl rfl);have:=h.lt;omega
   have hO5:=hS10.off5 hRV10 ⟨_,rfl⟩ hX10 hBk
   have hF5:=fun x0 x1 x2 x3 x4=>(hF1.trans hF10).off5 (Nat.le_refl _) x0 x1 x2 x3 x4
   by_cases hact:s10.ready = [] ∧ s10.state ≠ 3
   ·obtain ⟨hr0,h3⟩:=hact
    have hz:((s10.ready.length:Int) == 0) = true:=by rw [hr0];rfl
    have hz3:((s10.state:Int) != 3) = true:=by rw [bne_iff_ne];omega
    have hst:s10 = t:=by
     rcases hsim with hs | ⟨⟨hr,h4⟩,hs⟩
     ·rcases hs with e | ⟨e,e2,_⟩
      · exact e
      · exact absurd e2 h3
     · exact absurd (step_done h.bytes hI hr h4) (by rw [← hs.eqs.1,← hs.eqs.2.1];exact fun e=>e ⟨hr0,h3⟩)
    subst hst
    have hn:=step_c hS10 hL hI.good hr0 hI.fin (by have:=hI.top;omega)
    have hact1:=hS10.act
    rw [if_pos ⟨hr0,h3⟩] at hact1
    clear hcs10 hev10
    go_wp2_with (go_at_call 62;go_loud (refine hn.mono ?_;clear hn;rintro e w2 ⟨rfl,s5,T5,hS5,hF5,hR5⟩))
    have hsim5:Sim s5 (stepE bs L s10):=by
     unfold stepE
     unfold StepR at hR5
     split at hR5
     ·rename_i s1 hb
      (try rw [hb])
      exact .inl hR5
     ·rename_i f hb
      (try rw [hb])
      exact .inr ⟨rfl,hR5.2.1,hR5.1,hR5.2.2.1,hR5.2.2.2.1,hR5.2.2.2.2.1,hR5.2.2.2.2.2⟩
    have hdone:=step_done h.bytes hI hr0 h3
    rw [← hsim5.eqs.1,← hsim5.eqs.2.1] at hdone
    refine ⟨⟨s5,T5,hS5,hF10.trans hF5,.inr ⟨⟨hr0,h3⟩,hsim5⟩⟩,?_⟩
    rw [hact1,hS5.act,if_neg hdone]
    decide
   · have hu:Sim s10 (fillE bs L t):=by
       unfold fillE
       rcases hsim with hs | ⟨hr,hs⟩
       ·rw [if_neg (by rw [← hs.eqs.1,← hs.eqs.2.1];exact hact)]
        exact hs
       ·rw [if_pos hr]
        exact hs
     rw [hfu] at hu
     clear hsim hfu hI
     obtain ⟨hu1,hu2,hu3,hu4,hu5,hu6⟩:=hu.eqs
     cases hr0:s10.ready with
     | nil=>
      have hz:((s10.ready.length:Int) == 0) = true:=by rw [hr0];rfl
      have hz3:((s10.state:Int) != 3) = false:=by
       rw [bne_eq_false_iff_eq]
       by_cases e:s10.state = 3
       · omega
       · exact absurd ⟨hr0,e⟩ hact
      have hpo:popE u = (none,u):=by
       unfold popE
       rw [← hu2,hr0]
      rw [hr0] at h15
      clear hcs10 hev10 hu1 hu2 hu3 hu4 hu5 hu6
      go_wp2
      refine next_ret rv0 rv1 rv2 rv3 rv4 rfl rfl ?_
      rw [hpo]
      exact ⟨s10,T10,hO5 _ _ _ _ _,hF5 _ _ _ _ _,hu,rfl⟩
     | cons x r=>
      rw [hr0] at h15 hT2
      have hpo:popE u = (some x,{ u with ready:=r,depth:=depthE x.kind u.depth }):=by
       unfold popE
       rw [← hu2,hr0]
      rw [hr0] at hcs10 hev10
      obtain ⟨av,rest,rfl,hav,hax,hevr⟩:=hev10
      obtain ⟨g,off,e1⟩:=hcs10.some hT2 (Nat.succ_pos _)
      subst e1
      obtain ⟨A3,c3,e3,_⟩:=hav.slice
      subst e3
      have z0:w10.cell? ⟨g,off,none⟩ = some (.int .i64 x.kind):=hcs10.cells hT2 0 _ rfl
      have z1:w10.cell? ⟨g,off + 1,none⟩ = some (.int .i64 x.at_):=hcs10.cells hT2 1 _ rfl
      have z2:w10.cell? ⟨g,off + 2,none⟩ = some (.string (strOfNums x.name)):=hcs10.cells hT2 2 _ rfl
      have z3:w10.cell? ⟨g,off + 3,none⟩ = some (.string (strOfNums x.text)):=hcs10.cells hT2 3 _ rfl
      have z4:w10.cell? ⟨g,off + 4,none⟩ = some (.slice A3 x.attrs.length c3):=hcs10.cells hT2 4 _ rfl
      have hf15:=hS10.frz 15
      have hf12:=hS10.frz 12
      have hpl:=hS10.lt
      have hNl:w0.heap.size < w10.heap.size:=lt_of_cell rv0
      have ca:∀ o k i v,k < w10.heap.size → w10.cell? ⟨k,i,none⟩ = some v → (w10.alloc o).cell? ⟨k,i,none⟩ = some v:=fun o k i v hk hv=>(World.cell?_of_block (alloc_old w10 o k hk)).trans hv
      have fa:∀ o k i,k < w10.heap.size → w10.frozen? ⟨k,i,none⟩ = false → (w10.alloc o).frozen? ⟨k,i,none⟩ = false:=fun o k i hk hv=>(World.frozen?_of_block (alloc_old w10 o k hk)).trans hv
      have h12:w10.cell? ⟨p,12,none⟩ = some (.int .i64 s10.depth):=hS10.cells 12
      have a15:=fun o=>ca o p 15 _ hpl h15
      have a12:=fun o=>ca o p 12 _ hpl h12
      have g15:=fun o=>fa o p 15 hpl hf15
      have g12:=fun o=>fa o p 12 hpl hf12
      have b0:=fun o=>ca o _ 0 _ hNl rv0
      have b1:=fun o=>ca o _ 1 _ hNl rv1
      have b2:=fun o=>ca o _ 2 _ hNl rv2
      have b3:=fun o=>ca o _ 3 _ hNl rv3
      have b4:=fun o=>ca o _ 4 _ hNl rv4
      have e0:=fun o=>fa o _ 0 hNl rf0
      have e1:=fun o=>fa o _ 1 hNl rf1
      have e2:=fun o=>fa o _ 2 hNl rf2
      have e3:=fun o=>fa o _ 3 hNl rf3
      have e4:=fun o=>fa o _ 4 hNl rf4
      have hrest1:c2 = 1 → RowAt w10 95 5 (.slice (some ⟨g,off,none⟩) r.length 0) r.length rest:=by
       intro e
       rw [hT2,e] at hcs10
       exact RowAt.rest1 (ys:=[_,_,_,_,_]) hcs10 rfl
      have hrest2:RowAt w10 95 5 (.slice (some ⟨g,off + 5,none⟩) r.length (c2 - 1)) r.length rest:=by
       rw [hT2] at hcs10
       exact RowAt.rest (ys:=[_,_,_,_,_]) hcs10 rfl
      have hown:∀ a n c,(Value.slice (some ⟨g,a,none⟩) n c).ownBlock = T10.rv.ownBlock:=fun a n c=>by rw [hT2];rfl
      clear hu1 hu2 hu3 hu4 hu5 hu6 ca fa
      have hpN:p ≠ w0.heap.size:=fun e=>hX10 (.inl e.symm)
      have oth:∀ (W:World) (i j:Nat) (v v2:Value),W.cell? ⟨w0.heap.size,i,none⟩ = some v → (W.setCell ⟨p,j,none⟩ v2).cell? ⟨w0.heap.size,i,none⟩ = some v:=fun W i j v v2 hv=>(World.cell?_setCell_other W _ _ _ (fun e=>hpN (by cases e;rfl))).trans hv
      have hdep:(x.kind == 1) = true → depthE x.kind s10.depth = Go.RowKit.wrap64 (s10.depth + 1):=fun e=>if_pos (beq_iff_eq.1 e)
      have hdep2:(x.kind == 1) = false → (x.kind == 2) = true → depthE x.kind s10.depth = Go.RowKit.wrap64 (s10.depth - 1):=fun e e2=>(if_neg (by rw [beq_eq_false_iff_ne] at e;exact e)).trans (if_pos (beq_iff_eq.1 e2))
      have hdep3:(x.kind == 1) = false → (x.kind == 2) = false → depthE x.kind s10.depth = s10.depth:=fun e e2=>(if_neg (by rw [beq_eq_false_iff_ne] at e;exact e)).trans (if_neg (by rw [beq_eq_false_iff_ne] at e2;exact e2))
      go_wp2
      all_goals refine next_ret2 (u0:=.int .i64 0) (u1:=.int .i64 0) (u2:=.string ⟨#[]⟩) (u3:=.string ⟨#[]⟩) (u4:=.slice none 0 0) ?_ ?_ ?_ ?_ ?_ _ rfl rfl ?_
      all_goals first
       | exact oth _ _ _ _ _ (by assumption)
       | exact oth _ _ _ _ _ (oth _ _ _ _ _ (by assumption))
       | skip
      all_goals first
       | (
        refine next_leaf (v:=.slice (some ⟨g,off,none⟩) r.length 0) hS10 (hF1.trans hF10) hRV10 ⟨_,rfl⟩ hX10 hBk hu (r:=r) (av:=.slice A3 x.attrs.length c3) ⟨rest,hrest1 (by assumption),hevr⟩ (hown _ _ _) hav hax ?_ _ _ _ _ _ _ rfl
        first
        | exact .inl ⟨rfl,hdep3 (by assumption) (by assumption)⟩
        | (
         refine .inr ?_
         rw [hdep (by assumption)]
         done)
        | (
         refine .inr ?_
         rw [hdep2 (by assumption) (by assumption)]
         done))
       | (
        refine next_leaf (v:=.slice (some ⟨g,off + 5,none⟩) r.length (c2 - 1)) hS10 (hF1.trans hF10) hRV10 ⟨_,rfl⟩ hX10 hBk hu (r:=r) (av:=.slice A3 x.attrs.length c3) ⟨rest,hrest2,hevr⟩ (hown _ _ _) hav hax ?_ _ _ _ _ _ _ rfl
        first
        | exact .inl ⟨rfl,hdep3 (by assumption) (by assumption)⟩
        | (
         refine .inr ?_
         rw [hdep (by assumption)]
         done)
        | (
         refine .inr ?_
         rw [hdep2 (by assumption) (by assumption)]
         done))
theorem nextE_c {w0:World} {p B:Nat} {bs:List Int} {L:Lim} {s t:St} {T:Tv} (h:PS w0 p B bs L s T) (hL:LOk L) (hI:Inv bs L t) (hs:Sim s t) :
    Calls Tryz.prog 40 #[.pointer (some ⟨p,0,none⟩)] w0 fun e W=>∃ s' T',PS W p B bs L s' T' ∧ Fx w0 W p T T' ∧ Sim s' (nextE bs L t).2 ∧ OutNx W p T' (nextE bs L t).1 e :=
  nextU_c (u:=fillE bs L t) rfl h hL hI hs
end Go.Proofs.YtbaokjfhigjpdaaGreatDoorX
end
