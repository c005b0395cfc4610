/- What is proved: what the claims of this seat share, part 5: a program of ours merged it out of our own texts, the print's words and the laid shelf. Conditions: those of each. -/
import Derived.Test.YtbaokjfhigjpdaaGreatDoorMB4
set_option linter.unusedVariables false
set_option linter.unusedSimpArgs false
section
namespace Go.Proofs.YtbaokjfhigjpdaaGreatDoor.PNsBase
open Go.RowKit Go.Proofs.YtbaokjfhigjpdaaGreatDoorW.PrintWords Go.Proofs.YtbaokjfhigjpdaaGreatDoorW.PrintLast Go.Proofs.YtbaokjfhigjpdaaGreatDoorW.PrintMore
attribute [local go_sem] max2_int min2_int max_two min_two max_three min_three max_four min_four   -- for this text's walks alone
set_option linter.unusedVariables false
set_option linter.unusedSimpArgs false
def char_QName.j0:Nat → ByteArray → ByteArray → Bool → Option (ByteArray × ByteArray × Bool)
  | 0,_,_,_=>none
  | k + 1,x5,x6,x7=>if x7 = true then ((char_NCName.f k x5).bind fun t125=>(if t125 = true then ((char_NCName.f k x6).bind fun t126=>(if t126 = true then (some (x5,x6,true)) else (some ((⟨#[]⟩:ByteArray),(⟨#[]⟩:ByteArray),false)))) else (some ((⟨#[]⟩:ByteArray),(⟨#[]⟩:ByteArray),false)))) else ((char_NCName.f k x6).bind fun t127=>(if t127 = true then (some (x5,x6,true)) else (some ((⟨#[]⟩:ByteArray),(⟨#[]⟩:ByteArray),false))))
def char_QName.f (k:Nat) (a0:ByteArray):Option (ByteArray × ByteArray × Bool):=(strings_Cut.f a0 (⟨#[58]⟩:ByteArray)).bind fun bt122=>(if bt122.2.2 = true then (char_QName.j0 k bt122.1 bt122.2.1 bt122.2.2) else (char_QName.j0 k (⟨#[]⟩:ByteArray) a0 bt122.2.2))
theorem char_QName.mono_l:∀ k,(∀ y0 y1 y2,LeO (char_QName.j0 k y0 y1 y2) (char_QName.j0 (k + 1) y0 y1 y2))
  | 0=>fun _ _ _ r h=>by simp [char_QName.j0] at h
  | k + 1=>by
   have ih0:=char_QName.mono_l k
   ·intro y0 y1 y2
    unfold char_QName.j0
    repeat' first
    | (with_reducible exact ih0 _ _ _)
    | (with_reducible exact char_NCName.mono _ _)
    | (with_reducible exact LeO.refl _)
    | (with_reducible exact LeO.none _)
    | (with_reducible refine LeO.ite ?_ ?_)
    | (with_reducible refine LeO.bind ?_ (fun _=>?_))
    | exact ih0 _ _ _
    | exact char_NCName.mono _ _
    | exact LeO.none _
    | refine LeO.ite ?_ ?_
    | refine LeO.bind ?_ (fun _=>?_)
theorem char_QName.mono:∀ a0 k,LeO (char_QName.f k a0) (char_QName.f (k + 1) a0):=by
 intro a0 k
 have ih0:=char_QName.mono_l k
 unfold char_QName.f
 repeat' first
  | (with_reducible exact ih0 _ _ _)
  | (with_reducible exact char_NCName.mono _ _)
  | (with_reducible exact LeO.refl _)
  | (with_reducible exact LeO.none _)
  | (with_reducible refine LeO.ite ?_ ?_)
  | (with_reducible refine LeO.bind ?_ (fun _=>?_))
  | exact ih0 _ _ _
  | exact char_NCName.mono _ _
  | exact LeO.none _
  | refine LeO.ite ?_ ?_
  | refine LeO.bind ?_ (fun _=>?_)
set_option maxHeartbeats 8000000 in
set_option maxRecDepth 100000 in
theorem char_QName.calls (k:Nat) (a0:ByteArray) (r1:ByteArray) (r2:ByteArray) (r3:Bool) (w:World) (h:char_QName.f k a0 = some (r1,r2,r3)) :
    Calls Tryz.prog 123 #[.string a0] w fun e w'=>e = .returned (.tuple #[.string r1,.string r2,.bool r3]) ∧ Below w.heap.size w w':=by
  have HB:=Aside0.mk (Below.refl w.heap.size w)
  have H:((strings_Cut.f a0 (⟨#[58]⟩:ByteArray)).bind fun bt122=>(if bt122.2.2 = true then (char_QName.j0 k bt122.1 bt122.2.1 bt122.2.2) else (char_QName.j0 k (⟨#[]⟩:ByteArray) a0 bt122.2.2))) = some (r1,r2,r3):=h
  clear h
  replace H:=Option.bind_eq_some_iff.mp H
  obtain ⟨⟨t122,t123,t124⟩,A20,H⟩:=H
  replace H:(if t124 = true then (char_QName.j0 k t122 t123 t124) else (char_QName.j0 k (⟨#[]⟩:ByteArray) a0 t124)) = some (r1,r2,r3):=H
  have A2:=Aside0.mk A20
  clear A20
  have HC3:=Aside0.mk H
  clear H
  go_enter Tryz.func123,Tryz.ntmps123
  go_upto_if 15 with (first | ((with_reducible refine gate_callee (f:=163) rfl ?_);refine goesL_ (some 10) rfl rfl Tryz.func163 (by kernel_rfl) rfl #[.string a0,.string (⟨#[58]⟩:ByteArray)] rfl (by (try simp only [List.map_toArray,List.map_cons,List.map_nil]);first | done | rfl | (simp only [List.length_drop,List.length_take];rfl)) ?_;(with_reducible refine (strings_Cut.calls a0 (⟨#[58]⟩:ByteArray) t122 t123 t124 _ A2.out).mono ?_);rintro e w' ⟨rfl,⟨nd,rfl⟩⟩;refine ⟨_,rfl,?_⟩))
  (try simp only [Act.put,List.setIfInBounds_toArray,List.set_cons_zero,List.set_cons_succ])
  go_cut [5,6] (fun v5 v6 wc=>∃ (kq:Nat) (x5_2:ByteArray) (x6_2:ByteArray),v5 = .string x5_2 ∧ v6 = .string x6_2 ∧ Aside0 (char_QName.j0 kq x5_2 x6_2 t124 = some (r1,r2,r3)) ∧ Aside0 (kq ≤ k) ∧ Aside0 (Below w.heap.size w wc))
  case first=>
   have H:=HC3.out
   clear HC3
   by_cases c4:t124 = true
   ·subst c4
    have H1:(char_QName.j0 k t122 t123 true) = some (r1,r2,r3):=by rw [if_pos rfl] at H;exact H
    clear H
    have H:=H1
    clear H1
    have H':=Aside0.mk H
    clear H
    go_wp2
    go_meet
    case rel=>exact ⟨_,(t122),(t123),(by first | rfl | (simp;done) | (simp [*];done)),(by first | rfl | (simp;done) | (simp [*];done)),H',⟨by first | omega | exact Nat.le_refl _⟩,⟨by repeat (first | (with_reducible first | exact HB.out | apply below_alloc | apply pw_below_drewN | apply below_drew1) | exact HB.out)⟩⟩
   ·replace c4:=Bool.eq_false_iff.mpr c4
    subst c4
    have H1:(char_QName.j0 k (⟨#[]⟩:ByteArray) a0 false) = some (r1,r2,r3):=by rw [if_neg (show ¬ (false = true) by decide)] at H;exact H
    clear H
    have H:=H1
    clear H1
    have H':=Aside0.mk H
    clear H
    go_wp2
    go_meet
    case rel=>exact ⟨_,((⟨#[]⟩:ByteArray)),(a0),(by first | rfl | (simp;done) | (simp [*];done)),(by first | rfl | (simp;done) | (simp [*];done)),H',⟨by first | omega | exact Nat.le_refl _⟩,⟨by repeat (first | (with_reducible first | exact HB.out | apply below_alloc | apply pw_below_drewN | apply below_drew1) | exact HB.out)⟩⟩
  case rest=>
   clear HC3
   try clear c1
   try clear p2
   try clear c4
   obtain ⟨kq,x5_2,x6_2,rfl,rfl,HA,HJ2,HB⟩:=hcut
   cases kq with
   | zero=>exact absurd HA.out (by simp [char_QName.j0])
   | succ kj2=>
    have H:=HA.out
    clear HA
    simp only [char_QName.j0] at H
    by_cases c5:t124 = true
    ·subst c5
     have H1:((char_NCName.f kj2 x5_2).bind fun t125=>(if t125 = true then ((char_NCName.f kj2 x6_2).bind fun t126=>(if t126 = true then (some (x5_2,x6_2,true)) else (some ((⟨#[]⟩:ByteArray),(⟨#[]⟩:ByteArray),false)))) else (some ((⟨#[]⟩:ByteArray),(⟨#[]⟩:ByteArray),false)))) = some (r1,r2,r3):=by rw [if_pos rfl] at H;exact H
     clear H
     have H:=H1
     clear H1
     replace H:=Option.bind_eq_some_iff.mp H
     obtain ⟨t125,A60,H⟩:=H
     replace H:(if t125 = true then ((char_NCName.f kj2 x6_2).bind fun t126=>(if t126 = true then (some (x5_2,x6_2,true)) else (some ((⟨#[]⟩:ByteArray),(⟨#[]⟩:ByteArray),false)))) else (some ((⟨#[]⟩:ByteArray),(⟨#[]⟩:ByteArray),false))) = some (r1,r2,r3):=H
     have A6:=Aside0.mk A60
     clear A60
     by_cases c7:t125 = true
     ·subst c7
      have H1:((char_NCName.f kj2 x6_2).bind fun t126=>(if t126 = true then (some (x5_2,x6_2,true)) else (some ((⟨#[]⟩:ByteArray),(⟨#[]⟩:ByteArray),false)))) = some (r1,r2,r3):=by rw [if_pos rfl] at H;exact H
      clear H
      have H:=H1
      clear H1
      replace H:=Option.bind_eq_some_iff.mp H
      obtain ⟨t126,A80,H⟩:=H
      replace H:(if t126 = true then (some (x5_2,x6_2,true)) else (some ((⟨#[]⟩:ByteArray),(⟨#[]⟩:ByteArray),false))) = some (r1,r2,r3):=H
      have A8:=Aside0.mk A80
      clear A80
      by_cases c9:t126 = true
      ·subst c9
       have H1:(some (x5_2,x6_2,true)) = some (r1,r2,r3):=by rw [if_pos rfl] at H;exact H
       clear H
       have H:=H1
       clear H1
       simp only [Option.some.injEq,Prod.mk.injEq] at H
       obtain ⟨rfl,rfl,rfl⟩:=H
       go_wp2_with (first | (go_at_call 84;(with_reducible refine (char_NCName.calls kj2 x5_2 true _ A6.out).mono ?_);rintro e w10 ⟨rfl,hb⟩;have n0_:=Aside0.mk (below_step (by repeat (first | (with_reducible first | exact HB.out | apply below_alloc | apply pw_below_drewN | apply below_drew1) | exact HB.out)) hb);clear HB;have HB:=n0_;clear n0_;(try clear hb);(try clear hb2);(try clear hk);(try clear hi)) | (go_at_call 84;(with_reducible refine (char_NCName.calls kj2 x6_2 true _ A8.out).mono ?_);rintro e w11 ⟨rfl,hb⟩;have n0_:=Aside0.mk (below_step (by repeat (first | (with_reducible first | exact HB.out | apply below_alloc | apply pw_below_drewN | apply below_drew1) | exact HB.out)) hb);clear HB;have HB:=n0_;clear n0_;(try clear hb);(try clear hb2);(try clear hk);(try clear hi)))
       go_ret3
       exact ⟨by first | rfl | (simp [errW_none,errW_some] <;> rfl) | (simp [*,errW_none,errW_some] <;> rfl),by repeat (first | (with_reducible first | exact HB.out | apply below_alloc | apply pw_below_drewN | apply below_drew1) | exact HB.out)⟩
      ·replace c9:=Bool.eq_false_iff.mpr c9
       subst c9
       have H1:(some ((⟨#[]⟩:ByteArray),(⟨#[]⟩:ByteArray),false)) = some (r1,r2,r3):=by rw [if_neg (show ¬ (false = true) by decide)] at H;exact H
       clear H
       have H:=H1
       clear H1
       simp only [Option.some.injEq,Prod.mk.injEq] at H
       obtain ⟨rfl,rfl,rfl⟩:=H
       go_wp2_with (first | (go_at_call 84;(with_reducible refine (char_NCName.calls kj2 x5_2 true _ A6.out).mono ?_);rintro e w12 ⟨rfl,hb⟩;have n0_:=Aside0.mk (below_step (by repeat (first | (with_reducible first | exact HB.out | apply below_alloc | apply pw_below_drewN | apply below_drew1) | exact HB.out)) hb);clear HB;have HB:=n0_;clear n0_;(try clear hb);(try clear hb2);(try clear hk);(try clear hi)) | (go_at_call 84;(with_reducible refine (char_NCName.calls kj2 x6_2 false _ A8.out).mono ?_);rintro e w13 ⟨rfl,hb⟩;have n0_:=Aside0.mk (below_step (by repeat (first | (with_reducible first | exact HB.out | apply below_alloc | apply pw_below_drewN | apply below_drew1) | exact HB.out)) hb);clear HB;have HB:=n0_;clear n0_;(try clear hb);(try clear hb2);(try clear hk);(try clear hi)))
       go_ret3
       exact ⟨by first | rfl | (simp [errW_none,errW_some] <;> rfl) | (simp [*,errW_none,errW_some] <;> rfl),by repeat (first | (with_reducible first | exact HB.out | apply below_alloc | apply pw_below_drewN | apply below_drew1) | exact HB.out)⟩
     ·replace c7:=Bool.eq_false_iff.mpr c7
      subst c7
      have H1:(some ((⟨#[]⟩:ByteArray),(⟨#[]⟩:ByteArray),false)) = some (r1,r2,r3):=by rw [if_neg (show ¬ (false = true) by decide)] at H;exact H
      clear H
      have H:=H1
      clear H1
      simp only [Option.some.injEq,Prod.mk.injEq] at H
      obtain ⟨rfl,rfl,rfl⟩:=H
      go_wp2_with (first | (go_at_call 84;(with_reducible refine (char_NCName.calls kj2 x5_2 false _ A6.out).mono ?_);rintro e w14 ⟨rfl,hb⟩;have n0_:=Aside0.mk (below_step (by repeat (first | (with_reducible first | exact HB.out | apply below_alloc | apply pw_below_drewN | apply below_drew1) | exact HB.out)) hb);clear HB;have HB:=n0_;clear n0_;(try clear hb);(try clear hb2);(try clear hk);(try clear hi)))
      go_ret3
      exact ⟨by first | rfl | (simp [errW_none,errW_some] <;> rfl) | (simp [*,errW_none,errW_some] <;> rfl),by repeat (first | (with_reducible first | exact HB.out | apply below_alloc | apply pw_below_drewN | apply below_drew1) | exact HB.out)⟩
    ·replace c5:=Bool.eq_false_iff.mpr c5
     subst c5
     have H1:((char_NCName.f kj2 x6_2).bind fun t127=>(if t127 = true then (some (x5_2,x6_2,true)) else (some ((⟨#[]⟩:ByteArray),(⟨#[]⟩:ByteArray),false)))) = some (r1,r2,r3):=by rw [if_neg (show ¬ (false = true) by decide)] at H;exact H
     clear H
     have H:=H1
     clear H1
     replace H:=Option.bind_eq_some_iff.mp H
     obtain ⟨t127,A150,H⟩:=H
     replace H:(if t127 = true then (some (x5_2,x6_2,true)) else (some ((⟨#[]⟩:ByteArray),(⟨#[]⟩:ByteArray),false))) = some (r1,r2,r3):=H
     have A15:=Aside0.mk A150
     clear A150
     by_cases c16:t127 = true
     ·subst c16
      have H1:(some (x5_2,x6_2,true)) = some (r1,r2,r3):=by rw [if_pos rfl] at H;exact H
      clear H
      have H:=H1
      clear H1
      simp only [Option.some.injEq,Prod.mk.injEq] at H
      obtain ⟨rfl,rfl,rfl⟩:=H
      go_wp2_with (first | (go_at_call 84;(with_reducible refine (char_NCName.calls kj2 x6_2 true _ A15.out).mono ?_);rintro e w17 ⟨rfl,hb⟩;have n0_:=Aside0.mk (below_step (by repeat (first | (with_reducible first | exact HB.out | apply below_alloc | apply pw_below_drewN | apply below_drew1) | exact HB.out)) hb);clear HB;have HB:=n0_;clear n0_;(try clear hb);(try clear hb2);(try clear hk);(try clear hi)))
      go_ret3
      exact ⟨by first | rfl | (simp [errW_none,errW_some] <;> rfl) | (simp [*,errW_none,errW_some] <;> rfl),by repeat (first | (with_reducible first | exact HB.out | apply below_alloc | apply pw_below_drewN | apply below_drew1) | exact HB.out)⟩
     ·replace c16:=Bool.eq_false_iff.mpr c16
      subst c16
      have H1:(some ((⟨#[]⟩:ByteArray),(⟨#[]⟩:ByteArray),false)) = some (r1,r2,r3):=by rw [if_neg (show ¬ (false = true) by decide)] at H;exact H
      clear H
      have H:=H1
      clear H1
      simp only [Option.some.injEq,Prod.mk.injEq] at H
      obtain ⟨rfl,rfl,rfl⟩:=H
      go_wp2_with (first | (go_at_call 84;(with_reducible refine (char_NCName.calls kj2 x6_2 false _ A15.out).mono ?_);rintro e w18 ⟨rfl,hb⟩;have n0_:=Aside0.mk (below_step (by repeat (first | (with_reducible first | exact HB.out | apply below_alloc | apply pw_below_drewN | apply below_drew1) | exact HB.out)) hb);clear HB;have HB:=n0_;clear n0_;(try clear hb);(try clear hb2);(try clear hk);(try clear hi)))
      go_ret3
      exact ⟨by first | rfl | (simp [errW_none,errW_some] <;> rfl) | (simp [*,errW_none,errW_some] <;> rfl),by repeat (first | (with_reducible first | exact HB.out | apply below_alloc | apply pw_below_drewN | apply below_drew1) | exact HB.out)⟩
def strings_HasPrefix.f (a0 a1:ByteArray):Option Bool:=some (Lib.hasPrefix a0.data.toList a1.data.toList)
theorem strings_HasPrefix.calls (a0:ByteArray) (a1:ByteArray) (r:Bool) (w:World) (h:strings_HasPrefix.f a0 a1 = some r) :
    Calls Tryz.prog 86 #[.string a0,.string a1] w fun e w'=>e = .returned (.bool r) ∧ Drawn0 w w':=by
  obtain rfl:=Option.some.inj h
  refine (Tryz.strings_HasPrefix a0 a1 w).mono fun e w' hh=>?_
  obtain ⟨rfl,rfl⟩:=hh
  exact ⟨rfl,Drawn0.refl _⟩
end Go.Proofs.YtbaokjfhigjpdaaGreatDoor.PNsBase
end
