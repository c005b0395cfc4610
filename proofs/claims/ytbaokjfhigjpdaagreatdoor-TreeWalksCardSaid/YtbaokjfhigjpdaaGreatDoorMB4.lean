/- What is proved: what the claims of this seat share, part 4: a program of ours merged it out of our own texts, the print's words and the laid shelf. Conditions: those of each. -/
import Derived.Test.YtbaokjfhigjpdaaGreatDoorMB3
import Derived.ArgAppend
import Derived.Below
import Derived.BigQuiet
import Derived.Deep.AppendLies
import Derived.Deep.CutBlock
import Derived.Deep.DeepCutAuto
import Derived.Deep.Draws
import Derived.Deep.LoopGhost
import Derived.Deep.OwnRows
import Derived.Deep.QuietTactic
import Derived.Deep.RegionHeld3
import Derived.KernelRfl
import Derived.Laws.BitsLemmas
import Derived.Laws.BytesArg
import Derived.Laws.IdiomCopy
import Derived.Laws.MakeOwn
import Derived.Laws.OwnMore
import Derived.Laws.Rows
import Derived.Laws.Slices
import Derived.Lib.AppendStr
import Derived.Lib.ConvBytes
import Derived.Lib.SlBytesConst
import Derived.Maps.AppendAt
import Derived.OrdersHeld
import Derived.OwnWalk
import Derived.RowKit
import Derived.RowKit3
import Derived.StillTailTactics
import Derived.Tactics
import Derived.Test.YtbaokjfhigjpdaaGreatDoorProg
import Derived.WalkKit
import Derived.WideLaws
set_option linter.unusedVariables false
set_option linter.unusedSimpArgs false
section
namespace Go.Proofs.YtbaokjfhigjpdaaGreatDoor.PXmlBase
open Go.RowKit Go.Proofs.YtbaokjfhigjpdaaGreatDoorW.PrintWords Go.Proofs.YtbaokjfhigjpdaaGreatDoorW.PrintLast Go.Proofs.YtbaokjfhigjpdaaGreatDoorW.PrintMore
attribute [local go_sem] max2_int min2_int max_two min_two max_three min_three max_four min_four   -- for this text's walks alone
set_option linter.unusedVariables false
set_option linter.unusedSimpArgs false
def errW:Option Int → Value
  | none=>.nilIface
  | some c=>.iface 0 (.int .i64 c)
theorem errW_none:errW none = .nilIface:=rfl
theorem errW_some (c:Int):errW (some c) = .iface 0 (.int .i64 c):=rfl
theorem info5:(Tryz.prog.info? 5).map (fun i=>(i.zero,i.size,i.bytes)) = some (some (.int .u8 0),1,1):=by kernel_rfl
end Go.Proofs.YtbaokjfhigjpdaaGreatDoor.PXmlBase
end
section
namespace Go.Proofs.YtbaokjfhigjpdaaGreatDoor.PXmlBase
open Go.RowKit Go.Proofs.YtbaokjfhigjpdaaGreatDoorW.PrintWords Go.Proofs.YtbaokjfhigjpdaaGreatDoorW.PrintLast Go.Proofs.YtbaokjfhigjpdaaGreatDoorW.PrintMore
attribute [local go_sem] max2_int min2_int max_two min_two max_three min_three max_four min_four   -- for this text's walks alone
set_option linter.unusedVariables false
set_option linter.unusedSimpArgs false
mutual
def xml_digit.j0:Nat → Int → Int → Int → Bool → Option (Int)
  | 0,_,_,_,_=>none
  | k + 1,x0,x1,x5,x6=>if x6 = true then (if (wrap64 (wrap32 (x0 - 48))) ≥ x1 then (some (-1)) else (some (wrap64 (wrap32 (x0 - 48))))) else (if x0 ≥ 97 then (xml_digit.j1 k x0 x1 x5 (decide (x0 ≤ 102))) else (xml_digit.j1 k x0 x1 x5 false))
def xml_digit.j1:Nat → Int → Int → Int → Bool → Option (Int)
  | 0,_,_,_,_=>none
  | k + 1,x0,x1,x5,x16=>if x16 = true then (xml_digit.j2 k x0 x1 x5 x16) else (if x0 ≥ 65 then (xml_digit.j2 k x0 x1 x5 (decide (x0 ≤ 70))) else (xml_digit.j2 k x0 x1 x5 false))
def xml_digit.j2:Nat → Int → Int → Int → Bool → Option (Int)
  | 0,_,_,_,_=>none
  | k + 1,x0,x1,x5,x16=>if x16 = true then (if (wrap64 ((wrap64 (wrap32 ((Go.bits .or .i32 x0 32) - 97))) + 10)) ≥ x1 then (some (-1)) else (some (wrap64 ((wrap64 (wrap32 ((Go.bits .or .i32 x0 32) - 97))) + 10)))) else (if x5 ≥ x1 then (some (-1)) else (some x5))
end
def xml_digit.f (k:Nat) (a0:Int) (a1:Int):Option (Int):=if a0 ≥ 48 then (xml_digit.j0 k a0 a1 (-1) (decide (a0 ≤ 57))) else (xml_digit.j0 k a0 a1 (-1) false)
theorem xml_digit.mono_l:∀ k,(∀ y0 y1 y2 y3,LeO (xml_digit.j0 k y0 y1 y2 y3) (xml_digit.j0 (k + 1) y0 y1 y2 y3)) ∧ (∀ y0 y1 y2 y3,LeO (xml_digit.j1 k y0 y1 y2 y3) (xml_digit.j1 (k + 1) y0 y1 y2 y3)) ∧ (∀ y0 y1 y2 y3,LeO (xml_digit.j2 k y0 y1 y2 y3) (xml_digit.j2 (k + 1) y0 y1 y2 y3))
  | 0=>⟨fun _ _ _ _ r h=>by simp [xml_digit.j0] at h,fun _ _ _ _ r h=>by simp [xml_digit.j1] at h,fun _ _ _ _ r h=>by simp [xml_digit.j2] at h⟩
  | k + 1=>by
   obtain ⟨ih0,ih1,ih2⟩:=xml_digit.mono_l k
   refine ⟨?_,?_,?_⟩
   ·intro y0 y1 y2 y3
    unfold xml_digit.j0
    repeat' first
    | (with_reducible exact ih0 _ _ _ _)
    | (with_reducible exact ih1 _ _ _ _)
    | (with_reducible exact ih2 _ _ _ _)
    | (with_reducible exact LeO.refl _)
    | (with_reducible exact LeO.none _)
    | (with_reducible refine LeO.ite ?_ ?_)
    | (with_reducible refine LeO.bind ?_ (fun _=>?_))
    | exact ih0 _ _ _ _
    | exact ih1 _ _ _ _
    | exact ih2 _ _ _ _
    | exact LeO.none _
    | refine LeO.ite ?_ ?_
    | refine LeO.bind ?_ (fun _=>?_)
   ·intro y0 y1 y2 y3
    unfold xml_digit.j1
    repeat' first
    | (with_reducible exact ih0 _ _ _ _)
    | (with_reducible exact ih1 _ _ _ _)
    | (with_reducible exact ih2 _ _ _ _)
    | (with_reducible exact LeO.refl _)
    | (with_reducible exact LeO.none _)
    | (with_reducible refine LeO.ite ?_ ?_)
    | (with_reducible refine LeO.bind ?_ (fun _=>?_))
    | exact ih0 _ _ _ _
    | exact ih1 _ _ _ _
    | exact ih2 _ _ _ _
    | exact LeO.none _
    | refine LeO.ite ?_ ?_
    | refine LeO.bind ?_ (fun _=>?_)
   ·intro y0 y1 y2 y3
    unfold xml_digit.j2
    repeat' first
    | (with_reducible exact ih0 _ _ _ _)
    | (with_reducible exact ih1 _ _ _ _)
    | (with_reducible exact ih2 _ _ _ _)
    | (with_reducible exact LeO.refl _)
    | (with_reducible exact LeO.none _)
    | (with_reducible refine LeO.ite ?_ ?_)
    | (with_reducible refine LeO.bind ?_ (fun _=>?_))
    | exact ih0 _ _ _ _
    | exact ih1 _ _ _ _
    | exact ih2 _ _ _ _
    | exact LeO.none _
    | refine LeO.ite ?_ ?_
    | refine LeO.bind ?_ (fun _=>?_)
theorem xml_digit.mono:∀ a0 a1 k,LeO (xml_digit.f k a0 a1) (xml_digit.f (k + 1) a0 a1):=by
 intro a0 a1 k
 obtain ⟨ih0,ih1,ih2⟩:=xml_digit.mono_l k
 unfold xml_digit.f
 repeat' first
  | (with_reducible exact ih0 _ _ _ _)
  | (with_reducible exact ih1 _ _ _ _)
  | (with_reducible exact ih2 _ _ _ _)
  | (with_reducible exact LeO.refl _)
  | (with_reducible exact LeO.none _)
  | (with_reducible refine LeO.ite ?_ ?_)
  | (with_reducible refine LeO.bind ?_ (fun _=>?_))
  | exact ih0 _ _ _ _
  | exact ih1 _ _ _ _
  | exact ih2 _ _ _ _
  | exact LeO.none _
  | refine LeO.ite ?_ ?_
  | refine LeO.bind ?_ (fun _=>?_)
set_option maxHeartbeats 8000000 in
set_option maxRecDepth 100000 in
theorem xml_digit.calls (k:Nat) (a0:Int) (a1:Int) (r:Int) (w:World) (h:xml_digit.f k a0 a1 = some r) :
    Calls Tryz.prog 203 #[.int .i32 a0,.int .i64 a1] w fun e w'=>e = .returned (.int .i64 r) ∧ Drawn0 w w':=by
  have H:(if a0 ≥ 48 then (xml_digit.j0 k a0 a1 (-1) (decide (a0 ≤ 57))) else (xml_digit.j0 k a0 a1 (-1) false)) = some r:=h
  clear h
  have HC3:=Aside0.mk H
  clear H
  go_enter Tryz.func203,Tryz.ntmps203
  go_upto_region 2 with (fail)
  go_cut [6] (fun v6 wc=>∃ (kq:Nat) (x6_2:Bool),v6 = .bool x6_2 ∧ Aside0 (xml_digit.j0 kq a0 a1 (-1) x6_2 = some r) ∧ Aside0 (kq ≤ k) ∧ Drawn0 w wc)
  case first=>
   have H:=HC3.out
   clear HC3
   by_cases c4:a0 ≥ 48
   ·rw [if_pos c4] at H
    have c4b0:decide (48 ≤ a0) = true:=decide_eq_true c4
    clear c4
    (first | rw [c4b0] | (simp only [i64_w,i32_w];rw [c4b0]) | skip)
    have H':=Aside0.mk H
    clear H
    go_wp2
    go_meet
    case rel=>exact ⟨_,(decide (a0 ≤ 57)),(by first | rfl | (simp;done) | (simp [*];done)),H',⟨by first | omega | exact Nat.le_refl _⟩,by repeat (first | exact Drawn0.refl _ | apply Drawn0.step)⟩
   ·rw [if_neg c4] at H
    have c4b0:decide (48 ≤ a0) = false:=decide_eq_false c4
    clear c4
    (first | rw [c4b0] | (simp only [i64_w,i32_w];rw [c4b0]) | skip)
    have H':=Aside0.mk H
    clear H
    go_wp2
    go_meet
    case rel=>exact ⟨_,(false),(by first | rfl | (simp;done) | (simp [*];done)),H',⟨by first | omega | exact Nat.le_refl _⟩,by repeat (first | exact Drawn0.refl _ | apply Drawn0.step)⟩
  case rest=>
   clear HC3
   try clear c2
   try clear p2
   try clear c4
   try clear c4b0
   obtain ⟨kq,x6_2,rfl,HA,HJ2,⟨mc2,rfl⟩⟩:=hcut
   cases kq with
   | zero=>exact absurd HA.out (by simp [xml_digit.j0])
   | succ kj2=>
    have H:=HA.out
    clear HA
    simp only [xml_digit.j0] at H
    by_cases c5:x6_2 = true
    ·subst c5
     have H1:(if (wrap64 (wrap32 (a0 - 48))) ≥ a1 then (some (-1)) else (some (wrap64 (wrap32 (a0 - 48))))) = some r:=by rw [if_pos rfl] at H;exact H
     clear H
     have H:=H1
     clear H1
     by_cases c6:(wrap64 (wrap32 (a0 - 48))) ≥ a1
     ·rw [if_pos c6] at H
      have c6b0:decide (a1 ≤ (wrap64 (wrap32 (a0 - 48)))) = true:=decide_eq_true c6
      clear c6
      obtain rfl:=Option.some.inj H
      go_wp2
      go_ret
      exact ⟨by first | rfl | (simp;done) | (simp [*];done),by repeat (first | exact Drawn0.refl _ | apply Drawn0.step)⟩
     ·rw [if_neg c6] at H
      have c6b0:decide (a1 ≤ (wrap64 (wrap32 (a0 - 48)))) = false:=decide_eq_false c6
      clear c6
      obtain rfl:=Option.some.inj H
      go_wp2
      go_ret
      exact ⟨by first | rfl | (simp;done) | (simp [*];done),by repeat (first | exact Drawn0.refl _ | apply Drawn0.step)⟩
    ·replace c5:=Bool.eq_false_iff.mpr c5
     subst c5
     have H1:(if a0 ≥ 97 then (xml_digit.j1 kj2 a0 a1 (-1) (decide (a0 ≤ 102))) else (xml_digit.j1 kj2 a0 a1 (-1) false)) = some r:=by rw [if_neg (show ¬ (false = true) by decide)] at H;exact H
     clear H
     have H:=H1
     clear H1
     have HC7:=Aside0.mk H
     clear H
     go_upto_region 4 with (fail)
     go_cut [16] (fun v16 wc=>∃ (kq:Nat) (x16_6:Bool),v16 = .bool x16_6 ∧ Aside0 (xml_digit.j1 kq a0 a1 (-1) x16_6 = some r) ∧ Aside0 (kq ≤ kj2) ∧ Drawn0 w wc)
     case first=>
      have H:=HC7.out
      clear HC7
      by_cases c8:a0 ≥ 97
      ·rw [if_pos c8] at H
       have c8b0:decide (97 ≤ a0) = true:=decide_eq_true c8
       clear c8
       (first | rw [c8b0] | (simp only [i64_w,i32_w];rw [c8b0]) | skip)
       have H':=Aside0.mk H
       clear H
       go_wp2
       go_meet
       case rel=>exact ⟨_,(decide (a0 ≤ 102)),(by first | rfl | (simp;done) | (simp [*];done)),H',⟨by have:=HJ2.out;first | omega | exact Nat.le_refl _⟩,by repeat (first | exact Drawn0.refl _ | apply Drawn0.step)⟩
      ·rw [if_neg c8] at H
       have c8b0:decide (97 ≤ a0) = false:=decide_eq_false c8
       clear c8
       (first | rw [c8b0] | (simp only [i64_w,i32_w];rw [c8b0]) | skip)
       have H':=Aside0.mk H
       clear H
       go_wp2
       go_meet
       case rel=>exact ⟨_,(false),(by first | rfl | (simp;done) | (simp [*];done)),H',⟨by have:=HJ2.out;first | omega | exact Nat.le_refl _⟩,by repeat (first | exact Drawn0.refl _ | apply Drawn0.step)⟩
     case rest=>
      clear HC7
      try clear c2
      try clear p2
      try clear p3
      try clear c4
      try clear c4b0
      try clear c5
      try clear c6
      try clear c6b0
      try clear p6
      try clear c8
      try clear c8b0
      try clear p2
      obtain ⟨kq,x16_6,rfl,HA,HJ6,⟨mc6,rfl⟩⟩:=hcut
      cases kq with
      | zero=>exact absurd HA.out (by simp [xml_digit.j1])
      | succ kj6=>
       have H:=HA.out
       clear HA
       simp only [xml_digit.j1] at H
       have HC9:=Aside0.mk H
       clear H
       go_upto_if 16 with (fail)
       go_cut [16] (fun v16 wc=>∃ (kq:Nat) (x16_8:Bool),v16 = .bool x16_8 ∧ Aside0 (xml_digit.j2 kq a0 a1 (-1) x16_8 = some r) ∧ Aside0 (kq ≤ kj6) ∧ Drawn0 w wc)
       case first=>
        have H:=HC9.out
        clear HC9
        by_cases c10:x16_6 = true
        ·subst c10
         have H1:(xml_digit.j2 kj6 a0 a1 (-1) true) = some r:=by rw [if_pos rfl] at H;exact H
         clear H
         have H:=H1
         clear H1
         have H':=Aside0.mk H
         clear H
         go_wp2
         go_meet
         case rel=>exact ⟨_,(true),(by first | rfl | (simp;done) | (simp [*];done)),H',⟨by have:=HJ2.out;have:=HJ6.out;first | omega | exact Nat.le_refl _⟩,by repeat (first | exact Drawn0.refl _ | apply Drawn0.step)⟩
        ·replace c10:=Bool.eq_false_iff.mpr c10
         subst c10
         have H1:(if a0 ≥ 65 then (xml_digit.j2 kj6 a0 a1 (-1) (decide (a0 ≤ 70))) else (xml_digit.j2 kj6 a0 a1 (-1) false)) = some r:=by rw [if_neg (show ¬ (false = true) by decide)] at H;exact H
         clear H
         have H:=H1
         clear H1
         by_cases c11:a0 ≥ 65
         ·rw [if_pos c11] at H
          have c11b0:decide (65 ≤ a0) = true:=decide_eq_true c11
          clear c11
          (first | rw [c11b0] | (simp only [i64_w,i32_w];rw [c11b0]) | skip)
          have H':=Aside0.mk H
          clear H
          go_wp2
          go_meet
          case rel=>exact ⟨_,(decide (a0 ≤ 70)),(by first | rfl | (simp;done) | (simp [*];done)),H',⟨by have:=HJ2.out;have:=HJ6.out;first | omega | exact Nat.le_refl _⟩,by repeat (first | exact Drawn0.refl _ | apply Drawn0.step)⟩
         ·rw [if_neg c11] at H
          have c11b0:decide (65 ≤ a0) = false:=decide_eq_false c11
          clear c11
          (first | rw [c11b0] | (simp only [i64_w,i32_w];rw [c11b0]) | skip)
          have H':=Aside0.mk H
          clear H
          go_wp2
          go_meet
          case rel=>exact ⟨_,(false),(by first | rfl | (simp;done) | (simp [*];done)),H',⟨by have:=HJ2.out;have:=HJ6.out;first | omega | exact Nat.le_refl _⟩,by repeat (first | exact Drawn0.refl _ | apply Drawn0.step)⟩
       case rest=>
        clear HC9
        try clear c1
        try clear c2
        try clear p2
        try clear p3
        try clear c4
        try clear c4b0
        try clear c5
        try clear c6
        try clear c6b0
        try clear p6
        try clear c8
        try clear c8b0
        try clear c10
        try clear c11
        try clear c11b0
        try clear p2
        try clear p3
        try clear p6
        obtain ⟨kq,x16_8,rfl,HA,HJ8,⟨mc8,rfl⟩⟩:=hcut
        cases kq with
        | zero=>exact absurd HA.out (by simp [xml_digit.j2])
        | succ kj8=>
         have H:=HA.out
         clear HA
         simp only [xml_digit.j2] at H
         by_cases c12:x16_8 = true
         ·subst c12
          have H1:(if (wrap64 ((wrap64 (wrap32 ((Go.bits .or .i32 a0 32) - 97))) + 10)) ≥ a1 then (some (-1)) else (some (wrap64 ((wrap64 (wrap32 ((Go.bits .or .i32 a0 32) - 97))) + 10)))) = some r:=by rw [if_pos rfl] at H;exact H
          clear H
          have H:=H1
          clear H1
          by_cases c13:(wrap64 ((wrap64 (wrap32 ((Go.bits .or .i32 a0 32) - 97))) + 10)) ≥ a1
          ·rw [if_pos c13] at H
           have c13b0:decide (a1 ≤ (wrap64 ((wrap64 (wrap32 ((Go.bits .or .i32 a0 32) - 97))) + 10))) = true:=decide_eq_true c13
           clear c13
           obtain rfl:=Option.some.inj H
           go_wp2
           go_ret
           exact ⟨by first | rfl | (simp;done) | (simp [*];done),by repeat (first | exact Drawn0.refl _ | apply Drawn0.step)⟩
          ·rw [if_neg c13] at H
           have c13b0:decide (a1 ≤ (wrap64 ((wrap64 (wrap32 ((Go.bits .or .i32 a0 32) - 97))) + 10))) = false:=decide_eq_false c13
           clear c13
           obtain rfl:=Option.some.inj H
           go_wp2
           go_ret
           exact ⟨by first | rfl | (simp;done) | (simp [*];done),by repeat (first | exact Drawn0.refl _ | apply Drawn0.step)⟩
         ·replace c12:=Bool.eq_false_iff.mpr c12
          subst c12
          have H1:(if (-1) ≥ a1 then (some (-1)) else (some (-1))) = some r:=by rw [if_neg (show ¬ (false = true) by decide)] at H;exact H
          clear H
          have H:=H1
          clear H1
          by_cases c14:(-1) ≥ a1
          ·rw [if_pos c14] at H
           have c14b0:decide (a1 ≤ (-1)) = true:=decide_eq_true c14
           clear c14
           obtain rfl:=Option.some.inj H
           go_wp2
           go_ret
           exact ⟨by first | rfl | (simp;done) | (simp [*];done),by repeat (first | exact Drawn0.refl _ | apply Drawn0.step)⟩
          ·rw [if_neg c14] at H
           have c14b0:decide (a1 ≤ (-1)) = false:=decide_eq_false c14
           clear c14
           obtain rfl:=Option.some.inj H
           go_wp2
           go_ret
           exact ⟨by first | rfl | (simp;done) | (simp [*];done),by repeat (first | exact Drawn0.refl _ | apply Drawn0.step)⟩
def xml_limit.f (a0:Int) (a1:Int):Option (Int):=if a0 < 1 then (some a1) else (if a0 > a1 then (some a1) else (some a0))
set_option maxHeartbeats 8000000 in
set_option maxRecDepth 100000 in
theorem xml_limit.calls (a0:Int) (a1:Int) (r:Int) (w:World) (h:xml_limit.f a0 a1 = some r) :
    Calls Tryz.prog 60 #[.int .i64 a0,.int .i64 a1] w fun e w'=>e = .returned (.int .i64 r) ∧ Drawn0 w w':=by
  have H:(if a0 < 1 then (some a1) else (if a0 > a1 then (some a1) else (some a0))) = some r:=h
  clear h
  by_cases c3:a0 < 1
  ·rw [if_pos c3] at H
   have c3b0:decide (a0 < 1) = true:=decide_eq_true c3
   clear c3
   obtain rfl:=Option.some.inj H
   go_enter Tryz.func60,Tryz.ntmps60
   go_wp2
   go_ret
   exact ⟨by first | rfl | (simp;done) | (simp [*];done),by repeat (first | exact Drawn0.refl _ | apply Drawn0.step)⟩
  ·rw [if_neg c3] at H
   have c3b0:decide (a0 < 1) = false:=decide_eq_false c3
   clear c3
   by_cases c4:a0 > a1
   ·rw [if_pos c4] at H
    have c4b0:decide (a1 < a0) = true:=decide_eq_true c4
    clear c4
    obtain rfl:=Option.some.inj H
    go_enter Tryz.func60,Tryz.ntmps60
    go_wp2
    go_ret
    exact ⟨by first | rfl | (simp;done) | (simp [*];done),by repeat (first | exact Drawn0.refl _ | apply Drawn0.step)⟩
   ·rw [if_neg c4] at H
    have c4b0:decide (a1 < a0) = false:=decide_eq_false c4
    clear c4
    obtain rfl:=Option.some.inj H
    go_enter Tryz.func60,Tryz.ntmps60
    go_wp2
    go_ret
    exact ⟨by first | rfl | (simp;done) | (simp [*];done),by repeat (first | exact Drawn0.refl _ | apply Drawn0.step)⟩
def strings_HasPrefix.f (a0 a1:ByteArray):Option Bool:=some (Lib.hasPrefix a0.data.toList a1.data.toList)
theorem strings_HasPrefix.calls (a0:ByteArray) (a1:ByteArray) (r:Bool) (w:World) (h:strings_HasPrefix.f a0 a1 = some r) :
    Calls Tryz.prog 86 #[.string a0,.string a1] w fun e w'=>e = .returned (.bool r) ∧ Drawn0 w w':=by
  obtain rfl:=Option.some.inj h
  refine (Tryz.strings_HasPrefix a0 a1 w).mono fun e w' hh=>?_
  obtain ⟨rfl,rfl⟩:=hh
  exact ⟨rfl,Drawn0.refl _⟩
end Go.Proofs.YtbaokjfhigjpdaaGreatDoor.PXmlBase
end
section
namespace Go.Proofs.YtbaokjfhigjpdaaGreatDoor.PXmlBase
open Go.RowKit Go.Proofs.YtbaokjfhigjpdaaGreatDoorW.PrintWords Go.Proofs.YtbaokjfhigjpdaaGreatDoorW.PrintLast Go.Proofs.YtbaokjfhigjpdaaGreatDoorW.PrintMore
attribute [local go_sem] max2_int min2_int max_two min_two max_three min_three max_four min_four   -- for this text's walks alone
set_option linter.unusedVariables false
set_option linter.unusedSimpArgs false
def char_White.f (a0:Int):Option (Bool):=if a0 = 32 then (some true) else (if a0 = 9 then (some true) else (if a0 = 10 then (some true) else (some (a0 == 13))))
set_option maxHeartbeats 8000000 in
set_option maxRecDepth 100000 in
theorem char_White.calls (a0:Int) (r:Bool) (w:World) (h:char_White.f a0 = some r) :
    Calls Tryz.prog 75 #[.int .i32 a0] w fun e w'=>e = .returned (.bool r) ∧ Drawn0 w w':=by
  have H:(if a0 = 32 then (some true) else (if a0 = 9 then (some true) else (if a0 = 10 then (some true) else (some (a0 == 13))))) = some r:=h
  clear h
  by_cases c2:a0 = 32
  ·rw [if_pos c2] at H
   have c2b0:(a0 == 32) = true:=beq_iff_eq.mpr c2
   have c2b1:(a0 != 32) = false:=bne_eq_false_iff_eq.mpr c2
   clear c2
   obtain rfl:=Option.some.inj H
   go_enter Tryz.func75,Tryz.ntmps75
   go_wp2
   go_ret
   exact ⟨by first | rfl | (simp;done) | (simp [*];done),by repeat (first | exact Drawn0.refl _ | apply Drawn0.step)⟩
  ·rw [if_neg c2] at H
   have c2b0:(a0 == 32) = false:=beq_eq_false_iff_ne.mpr c2
   have c2b1:(a0 != 32) = true:=bne_iff_ne.mpr c2
   by_cases c3:a0 = 9
   ·rw [if_pos c3] at H
    have c3b0:(a0 == 9) = true:=beq_iff_eq.mpr c3
    have c3b1:(a0 != 9) = false:=bne_eq_false_iff_eq.mpr c3
    clear c3
    obtain rfl:=Option.some.inj H
    go_enter Tryz.func75,Tryz.ntmps75
    go_wp2
    go_ret
    exact ⟨by first | rfl | (simp;done) | (simp [*];done),by repeat (first | exact Drawn0.refl _ | apply Drawn0.step)⟩
   ·rw [if_neg c3] at H
    have c3b0:(a0 == 9) = false:=beq_eq_false_iff_ne.mpr c3
    have c3b1:(a0 != 9) = true:=bne_iff_ne.mpr c3
    by_cases c4:a0 = 10
    ·rw [if_pos c4] at H
     have c4b0:(a0 == 10) = true:=beq_iff_eq.mpr c4
     have c4b1:(a0 != 10) = false:=bne_eq_false_iff_eq.mpr c4
     clear c4
     obtain rfl:=Option.some.inj H
     go_enter Tryz.func75,Tryz.ntmps75
     go_wp2
     go_ret
     exact ⟨by first | rfl | (simp;done) | (simp [*];done),by repeat (first | exact Drawn0.refl _ | apply Drawn0.step)⟩
    ·rw [if_neg c4] at H
     have c4b0:(a0 == 10) = false:=beq_eq_false_iff_ne.mpr c4
     have c4b1:(a0 != 10) = true:=bne_iff_ne.mpr c4
     obtain rfl:=Option.some.inj H
     go_enter Tryz.func75,Tryz.ntmps75
     go_wp2
     go_ret
     exact ⟨by first | rfl | (simp;done) | (simp [*];done),by repeat (first | exact Drawn0.refl _ | apply Drawn0.step)⟩
def char_Char.f (a0:Int):Option (Bool):=if a0 < 32 then (if a0 = 9 then (some true) else (if a0 = 10 then (some true) else (some (a0 == 13)))) else (if a0 ≥ 55296 then (if a0 ≤ 57343 then (some false) else (if a0 ≤ 65533 then (some true) else (if a0 ≥ 65536 then (some (decide (a0 ≤ 1114111))) else (some false)))) else (if a0 ≤ 65533 then (some true) else (if a0 ≥ 65536 then (some (decide (a0 ≤ 1114111))) else (some false))))
set_option maxHeartbeats 8000000 in
set_option maxRecDepth 100000 in
theorem char_Char.calls (a0:Int) (r:Bool) (w:World) (h:char_Char.f a0 = some r) :
    Calls Tryz.prog 152 #[.int .i32 a0] w fun e w'=>e = .returned (.bool r) ∧ Drawn0 w w':=by
  have H:(if a0 < 32 then (if a0 = 9 then (some true) else (if a0 = 10 then (some true) else (some (a0 == 13)))) else (if a0 ≥ 55296 then (if a0 ≤ 57343 then (some false) else (if a0 ≤ 65533 then (some true) else (if a0 ≥ 65536 then (some (decide (a0 ≤ 1114111))) else (some false)))) else (if a0 ≤ 65533 then (some true) else (if a0 ≥ 65536 then (some (decide (a0 ≤ 1114111))) else (some false))))) = some r:=h
  clear h
  by_cases c2:a0 < 32
  ·rw [if_pos c2] at H
   have c2b0:decide (a0 < 32) = true:=decide_eq_true c2
   clear c2
   by_cases c3:a0 = 9
   ·rw [if_pos c3] at H
    have c3b0:(a0 == 9) = true:=beq_iff_eq.mpr c3
    have c3b1:(a0 != 9) = false:=bne_eq_false_iff_eq.mpr c3
    clear c3
    obtain rfl:=Option.some.inj H
    go_enter Tryz.func152,Tryz.ntmps152
    go_wp2
    go_ret
    exact ⟨by first | rfl | (simp;done) | (simp [*];done),by repeat (first | exact Drawn0.refl _ | apply Drawn0.step)⟩
   ·rw [if_neg c3] at H
    have c3b0:(a0 == 9) = false:=beq_eq_false_iff_ne.mpr c3
    have c3b1:(a0 != 9) = true:=bne_iff_ne.mpr c3
    by_cases c4:a0 = 10
    ·rw [if_pos c4] at H
     have c4b0:(a0 == 10) = true:=beq_iff_eq.mpr c4
     have c4b1:(a0 != 10) = false:=bne_eq_false_iff_eq.mpr c4
     clear c4
     obtain rfl:=Option.some.inj H
     go_enter Tryz.func152,Tryz.ntmps152
     go_wp2
     go_ret
     exact ⟨by first | rfl | (simp;done) | (simp [*];done),by repeat (first | exact Drawn0.refl _ | apply Drawn0.step)⟩
    ·rw [if_neg c4] at H
     have c4b0:(a0 == 10) = false:=beq_eq_false_iff_ne.mpr c4
     have c4b1:(a0 != 10) = true:=bne_iff_ne.mpr c4
     obtain rfl:=Option.some.inj H
     go_enter Tryz.func152,Tryz.ntmps152
     go_wp2
     go_ret
     exact ⟨by first | rfl | (simp;done) | (simp [*];done),by repeat (first | exact Drawn0.refl _ | apply Drawn0.step)⟩
  ·rw [if_neg c2] at H
   have c2b0:decide (a0 < 32) = false:=decide_eq_false c2
   clear c2
   by_cases c5:a0 ≥ 55296
   ·rw [if_pos c5] at H
    have c5b0:decide (55296 ≤ a0) = true:=decide_eq_true c5
    clear c5
    by_cases c6:a0 ≤ 57343
    ·rw [if_pos c6] at H
     have c6b0:decide (a0 ≤ 57343) = true:=decide_eq_true c6
     clear c6
     obtain rfl:=Option.some.inj H
     go_enter Tryz.func152,Tryz.ntmps152
     go_wp2
     go_ret
     exact ⟨by first | rfl | (simp;done) | (simp [*];done),by repeat (first | exact Drawn0.refl _ | apply Drawn0.step)⟩
    ·rw [if_neg c6] at H
     have c6b0:decide (a0 ≤ 57343) = false:=decide_eq_false c6
     clear c6
     by_cases c7:a0 ≤ 65533
     ·rw [if_pos c7] at H
      have c7b0:decide (a0 ≤ 65533) = true:=decide_eq_true c7
      clear c7
      obtain rfl:=Option.some.inj H
      go_enter Tryz.func152,Tryz.ntmps152
      go_wp2
      go_ret
      exact ⟨by first | rfl | (simp;done) | (simp [*];done),by repeat (first | exact Drawn0.refl _ | apply Drawn0.step)⟩
     ·rw [if_neg c7] at H
      have c7b0:decide (a0 ≤ 65533) = false:=decide_eq_false c7
      clear c7
      by_cases c8:a0 ≥ 65536
      ·rw [if_pos c8] at H
       have c8b0:decide (65536 ≤ a0) = true:=decide_eq_true c8
       clear c8
       obtain rfl:=Option.some.inj H
       go_enter Tryz.func152,Tryz.ntmps152
       go_wp2
       go_ret
       exact ⟨by first | rfl | (simp;done) | (simp [*];done),by repeat (first | exact Drawn0.refl _ | apply Drawn0.step)⟩
      ·rw [if_neg c8] at H
       have c8b0:decide (65536 ≤ a0) = false:=decide_eq_false c8
       clear c8
       obtain rfl:=Option.some.inj H
       go_enter Tryz.func152,Tryz.ntmps152
       go_wp2
       go_ret
       exact ⟨by first | rfl | (simp;done) | (simp [*];done),by repeat (first | exact Drawn0.refl _ | apply Drawn0.step)⟩
   ·rw [if_neg c5] at H
    have c5b0:decide (55296 ≤ a0) = false:=decide_eq_false c5
    clear c5
    by_cases c9:a0 ≤ 65533
    ·rw [if_pos c9] at H
     have c9b0:decide (a0 ≤ 65533) = true:=decide_eq_true c9
     clear c9
     obtain rfl:=Option.some.inj H
     go_enter Tryz.func152,Tryz.ntmps152
     go_wp2
     go_ret
     exact ⟨by first | rfl | (simp;done) | (simp [*];done),by repeat (first | exact Drawn0.refl _ | apply Drawn0.step)⟩
    ·rw [if_neg c9] at H
     have c9b0:decide (a0 ≤ 65533) = false:=decide_eq_false c9
     clear c9
     by_cases c10:a0 ≥ 65536
     ·rw [if_pos c10] at H
      have c10b0:decide (65536 ≤ a0) = true:=decide_eq_true c10
      clear c10
      obtain rfl:=Option.some.inj H
      go_enter Tryz.func152,Tryz.ntmps152
      go_wp2
      go_ret
      exact ⟨by first | rfl | (simp;done) | (simp [*];done),by repeat (first | exact Drawn0.refl _ | apply Drawn0.step)⟩
     ·rw [if_neg c10] at H
      have c10b0:decide (65536 ≤ a0) = false:=decide_eq_false c10
      clear c10
      obtain rfl:=Option.some.inj H
      go_enter Tryz.func152,Tryz.ntmps152
      go_wp2
      go_ret
      exact ⟨by first | rfl | (simp;done) | (simp [*];done),by repeat (first | exact Drawn0.refl _ | apply Drawn0.step)⟩
mutual
def char_Start.j0:Nat → Int → Bool → Option (Bool)
  | 0,_,_=>none
  | k + 1,x0,x3=>if x3 = true then (some true) else (if x0 ≥ 97 then (char_Start.j1 k x0 (decide (x0 ≤ 122))) else (char_Start.j1 k x0 false))
def char_Start.j1:Nat → Int → Bool → Option (Bool)
  | 0,_,_=>none
  | k + 1,x0,x3=>if x3 = true then (some true) else (if x0 = 95 then (some true) else (if x0 = 58 then (some true) else (if x0 ≥ 192 then (if x0 = 215 then (some false) else (if x0 = 247 then (some false) else ((char_Char.f x0).bind fun t101=>(some t101)))) else (some false))))
end
def char_Start.f (k:Nat) (a0:Int):Option (Bool):=if a0 ≥ 65 then (char_Start.j0 k a0 (decide (a0 ≤ 90))) else (char_Start.j0 k a0 false)
theorem char_Start.mono_l:∀ k,(∀ y0 y1,LeO (char_Start.j0 k y0 y1) (char_Start.j0 (k + 1) y0 y1)) ∧ (∀ y0 y1,LeO (char_Start.j1 k y0 y1) (char_Start.j1 (k + 1) y0 y1))
  | 0=>⟨fun _ _ r h=>by simp [char_Start.j0] at h,fun _ _ r h=>by simp [char_Start.j1] at h⟩
  | k + 1=>by
   obtain ⟨ih0,ih1⟩:=char_Start.mono_l k
   refine ⟨?_,?_⟩
   ·intro y0 y1
    unfold char_Start.j0
    repeat' first
    | (with_reducible exact ih0 _ _)
    | (with_reducible exact ih1 _ _)
    | (with_reducible exact LeO.refl _)
    | (with_reducible exact LeO.none _)
    | (with_reducible refine LeO.ite ?_ ?_)
    | (with_reducible refine LeO.bind ?_ (fun _=>?_))
    | exact ih0 _ _
    | exact ih1 _ _
    | exact LeO.none _
    | refine LeO.ite ?_ ?_
    | refine LeO.bind ?_ (fun _=>?_)
   ·intro y0 y1
    unfold char_Start.j1
    repeat' first
    | (with_reducible exact ih0 _ _)
    | (with_reducible exact ih1 _ _)
    | (with_reducible exact LeO.refl _)
    | (with_reducible exact LeO.none _)
    | (with_reducible refine LeO.ite ?_ ?_)
    | (with_reducible refine LeO.bind ?_ (fun _=>?_))
    | exact ih0 _ _
    | exact ih1 _ _
    | exact LeO.none _
    | refine LeO.ite ?_ ?_
    | refine LeO.bind ?_ (fun _=>?_)
theorem char_Start.mono:∀ a0 k,LeO (char_Start.f k a0) (char_Start.f (k + 1) a0):=by
 intro a0 k
 obtain ⟨ih0,ih1⟩:=char_Start.mono_l k
 unfold char_Start.f
 repeat' first
  | (with_reducible exact ih0 _ _)
  | (with_reducible exact ih1 _ _)
  | (with_reducible exact LeO.refl _)
  | (with_reducible exact LeO.none _)
  | (with_reducible refine LeO.ite ?_ ?_)
  | (with_reducible refine LeO.bind ?_ (fun _=>?_))
  | exact ih0 _ _
  | exact ih1 _ _
  | exact LeO.none _
  | refine LeO.ite ?_ ?_
  | refine LeO.bind ?_ (fun _=>?_)
set_option maxHeartbeats 8000000 in
set_option maxRecDepth 100000 in
theorem char_Start.calls (k:Nat) (a0:Int) (r:Bool) (w:World) (h:char_Start.f k a0 = some r) :
    Calls Tryz.prog 107 #[.int .i32 a0] w fun e w'=>e = .returned (.bool r) ∧ Drawn0 w w':=by
  have H:(if a0 ≥ 65 then (char_Start.j0 k a0 (decide (a0 ≤ 90))) else (char_Start.j0 k a0 false)) = some r:=h
  clear h
  have HC2:=Aside0.mk H
  clear H
  go_enter Tryz.func107,Tryz.ntmps107
  go_upto_region 1 with (fail)
  go_cut [3] (fun v3 wc=>∃ (kq:Nat) (x3_1:Bool),v3 = .bool x3_1 ∧ Aside0 (char_Start.j0 kq a0 x3_1 = some r) ∧ Aside0 (kq ≤ k) ∧ Drawn0 w wc)
  case first=>
   have H:=HC2.out
   clear HC2
   by_cases c3:a0 ≥ 65
   ·rw [if_pos c3] at H
    have c3b0:decide (65 ≤ a0) = true:=decide_eq_true c3
    clear c3
    (first | rw [c3b0] | (simp only [i64_w,i32_w];rw [c3b0]) | skip)
    have H':=Aside0.mk H
    clear H
    go_wp2
    go_meet
    case rel=>exact ⟨_,(decide (a0 ≤ 90)),(by first | rfl | (simp;done) | (simp [*];done)),H',⟨by first | omega | exact Nat.le_refl _⟩,by repeat (first | exact Drawn0.refl _ | apply Drawn0.step)⟩
   ·rw [if_neg c3] at H
    have c3b0:decide (65 ≤ a0) = false:=decide_eq_false c3
    clear c3
    (first | rw [c3b0] | (simp only [i64_w,i32_w];rw [c3b0]) | skip)
    have H':=Aside0.mk H
    clear H
    go_wp2
    go_meet
    case rel=>exact ⟨_,(false),(by first | rfl | (simp;done) | (simp [*];done)),H',⟨by first | omega | exact Nat.le_refl _⟩,by repeat (first | exact Drawn0.refl _ | apply Drawn0.step)⟩
  case rest=>
   clear HC2
   try clear c1
   try clear p2
   try clear c3
   try clear c3b0
   obtain ⟨kq,x3_1,rfl,HA,HJ1,⟨mc1,rfl⟩⟩:=hcut
   cases kq with
   | zero=>exact absurd HA.out (by simp [char_Start.j0])
   | succ kj1=>
    have H:=HA.out
    clear HA
    simp only [char_Start.j0] at H
    by_cases c4:x3_1 = true
    ·subst c4
     have H1:(some true) = some r:=by rw [if_pos rfl] at H;exact H
     clear H
     have H:=H1
     clear H1
     obtain rfl:=Option.some.inj H
     go_wp2
     go_ret
     exact ⟨by first | rfl | (simp;done) | (simp [*];done),by repeat (first | exact Drawn0.refl _ | apply Drawn0.step)⟩
    ·replace c4:=Bool.eq_false_iff.mpr c4
     subst c4
     have H1:(if a0 ≥ 97 then (char_Start.j1 kj1 a0 (decide (a0 ≤ 122))) else (char_Start.j1 kj1 a0 false)) = some r:=by rw [if_neg (show ¬ (false = true) by decide)] at H;exact H
     clear H
     have H:=H1
     clear H1
     have HC5:=Aside0.mk H
     clear H
     go_upto_region 2 with (fail)
     go_cut [3] (fun v3 wc=>∃ (kq:Nat) (x3_4:Bool),v3 = .bool x3_4 ∧ Aside0 (char_Start.j1 kq a0 x3_4 = some r) ∧ Aside0 (kq ≤ kj1) ∧ Drawn0 w wc)
     case first=>
      have H:=HC5.out
      clear HC5
      by_cases c6:a0 ≥ 97
      ·rw [if_pos c6] at H
       have c6b0:decide (97 ≤ a0) = true:=decide_eq_true c6
       clear c6
       (first | rw [c6b0] | (simp only [i64_w,i32_w];rw [c6b0]) | skip)
       have H':=Aside0.mk H
       clear H
       go_wp2
       go_meet
       case rel=>exact ⟨_,(decide (a0 ≤ 122)),(by first | rfl | (simp;done) | (simp [*];done)),H',⟨by have:=HJ1.out;first | omega | exact Nat.le_refl _⟩,by repeat (first | exact Drawn0.refl _ | apply Drawn0.step)⟩
      ·rw [if_neg c6] at H
       have c6b0:decide (97 ≤ a0) = false:=decide_eq_false c6
       clear c6
       (first | rw [c6b0] | (simp only [i64_w,i32_w];rw [c6b0]) | skip)
       have H':=Aside0.mk H
       clear H
       go_wp2
       go_meet
       case rel=>exact ⟨_,(false),(by first | rfl | (simp;done) | (simp [*];done)),H',⟨by have:=HJ1.out;first | omega | exact Nat.le_refl _⟩,by repeat (first | exact Drawn0.refl _ | apply Drawn0.step)⟩
     case rest=>
      clear HC5
      try clear c1
      try clear p2
      try clear c3
      try clear c3b0
      try clear c4
      try clear c6
      try clear c6b0
      try clear p2
      obtain ⟨kq,x3_4,rfl,HA,HJ4,⟨mc4,rfl⟩⟩:=hcut
      cases kq with
      | zero=>exact absurd HA.out (by simp [char_Start.j1])
      | succ kj4=>
       have H:=HA.out
       clear HA
       simp only [char_Start.j1] at H
       by_cases c7:x3_4 = true
       ·subst c7
        have H1:(some true) = some r:=by rw [if_pos rfl] at H;exact H
        clear H
        have H:=H1
        clear H1
        obtain rfl:=Option.some.inj H
        go_wp2
        go_ret
        exact ⟨by first | rfl | (simp;done) | (simp [*];done),by repeat (first | exact Drawn0.refl _ | apply Drawn0.step)⟩
       ·replace c7:=Bool.eq_false_iff.mpr c7
        subst c7
        have H1:(if a0 = 95 then (some true) else (if a0 = 58 then (some true) else (if a0 ≥ 192 then (if a0 = 215 then (some false) else (if a0 = 247 then (some false) else ((char_Char.f a0).bind fun t101=>(some t101)))) else (some false)))) = some r:=by rw [if_neg (show ¬ (false = true) by decide)] at H;exact H
        clear H
        have H:=H1
        clear H1
        by_cases c8:a0 = 95
        ·rw [if_pos c8] at H
         have c8b0:(a0 == 95) = true:=beq_iff_eq.mpr c8
         have c8b1:(a0 != 95) = false:=bne_eq_false_iff_eq.mpr c8
         clear c8
         obtain rfl:=Option.some.inj H
         go_wp2
         go_ret
         exact ⟨by first | rfl | (simp;done) | (simp [*];done),by repeat (first | exact Drawn0.refl _ | apply Drawn0.step)⟩
        ·rw [if_neg c8] at H
         have c8b0:(a0 == 95) = false:=beq_eq_false_iff_ne.mpr c8
         have c8b1:(a0 != 95) = true:=bne_iff_ne.mpr c8
         by_cases c9:a0 = 58
         ·rw [if_pos c9] at H
          have c9b0:(a0 == 58) = true:=beq_iff_eq.mpr c9
          have c9b1:(a0 != 58) = false:=bne_eq_false_iff_eq.mpr c9
          clear c9
          obtain rfl:=Option.some.inj H
          go_wp2
          go_ret
          exact ⟨by first | rfl | (simp;done) | (simp [*];done),by repeat (first | exact Drawn0.refl _ | apply Drawn0.step)⟩
         ·rw [if_neg c9] at H
          have c9b0:(a0 == 58) = false:=beq_eq_false_iff_ne.mpr c9
          have c9b1:(a0 != 58) = true:=bne_iff_ne.mpr c9
          by_cases c10:a0 ≥ 192
          ·rw [if_pos c10] at H
           have c10b0:decide (192 ≤ a0) = true:=decide_eq_true c10
           clear c10
           by_cases c11:a0 = 215
           ·rw [if_pos c11] at H
            have c11b0:(a0 == 215) = true:=beq_iff_eq.mpr c11
            have c11b1:(a0 != 215) = false:=bne_eq_false_iff_eq.mpr c11
            clear c11
            obtain rfl:=Option.some.inj H
            go_wp2
            go_ret
            exact ⟨by first | rfl | (simp;done) | (simp [*];done),by repeat (first | exact Drawn0.refl _ | apply Drawn0.step)⟩
           ·rw [if_neg c11] at H
            have c11b0:(a0 == 215) = false:=beq_eq_false_iff_ne.mpr c11
            have c11b1:(a0 != 215) = true:=bne_iff_ne.mpr c11
            by_cases c12:a0 = 247
            ·rw [if_pos c12] at H
             have c12b0:(a0 == 247) = true:=beq_iff_eq.mpr c12
             have c12b1:(a0 != 247) = false:=bne_eq_false_iff_eq.mpr c12
             clear c12
             obtain rfl:=Option.some.inj H
             go_wp2
             go_ret
             exact ⟨by first | rfl | (simp;done) | (simp [*];done),by repeat (first | exact Drawn0.refl _ | apply Drawn0.step)⟩
            ·rw [if_neg c12] at H
             have c12b0:(a0 == 247) = false:=beq_eq_false_iff_ne.mpr c12
             have c12b1:(a0 != 247) = true:=bne_iff_ne.mpr c12
             replace H:=Option.bind_eq_some_iff.mp H
             obtain ⟨t101,A130,H⟩:=H
             replace H:(some t101) = some r:=H
             have A13:=Aside0.mk A130
             clear A130
             obtain rfl:=Option.some.inj H
             go_wp2_with (first | (go_at_call 152;(with_reducible refine (char_Char.calls a0 t101 _ A13.out).mono ?_);rintro e w' ⟨rfl,⟨nd,rfl⟩⟩))
             go_ret
             exact ⟨by first | rfl | (simp;done) | (simp [*];done),by repeat (first | exact Drawn0.refl _ | apply Drawn0.step)⟩
          ·rw [if_neg c10] at H
           have c10b0:decide (192 ≤ a0) = false:=decide_eq_false c10
           clear c10
           obtain rfl:=Option.some.inj H
           go_wp2
           go_ret
           exact ⟨by first | rfl | (simp;done) | (simp [*];done),by repeat (first | exact Drawn0.refl _ | apply Drawn0.step)⟩
def char_Part.f (k:Nat) (a0:Int):Option (Bool):=(char_Start.f k a0).bind fun t102=>(if t102 = true then (some true) else (if a0 ≥ 48 then (if a0 ≤ 57 then (some true) else (if a0 = 45 then (some true) else (if a0 = 46 then (some true) else (some (a0 == 183))))) else (if a0 = 45 then (some true) else (if a0 = 46 then (some true) else (some (a0 == 183))))))
theorem char_Part.mono:∀ a0 k,LeO (char_Part.f k a0) (char_Part.f (k + 1) a0):=by
 intro a0 k
 unfold char_Part.f
 repeat' first
  | (with_reducible exact char_Start.mono _ _)
  | (with_reducible exact LeO.refl _)
  | (with_reducible exact LeO.none _)
  | (with_reducible refine LeO.ite ?_ ?_)
  | (with_reducible refine LeO.bind ?_ (fun _=>?_))
  | exact char_Start.mono _ _
  | exact LeO.none _
  | refine LeO.ite ?_ ?_
  | refine LeO.bind ?_ (fun _=>?_)
set_option maxHeartbeats 8000000 in
set_option maxRecDepth 100000 in
theorem char_Part.calls (k:Nat) (a0:Int) (r:Bool) (w:World) (h:char_Part.f k a0 = some r) :
    Calls Tryz.prog 144 #[.int .i32 a0] w fun e w'=>e = .returned (.bool r) ∧ Drawn0 w w':=by
  have H:((char_Start.f k a0).bind fun t102=>(if t102 = true then (some true) else (if a0 ≥ 48 then (if a0 ≤ 57 then (some true) else (if a0 = 45 then (some true) else (if a0 = 46 then (some true) else (some (a0 == 183))))) else (if a0 = 45 then (some true) else (if a0 = 46 then (some true) else (some (a0 == 183))))))) = some r:=h
  clear h
  replace H:=Option.bind_eq_some_iff.mp H
  obtain ⟨t102,A20,H⟩:=H
  replace H:(if t102 = true then (some true) else (if a0 ≥ 48 then (if a0 ≤ 57 then (some true) else (if a0 = 45 then (some true) else (if a0 = 46 then (some true) else (some (a0 == 183))))) else (if a0 = 45 then (some true) else (if a0 = 46 then (some true) else (some (a0 == 183)))))) = some r:=H
  have A2:=Aside0.mk A20
  clear A20
  by_cases c3:t102 = true
  ·subst c3
   have H1:(some true) = some r:=by rw [if_pos rfl] at H;exact H
   clear H
   have H:=H1
   clear H1
   obtain rfl:=Option.some.inj H
   go_enter Tryz.func144,Tryz.ntmps144
   go_wp2_with (first | ((with_reducible refine gate_callee (f:=107) rfl ?_);refine goesL_ (some 4) rfl rfl Tryz.func107 (by kernel_rfl) rfl #[.int .i32 a0] rfl (by (try simp only [List.map_toArray,List.map_cons,List.map_nil]);first | done | rfl | (simp only [List.length_drop,List.length_take];rfl)) ?_;(with_reducible refine (char_Start.calls k a0 true _ A2.out).mono ?_);rintro e w' ⟨rfl,⟨nd,rfl⟩⟩;refine ⟨_,rfl,?_⟩))
   go_ret
   exact ⟨by first | rfl | (simp;done) | (simp [*];done),by repeat (first | exact Drawn0.refl _ | apply Drawn0.step)⟩
  ·replace c3:=Bool.eq_false_iff.mpr c3
   subst c3
   have H1:(if a0 ≥ 48 then (if a0 ≤ 57 then (some true) else (if a0 = 45 then (some true) else (if a0 = 46 then (some true) else (some (a0 == 183))))) else (if a0 = 45 then (some true) else (if a0 = 46 then (some true) else (some (a0 == 183))))) = some r:=by rw [if_neg (show ¬ (false = true) by decide)] at H;exact H
   clear H
   have H:=H1
   clear H1
   by_cases c4:a0 ≥ 48
   ·rw [if_pos c4] at H
    have c4b0:decide (48 ≤ a0) = true:=decide_eq_true c4
    clear c4
    by_cases c5:a0 ≤ 57
    ·rw [if_pos c5] at H
     have c5b0:decide (a0 ≤ 57) = true:=decide_eq_true c5
     clear c5
     obtain rfl:=Option.some.inj H
     go_enter Tryz.func144,Tryz.ntmps144
     go_wp2_with (first | ((with_reducible refine gate_callee (f:=107) rfl ?_);refine goesL_ (some 4) rfl rfl Tryz.func107 (by kernel_rfl) rfl #[.int .i32 a0] rfl (by (try simp only [List.map_toArray,List.map_cons,List.map_nil]);first | done | rfl | (simp only [List.length_drop,List.length_take];rfl)) ?_;(with_reducible refine (char_Start.calls k a0 false _ A2.out).mono ?_);rintro e w' ⟨rfl,⟨nd,rfl⟩⟩;refine ⟨_,rfl,?_⟩))
     go_ret
     exact ⟨by first | rfl | (simp;done) | (simp [*];done),by repeat (first | exact Drawn0.refl _ | apply Drawn0.step)⟩
    ·rw [if_neg c5] at H
     have c5b0:decide (a0 ≤ 57) = false:=decide_eq_false c5
     clear c5
     by_cases c6:a0 = 45
     ·rw [if_pos c6] at H
      have c6b0:(a0 == 45) = true:=beq_iff_eq.mpr c6
      have c6b1:(a0 != 45) = false:=bne_eq_false_iff_eq.mpr c6
      clear c6
      obtain rfl:=Option.some.inj H
      go_enter Tryz.func144,Tryz.ntmps144
      go_wp2_with (first | ((with_reducible refine gate_callee (f:=107) rfl ?_);refine goesL_ (some 4) rfl rfl Tryz.func107 (by kernel_rfl) rfl #[.int .i32 a0] rfl (by (try simp only [List.map_toArray,List.map_cons,List.map_nil]);first | done | rfl | (simp only [List.length_drop,List.length_take];rfl)) ?_;(with_reducible refine (char_Start.calls k a0 false _ A2.out).mono ?_);rintro e w' ⟨rfl,⟨nd,rfl⟩⟩;refine ⟨_,rfl,?_⟩))
      go_ret
      exact ⟨by first | rfl | (simp;done) | (simp [*];done),by repeat (first | exact Drawn0.refl _ | apply Drawn0.step)⟩
     ·rw [if_neg c6] at H
      have c6b0:(a0 == 45) = false:=beq_eq_false_iff_ne.mpr c6
      have c6b1:(a0 != 45) = true:=bne_iff_ne.mpr c6
      by_cases c7:a0 = 46
      ·rw [if_pos c7] at H
       have c7b0:(a0 == 46) = true:=beq_iff_eq.mpr c7
       have c7b1:(a0 != 46) = false:=bne_eq_false_iff_eq.mpr c7
       clear c7
       obtain rfl:=Option.some.inj H
       go_enter Tryz.func144,Tryz.ntmps144
       go_wp2_with (first | ((with_reducible refine gate_callee (f:=107) rfl ?_);refine goesL_ (some 4) rfl rfl Tryz.func107 (by kernel_rfl) rfl #[.int .i32 a0] rfl (by (try simp only [List.map_toArray,List.map_cons,List.map_nil]);first | done | rfl | (simp only [List.length_drop,List.length_take];rfl)) ?_;(with_reducible refine (char_Start.calls k a0 false _ A2.out).mono ?_);rintro e w' ⟨rfl,⟨nd,rfl⟩⟩;refine ⟨_,rfl,?_⟩))
       go_ret
       exact ⟨by first | rfl | (simp;done) | (simp [*];done),by repeat (first | exact Drawn0.refl _ | apply Drawn0.step)⟩
      ·rw [if_neg c7] at H
       have c7b0:(a0 == 46) = false:=beq_eq_false_iff_ne.mpr c7
       have c7b1:(a0 != 46) = true:=bne_iff_ne.mpr c7
       obtain rfl:=Option.some.inj H
       go_enter Tryz.func144,Tryz.ntmps144
       go_wp2_with (first | ((with_reducible refine gate_callee (f:=107) rfl ?_);refine goesL_ (some 4) rfl rfl Tryz.func107 (by kernel_rfl) rfl #[.int .i32 a0] rfl (by (try simp only [List.map_toArray,List.map_cons,List.map_nil]);first | done | rfl | (simp only [List.length_drop,List.length_take];rfl)) ?_;(with_reducible refine (char_Start.calls k a0 false _ A2.out).mono ?_);rintro e w' ⟨rfl,⟨nd,rfl⟩⟩;refine ⟨_,rfl,?_⟩))
       go_ret
       exact ⟨by first | rfl | (simp;done) | (simp [*];done),by repeat (first | exact Drawn0.refl _ | apply Drawn0.step)⟩
   ·rw [if_neg c4] at H
    have c4b0:decide (48 ≤ a0) = false:=decide_eq_false c4
    clear c4
    by_cases c8:a0 = 45
    ·rw [if_pos c8] at H
     have c8b0:(a0 == 45) = true:=beq_iff_eq.mpr c8
     have c8b1:(a0 != 45) = false:=bne_eq_false_iff_eq.mpr c8
     clear c8
     obtain rfl:=Option.some.inj H
     go_enter Tryz.func144,Tryz.ntmps144
     go_wp2_with (first | ((with_reducible refine gate_callee (f:=107) rfl ?_);refine goesL_ (some 4) rfl rfl Tryz.func107 (by kernel_rfl) rfl #[.int .i32 a0] rfl (by (try simp only [List.map_toArray,List.map_cons,List.map_nil]);first | done | rfl | (simp only [List.length_drop,List.length_take];rfl)) ?_;(with_reducible refine (char_Start.calls k a0 false _ A2.out).mono ?_);rintro e w' ⟨rfl,⟨nd,rfl⟩⟩;refine ⟨_,rfl,?_⟩))
     go_ret
     exact ⟨by first | rfl | (simp;done) | (simp [*];done),by repeat (first | exact Drawn0.refl _ | apply Drawn0.step)⟩
    ·rw [if_neg c8] at H
     have c8b0:(a0 == 45) = false:=beq_eq_false_iff_ne.mpr c8
     have c8b1:(a0 != 45) = true:=bne_iff_ne.mpr c8
     by_cases c9:a0 = 46
     ·rw [if_pos c9] at H
      have c9b0:(a0 == 46) = true:=beq_iff_eq.mpr c9
      have c9b1:(a0 != 46) = false:=bne_eq_false_iff_eq.mpr c9
      clear c9
      obtain rfl:=Option.some.inj H
      go_enter Tryz.func144,Tryz.ntmps144
      go_wp2_with (first | ((with_reducible refine gate_callee (f:=107) rfl ?_);refine goesL_ (some 4) rfl rfl Tryz.func107 (by kernel_rfl) rfl #[.int .i32 a0] rfl (by (try simp only [List.map_toArray,List.map_cons,List.map_nil]);first | done | rfl | (simp only [List.length_drop,List.length_take];rfl)) ?_;(with_reducible refine (char_Start.calls k a0 false _ A2.out).mono ?_);rintro e w' ⟨rfl,⟨nd,rfl⟩⟩;refine ⟨_,rfl,?_⟩))
      go_ret
      exact ⟨by first | rfl | (simp;done) | (simp [*];done),by repeat (first | exact Drawn0.refl _ | apply Drawn0.step)⟩
     ·rw [if_neg c9] at H
      have c9b0:(a0 == 46) = false:=beq_eq_false_iff_ne.mpr c9
      have c9b1:(a0 != 46) = true:=bne_iff_ne.mpr c9
      obtain rfl:=Option.some.inj H
      go_enter Tryz.func144,Tryz.ntmps144
      go_wp2_with (first | ((with_reducible refine gate_callee (f:=107) rfl ?_);refine goesL_ (some 4) rfl rfl Tryz.func107 (by kernel_rfl) rfl #[.int .i32 a0] rfl (by (try simp only [List.map_toArray,List.map_cons,List.map_nil]);first | done | rfl | (simp only [List.length_drop,List.length_take];rfl)) ?_;(with_reducible refine (char_Start.calls k a0 false _ A2.out).mono ?_);rintro e w' ⟨rfl,⟨nd,rfl⟩⟩;refine ⟨_,rfl,?_⟩))
      go_ret
      exact ⟨by first | rfl | (simp;done) | (simp [*];done),by repeat (first | exact Drawn0.refl _ | apply Drawn0.step)⟩
def char_lead.f (a0:Int):Option (Int × Int × Int):=if a0 < 128 then (some (1,wrap32 (a0),0)) else (if (a0 / 32) = 6 then (some (2,wrap32 (Go.bits .and .u8 a0 31),128)) else (if (a0 / 16) = 14 then (some (3,wrap32 (Go.bits .and .u8 a0 15),2048)) else (if (a0 / 8) = 30 then (some (4,wrap32 (Go.bits .and .u8 a0 7),65536)) else (some (0,0,0)))))
set_option maxHeartbeats 8000000 in
set_option maxRecDepth 100000 in
theorem char_lead.calls (a0:Int) (r1:Int) (r2:Int) (r3:Int) (w:World) (h:char_lead.f a0 = some (r1,r2,r3)) :
    Calls Tryz.prog 193 #[.int .u8 a0] w fun e w'=>e = .returned (.tuple #[.int .i64 r1,.int .i32 r2,.int .i32 r3]) ∧ Drawn0 w w':=by
  have H:(if a0 < 128 then (some (1,wrap32 (a0),0)) else (if (a0 / 32) = 6 then (some (2,wrap32 (Go.bits .and .u8 a0 31),128)) else (if (a0 / 16) = 14 then (some (3,wrap32 (Go.bits .and .u8 a0 15),2048)) else (if (a0 / 8) = 30 then (some (4,wrap32 (Go.bits .and .u8 a0 7),65536)) else (some (0,0,0)))))) = some (r1,r2,r3):=h
  clear h
  by_cases c2:a0 < 128
  ·rw [if_pos c2] at H
   have c2b0:decide (a0 < 128) = true:=decide_eq_true c2
   clear c2
   simp only [Option.some.injEq,Prod.mk.injEq] at H
   obtain ⟨rfl,rfl,rfl⟩:=H
   go_enter Tryz.func193,Tryz.ntmps193
   go_wp2
   go_ret3
   exact ⟨by first | rfl | (simp;done) | (simp [*];done),by repeat (first | exact Drawn0.refl _ | apply Drawn0.step)⟩
  ·rw [if_neg c2] at H
   have c2b0:decide (a0 < 128) = false:=decide_eq_false c2
   clear c2
   by_cases c3:(a0 / 32) = 6
   ·rw [if_pos c3] at H
    have c3b0:((a0 / 32) == 6) = true:=beq_iff_eq.mpr c3
    have c3b1:((a0 / 32) != 6) = false:=bne_eq_false_iff_eq.mpr c3
    clear c3
    simp only [Option.some.injEq,Prod.mk.injEq] at H
    obtain ⟨rfl,rfl,rfl⟩:=H
    go_enter Tryz.func193,Tryz.ntmps193
    go_wp2
    go_ret3
    exact ⟨by first | rfl | (simp;done) | (simp [*];done),by repeat (first | exact Drawn0.refl _ | apply Drawn0.step)⟩
   ·rw [if_neg c3] at H
    have c3b0:((a0 / 32) == 6) = false:=beq_eq_false_iff_ne.mpr c3
    have c3b1:((a0 / 32) != 6) = true:=bne_iff_ne.mpr c3
    by_cases c4:(a0 / 16) = 14
    ·rw [if_pos c4] at H
     have c4b0:((a0 / 16) == 14) = true:=beq_iff_eq.mpr c4
     have c4b1:((a0 / 16) != 14) = false:=bne_eq_false_iff_eq.mpr c4
     clear c4
     simp only [Option.some.injEq,Prod.mk.injEq] at H
     obtain ⟨rfl,rfl,rfl⟩:=H
     go_enter Tryz.func193,Tryz.ntmps193
     go_wp2
     go_ret3
     exact ⟨by first | rfl | (simp;done) | (simp [*];done),by repeat (first | exact Drawn0.refl _ | apply Drawn0.step)⟩
    ·rw [if_neg c4] at H
     have c4b0:((a0 / 16) == 14) = false:=beq_eq_false_iff_ne.mpr c4
     have c4b1:((a0 / 16) != 14) = true:=bne_iff_ne.mpr c4
     by_cases c5:(a0 / 8) = 30
     ·rw [if_pos c5] at H
      have c5b0:((a0 / 8) == 30) = true:=beq_iff_eq.mpr c5
      have c5b1:((a0 / 8) != 30) = false:=bne_eq_false_iff_eq.mpr c5
      clear c5
      simp only [Option.some.injEq,Prod.mk.injEq] at H
      obtain ⟨rfl,rfl,rfl⟩:=H
      go_enter Tryz.func193,Tryz.ntmps193
      go_wp2
      go_ret3
      exact ⟨by first | rfl | (simp;done) | (simp [*];done),by repeat (first | exact Drawn0.refl _ | apply Drawn0.step)⟩
     ·rw [if_neg c5] at H
      have c5b0:((a0 / 8) == 30) = false:=beq_eq_false_iff_ne.mpr c5
      have c5b1:((a0 / 8) != 30) = true:=bne_iff_ne.mpr c5
      simp only [Option.some.injEq,Prod.mk.injEq] at H
      obtain ⟨rfl,rfl,rfl⟩:=H
      go_enter Tryz.func193,Tryz.ntmps193
      go_wp2
      go_ret3
      exact ⟨by first | rfl | (simp;done) | (simp [*];done),by repeat (first | exact Drawn0.refl _ | apply Drawn0.step)⟩
def char_may.f (a0:Int):Option (Bool):=if a0 ≥ 0 then (if a0 ≤ 1114111 then (if a0 < 55296 then (some true) else (some (decide (a0 > 57343)))) else (some false)) else (some false)
set_option maxHeartbeats 8000000 in
set_option maxRecDepth 100000 in
theorem char_may.calls (a0:Int) (r:Bool) (w:World) (h:char_may.f a0 = some r) :
    Calls Tryz.prog 194 #[.int .i32 a0] w fun e w'=>e = .returned (.bool r) ∧ Drawn0 w w':=by
  have H:(if a0 ≥ 0 then (if a0 ≤ 1114111 then (if a0 < 55296 then (some true) else (some (decide (a0 > 57343)))) else (some false)) else (some false)) = some r:=h
  clear h
  by_cases c2:a0 ≥ 0
  ·rw [if_pos c2] at H
   have c2b0:decide (0 ≤ a0) = true:=decide_eq_true c2
   clear c2
   by_cases c3:a0 ≤ 1114111
   ·rw [if_pos c3] at H
    have c3b0:decide (a0 ≤ 1114111) = true:=decide_eq_true c3
    clear c3
    by_cases c4:a0 < 55296
    ·rw [if_pos c4] at H
     have c4b0:decide (a0 < 55296) = true:=decide_eq_true c4
     clear c4
     obtain rfl:=Option.some.inj H
     go_enter Tryz.func194,Tryz.ntmps194
     go_wp2
     go_ret
     exact ⟨by first | rfl | (simp;done) | (simp [*];done),by repeat (first | exact Drawn0.refl _ | apply Drawn0.step)⟩
    ·rw [if_neg c4] at H
     have c4b0:decide (a0 < 55296) = false:=decide_eq_false c4
     clear c4
     obtain rfl:=Option.some.inj H
     go_enter Tryz.func194,Tryz.ntmps194
     go_wp2
     go_ret
     exact ⟨by first | rfl | (simp;done) | (simp [*];done),by repeat (first | exact Drawn0.refl _ | apply Drawn0.step)⟩
   ·rw [if_neg c3] at H
    have c3b0:decide (a0 ≤ 1114111) = false:=decide_eq_false c3
    clear c3
    obtain rfl:=Option.some.inj H
    go_enter Tryz.func194,Tryz.ntmps194
    go_wp2
    go_ret
    exact ⟨by first | rfl | (simp;done) | (simp [*];done),by repeat (first | exact Drawn0.refl _ | apply Drawn0.step)⟩
  ·rw [if_neg c2] at H
   have c2b0:decide (0 ≤ a0) = false:=decide_eq_false c2
   clear c2
   obtain rfl:=Option.some.inj H
   go_enter Tryz.func194,Tryz.ntmps194
   go_wp2
   go_ret
   exact ⟨by first | rfl | (simp;done) | (simp [*];done),by repeat (first | exact Drawn0.refl _ | apply Drawn0.step)⟩
end Go.Proofs.YtbaokjfhigjpdaaGreatDoor.PXmlBase
end
section
namespace Go.Proofs.YtbaokjfhigjpdaaGreatDoor.PXmlBase
open Go.RowKit Go.Proofs.YtbaokjfhigjpdaaGreatDoorW.PrintWords Go.Proofs.YtbaokjfhigjpdaaGreatDoorW.PrintLast Go.Proofs.YtbaokjfhigjpdaaGreatDoorW.PrintMore
attribute [local go_sem] max2_int min2_int max_two min_two max_three min_three max_four min_four   -- for this text's walks alone
set_option linter.unusedVariables false
set_option linter.unusedSimpArgs false
def decS:List Int → Int × Int
  | []=>(-1,0)
  | c :: t=>
   if c < 128 then (c,1)
   else if c / 32 = 6 then (match t with
    | a :: _=>if a / 64 = 2 then (if c % 32 * 64 + a % 64 < 128 then (-1,0) else (c % 32 * 64 + a % 64,2)) else (-1,0)
    | []=>(-1,0))
   else if c / 16 = 14 then (match t with
    | a :: b :: _=>if a / 64 = 2 then (if b / 64 = 2 then (if (c % 16 * 64 + a % 64) * 64 + b % 64 < 2048 then (-1,0) else if 55296 ≤ (c % 16 * 64 + a % 64) * 64 + b % 64 ∧ (c % 16 * 64 + a % 64) * 64 + b % 64 ≤ 57343 then (-1,0) else ((c % 16 * 64 + a % 64) * 64 + b % 64,3)) else (-1,0)) else (-1,0)
    | _=>(-1,0))
   else if c / 8 = 30 then (match t with
    | a :: b :: d :: _=>if a / 64 = 2 then (if b / 64 = 2 then (if d / 64 = 2 then (if ((c % 8 * 64 + a % 64) * 64 + b % 64) * 64 + d % 64 < 65536 then (-1,0) else if 1114111 < ((c % 8 * 64 + a % 64) * 64 + b % 64) * 64 + d % 64 then (-1,0) else (((c % 8 * 64 + a % 64) * 64 + b % 64) * 64 + d % 64,4)) else (-1,0)) else (-1,0)) else (-1,0)
    | _=>(-1,0))
   else (-1,0)
def isByte (x:Int):Bool:=decide (0 ≤ x) && decide (x < 256)
def char_Decode.f (l:List Int):Option (Int × Int):=if (l.take 4).all isByte then some (decS l) else none
theorem isByte_iff {x:Int} (h:isByte x = true):0 ≤ x ∧ x < 256:=by
 unfold isByte at h
 simpa using h
set_option maxHeartbeats 1600000 in
set_option maxRecDepth 100000 in
theorem dec0 (ad:Addr) (c0 m:Nat) (c:Int) (w:World) (hcap:m + 1 ≤ c0) (x0:w.cell? ad = some (.int .u8 c)) (b1:0 ≤ c) (b2:c < 256) (h1:¬ c < 128) (h2:¬ c / 32 = 6) (h3:¬ c / 16 = 14) (h4:¬ c / 8 = 30) :
    Calls Tryz.prog 143 #[.slice (some ad) (m + 1) c0] w fun e w'=>e = .returned (.tuple #[.int .i32 (-1),.int .i64 0]) ∧ Drawn0 w w':=by
  have hl:char_lead.f c = some (0,0,0):=by
   unfold char_lead.f
   rw [if_neg h1,if_neg h2,if_neg h3,if_neg h4]
  have HL:=Aside0.mk hl
  clear hl
  have h0:((m:Int) + 1 == 0) = false:=by rw [beq_eq_false_iff_ne];omega
  go_enter Tryz.func143,Tryz.ntmps143
  go_wp2_with (first | (go_at_call 193;(with_reducible refine (char_lead.calls _ _ _ _ _ HL.out).mono ?_);rintro e w' ⟨rfl,⟨nd,rfl⟩⟩))
  go_ret2
  exact ⟨by first | rfl | (simp;done) | (simp [*];done),by repeat (first | exact Drawn0.refl _ | apply Drawn0.step)⟩
set_option maxHeartbeats 1600000 in
set_option maxRecDepth 100000 in
theorem dec1 (ad:Addr) (c0 m:Nat) (c:Int) (w:World) (hcap:m + 1 ≤ c0) (x0:w.cell? ad = some (.int .u8 c)) (b1:0 ≤ c) (b2:c < 256) (h1:c < 128) :
    Calls Tryz.prog 143 #[.slice (some ad) (m + 1) c0] w fun e w'=>e = .returned (.tuple #[.int .i32 (c),.int .i64 1]) ∧ Drawn0 w w':=by
  have hl:char_lead.f c = some (1,c,0):=by
   unfold char_lead.f
   rw [if_pos h1]
   simp [wrap32];omega
  have HL:=Aside0.mk hl
  clear hl
  have HM:Aside0 (char_may.f c = some true):=⟨by unfold char_may.f;rw [if_pos (by omega),if_pos (by omega),if_pos (by omega)]⟩
  have h0:((m:Int) + 1 == 0) = false:=by rw [beq_eq_false_iff_ne];omega
  go_enter Tryz.func143,Tryz.ntmps143
  go_wp2_with (first | (go_at_call 193;(with_reducible refine (char_lead.calls _ _ _ _ _ HL.out).mono ?_);rintro e w' ⟨rfl,⟨nd,rfl⟩⟩) | (go_at_call 194;(with_reducible refine (char_may.calls _ true _ HM.out).mono ?_);rintro e w' ⟨rfl,⟨nd2,rfl⟩⟩))
  all_goals
   refine wp_loop_rounds 1 ?_
   rw [rounds_succ]
   go_wp2_with (first | (go_at_call 193;(with_reducible refine (char_lead.calls _ _ _ _ _ HL.out).mono ?_);rintro e w' ⟨rfl,⟨nd,rfl⟩⟩) | (go_at_call 194;(with_reducible refine (char_may.calls _ true _ HM.out).mono ?_);rintro e w' ⟨rfl,⟨nd2,rfl⟩⟩))
   go_ret2
   exact ⟨by first | rfl | (simp;done) | (simp [*];done),by repeat (first | exact Drawn0.refl _ | apply Drawn0.step)⟩
set_option maxHeartbeats 1600000 in
set_option maxRecDepth 100000 in
theorem dec2s1 (ad:Addr) (c0:Nat) (c:Int) (w:World) (hcap:1 ≤ c0) (x0:w.cell? ad = some (.int .u8 c)) (b1:0 ≤ c) (b2:c < 256) (hn:c / 32 = 6) :
    Calls Tryz.prog 143 #[.slice (some ad) 1 c0] w fun e w'=>e = .returned (.tuple #[.int .i32 (-1),.int .i64 0]) ∧ Drawn0 w w':=by
  have hl:char_lead.f c = some (2,c % 32,128):=by
   unfold char_lead.f
   rw [if_neg (by omega),if_pos hn,u8_and31 _ b1 b2]
   simp [wrap32];omega
  have HL:=Aside0.mk hl
  clear hl hn
  go_enter Tryz.func143,Tryz.ntmps143
  go_wp2_with (go_at_call 193;(with_reducible refine (char_lead.calls _ _ _ _ _ HL.out).mono ?_);rintro e w' ⟨rfl,⟨nd,rfl⟩⟩)
  go_ret2
  exact ⟨by first | rfl | (simp;done) | (simp [*];done),by repeat (first | exact Drawn0.refl _ | apply Drawn0.step)⟩
set_option maxHeartbeats 1600000 in
set_option maxRecDepth 100000 in
theorem dec2b1 (ad:Addr) (c0 m:Nat) (c a:Int) (w:World) (hcap:m + 2 ≤ c0) (x0:w.cell? ad = some (.int .u8 c)) (x1:w.cell? ⟨ad.block,ad.off + 1,none⟩ = some (.int .u8 a)) (b1:0 ≤ c) (b2:c < 256) (b3:0 ≤ a) (b4:a < 256) (hn:c / 32 = 6) (g1:(a / 64 != 2) = true) :
    Calls Tryz.prog 143 #[.slice (some ad) (m + 2) c0] w fun e w'=>e = .returned (.tuple #[.int .i32 (-1),.int .i64 0]) ∧ Drawn0 w w':=by
  have hl:char_lead.f c = some (2,c % 32,128):=by
   unfold char_lead.f
   rw [if_neg (by omega),if_pos hn,u8_and31 _ b1 b2]
   simp [wrap32];omega
  have HL:=Aside0.mk hl
  clear hl
  clear hn
  have h0:((m:Int) + 2 == 0) = false:=by rw [beq_eq_false_iff_ne];omega
  go_enter Tryz.func143,Tryz.ntmps143
  go_wp2_with (first | (go_at_call 193;(with_reducible refine (char_lead.calls _ _ _ _ _ HL.out).mono ?_);rintro e w' ⟨rfl,⟨nd,rfl⟩⟩))
  refine wp_loop_rounds 1 ?_
  rw [rounds_succ]
  go_wp2_with (first | (go_at_call 193;(with_reducible refine (char_lead.calls _ _ _ _ _ HL.out).mono ?_);rintro e w' ⟨rfl,⟨nd,rfl⟩⟩))
  go_ret2
  exact ⟨by first | rfl | (simp;done) | (simp [*];done),by repeat (first | exact Drawn0.refl _ | apply Drawn0.step)⟩
set_option maxHeartbeats 1600000 in
set_option maxRecDepth 100000 in
theorem dec2low (ad:Addr) (c0 m:Nat) (c a:Int) (w:World) (hcap:m + 2 ≤ c0) (x0:w.cell? ad = some (.int .u8 c)) (x1:w.cell? ⟨ad.block,ad.off + 1,none⟩ = some (.int .u8 a)) (b1:0 ≤ c) (b2:c < 256) (b3:0 ≤ a) (b4:a < 256) (hn:c / 32 = 6) (g1:(a / 64 != 2) = false) (hr:c % 32 * 64 + a % 64 < 128) :
    Calls Tryz.prog 143 #[.slice (some ad) (m + 2) c0] w fun e w'=>e = .returned (.tuple #[.int .i32 (-1),.int .i64 0]) ∧ Drawn0 w w':=by
  have hl:char_lead.f c = some (2,c % 32,128):=by
   unfold char_lead.f
   rw [if_neg (by omega),if_pos hn,u8_and31 _ b1 b2]
   simp [wrap32];omega
  have HL:=Aside0.mk hl
  clear hl
  clear hn
  have h0:((m:Int) + 2 == 0) = false:=by rw [beq_eq_false_iff_ne];omega
  go_enter Tryz.func143,Tryz.ntmps143
  go_wp2_with (first | (go_at_call 193;(with_reducible refine (char_lead.calls _ _ _ _ _ HL.out).mono ?_);rintro e w' ⟨rfl,⟨nd,rfl⟩⟩))
  refine wp_loop_rounds 2 ?_
  rw [rounds_succ]
  go_wp2_with (first | (go_at_call 193;(with_reducible refine (char_lead.calls _ _ _ _ _ HL.out).mono ?_);rintro e w' ⟨rfl,⟨nd,rfl⟩⟩))
  rw [rounds_succ]
  go_wp2_with (first | (go_at_call 193;(with_reducible refine (char_lead.calls _ _ _ _ _ HL.out).mono ?_);rintro e w' ⟨rfl,⟨nd,rfl⟩⟩))
  go_ret2
  exact ⟨by first | rfl | (simp;done) | (simp [*];done),by repeat (first | exact Drawn0.refl _ | apply Drawn0.step)⟩
set_option maxHeartbeats 1600000 in
set_option maxRecDepth 100000 in
theorem dec2ok (ad:Addr) (c0 m:Nat) (c a:Int) (w:World) (hcap:m + 2 ≤ c0) (x0:w.cell? ad = some (.int .u8 c)) (x1:w.cell? ⟨ad.block,ad.off + 1,none⟩ = some (.int .u8 a)) (b1:0 ≤ c) (b2:c < 256) (b3:0 ≤ a) (b4:a < 256) (hn:c / 32 = 6) (g1:(a / 64 != 2) = false) (hr:¬ c % 32 * 64 + a % 64 < 128) :
    Calls Tryz.prog 143 #[.slice (some ad) (m + 2) c0] w fun e w'=>e = .returned (.tuple #[.int .i32 (c % 32 * 64 + a % 64),.int .i64 2]) ∧ Drawn0 w w':=by
  have hl:char_lead.f c = some (2,c % 32,128):=by
   unfold char_lead.f
   rw [if_neg (by omega),if_pos hn,u8_and31 _ b1 b2]
   simp [wrap32];omega
  have HL:=Aside0.mk hl
  clear hl
  have HM:Aside0 (char_may.f (c % 32 * 64 + a % 64) = some true):=⟨by unfold char_may.f;rw [if_pos (by omega),if_pos (by omega),if_pos (by omega)]⟩
  clear hn
  have h0:((m:Int) + 2 == 0) = false:=by rw [beq_eq_false_iff_ne];omega
  go_enter Tryz.func143,Tryz.ntmps143
  go_wp2_with (first | (go_at_call 193;(with_reducible refine (char_lead.calls _ _ _ _ _ HL.out).mono ?_);rintro e w' ⟨rfl,⟨nd,rfl⟩⟩) | (go_at_call 194;(with_reducible refine (char_may.calls _ true _ HM.out).mono ?_);rintro e w' ⟨rfl,⟨nd2,rfl⟩⟩))
  refine wp_loop_rounds 2 ?_
  rw [rounds_succ]
  go_wp2_with (first | (go_at_call 193;(with_reducible refine (char_lead.calls _ _ _ _ _ HL.out).mono ?_);rintro e w' ⟨rfl,⟨nd,rfl⟩⟩) | (go_at_call 194;(with_reducible refine (char_may.calls _ true _ HM.out).mono ?_);rintro e w' ⟨rfl,⟨nd2,rfl⟩⟩))
  rw [rounds_succ]
  go_wp2_with (first | (go_at_call 193;(with_reducible refine (char_lead.calls _ _ _ _ _ HL.out).mono ?_);rintro e w' ⟨rfl,⟨nd,rfl⟩⟩) | (go_at_call 194;(with_reducible refine (char_may.calls _ true _ HM.out).mono ?_);rintro e w' ⟨rfl,⟨nd2,rfl⟩⟩))
  go_ret2
  exact ⟨by first | rfl | (simp;done) | (simp [*];done),by repeat (first | exact Drawn0.refl _ | apply Drawn0.step)⟩
set_option maxHeartbeats 1600000 in
set_option maxRecDepth 100000 in
theorem dec3s1 (ad:Addr) (c0:Nat) (c:Int) (w:World) (hcap:1 ≤ c0) (x0:w.cell? ad = some (.int .u8 c)) (b1:0 ≤ c) (b2:c < 256) (hn:c / 16 = 14) :
    Calls Tryz.prog 143 #[.slice (some ad) 1 c0] w fun e w'=>e = .returned (.tuple #[.int .i32 (-1),.int .i64 0]) ∧ Drawn0 w w':=by
  have hl:char_lead.f c = some (3,c % 16,2048):=by
   unfold char_lead.f
   rw [if_neg (by omega),if_neg (by omega),if_pos hn,u8_and15 _ b1 b2]
   simp [wrap32];omega
  have HL:=Aside0.mk hl
  clear hl hn
  go_enter Tryz.func143,Tryz.ntmps143
  go_wp2_with (go_at_call 193;(with_reducible refine (char_lead.calls _ _ _ _ _ HL.out).mono ?_);rintro e w' ⟨rfl,⟨nd,rfl⟩⟩)
  go_ret2
  exact ⟨by first | rfl | (simp;done) | (simp [*];done),by repeat (first | exact Drawn0.refl _ | apply Drawn0.step)⟩
set_option maxHeartbeats 1600000 in
set_option maxRecDepth 100000 in
theorem dec3s2 (ad:Addr) (c0:Nat) (c:Int) (w:World) (hcap:2 ≤ c0) (x0:w.cell? ad = some (.int .u8 c)) (b1:0 ≤ c) (b2:c < 256) (hn:c / 16 = 14) :
    Calls Tryz.prog 143 #[.slice (some ad) 2 c0] w fun e w'=>e = .returned (.tuple #[.int .i32 (-1),.int .i64 0]) ∧ Drawn0 w w':=by
  have hl:char_lead.f c = some (3,c % 16,2048):=by
   unfold char_lead.f
   rw [if_neg (by omega),if_neg (by omega),if_pos hn,u8_and15 _ b1 b2]
   simp [wrap32];omega
  have HL:=Aside0.mk hl
  clear hl hn
  go_enter Tryz.func143,Tryz.ntmps143
  go_wp2_with (go_at_call 193;(with_reducible refine (char_lead.calls _ _ _ _ _ HL.out).mono ?_);rintro e w' ⟨rfl,⟨nd,rfl⟩⟩)
  go_ret2
  exact ⟨by first | rfl | (simp;done) | (simp [*];done),by repeat (first | exact Drawn0.refl _ | apply Drawn0.step)⟩
set_option maxHeartbeats 1600000 in
set_option maxRecDepth 100000 in
theorem dec3b1 (ad:Addr) (c0 m:Nat) (c a:Int) (w:World) (hcap:m + 3 ≤ c0) (x0:w.cell? ad = some (.int .u8 c)) (x1:w.cell? ⟨ad.block,ad.off + 1,none⟩ = some (.int .u8 a)) (b1:0 ≤ c) (b2:c < 256) (b3:0 ≤ a) (b4:a < 256) (hn:c / 16 = 14) (g1:(a / 64 != 2) = true) :
    Calls Tryz.prog 143 #[.slice (some ad) (m + 3) c0] w fun e w'=>e = .returned (.tuple #[.int .i32 (-1),.int .i64 0]) ∧ Drawn0 w w':=by
  have hl:char_lead.f c = some (3,c % 16,2048):=by
   unfold char_lead.f
   rw [if_neg (by omega),if_neg (by omega),if_pos hn,u8_and15 _ b1 b2]
   simp [wrap32];omega
  have HL:=Aside0.mk hl
  clear hl
  clear hn
  have h0:((m:Int) + 3 == 0) = false:=by rw [beq_eq_false_iff_ne];omega
  go_enter Tryz.func143,Tryz.ntmps143
  go_wp2_with (first | (go_at_call 193;(with_reducible refine (char_lead.calls _ _ _ _ _ HL.out).mono ?_);rintro e w' ⟨rfl,⟨nd,rfl⟩⟩))
  refine wp_loop_rounds 1 ?_
  rw [rounds_succ]
  go_wp2_with (first | (go_at_call 193;(with_reducible refine (char_lead.calls _ _ _ _ _ HL.out).mono ?_);rintro e w' ⟨rfl,⟨nd,rfl⟩⟩))
  go_ret2
  exact ⟨by first | rfl | (simp;done) | (simp [*];done),by repeat (first | exact Drawn0.refl _ | apply Drawn0.step)⟩
set_option maxHeartbeats 1600000 in
set_option maxRecDepth 100000 in
theorem dec3b2 (ad:Addr) (c0 m:Nat) (c a b:Int) (w:World) (hcap:m + 3 ≤ c0) (x0:w.cell? ad = some (.int .u8 c)) (x1:w.cell? ⟨ad.block,ad.off + 1,none⟩ = some (.int .u8 a)) (x2:w.cell? ⟨ad.block,ad.off + 1 + 1,none⟩ = some (.int .u8 b)) (b1:0 ≤ c) (b2:c < 256) (b3:0 ≤ a) (b4:a < 256) (b5:0 ≤ b) (b6:b < 256) (hn:c / 16 = 14) (g1:(a / 64 != 2) = false) (g2:(b / 64 != 2) = true) :
    Calls Tryz.prog 143 #[.slice (some ad) (m + 3) c0] w fun e w'=>e = .returned (.tuple #[.int .i32 (-1),.int .i64 0]) ∧ Drawn0 w w':=by
  have hl:char_lead.f c = some (3,c % 16,2048):=by
   unfold char_lead.f
   rw [if_neg (by omega),if_neg (by omega),if_pos hn,u8_and15 _ b1 b2]
   simp [wrap32];omega
  have HL:=Aside0.mk hl
  clear hl
  clear hn
  have h0:((m:Int) + 3 == 0) = false:=by rw [beq_eq_false_iff_ne];omega
  go_enter Tryz.func143,Tryz.ntmps143
  go_wp2_with (first | (go_at_call 193;(with_reducible refine (char_lead.calls _ _ _ _ _ HL.out).mono ?_);rintro e w' ⟨rfl,⟨nd,rfl⟩⟩))
  refine wp_loop_rounds 2 ?_
  rw [rounds_succ]
  go_wp2_with (first | (go_at_call 193;(with_reducible refine (char_lead.calls _ _ _ _ _ HL.out).mono ?_);rintro e w' ⟨rfl,⟨nd,rfl⟩⟩))
  rw [rounds_succ]
  go_wp2_with (first | (go_at_call 193;(with_reducible refine (char_lead.calls _ _ _ _ _ HL.out).mono ?_);rintro e w' ⟨rfl,⟨nd,rfl⟩⟩))
  go_ret2
  exact ⟨by first | rfl | (simp;done) | (simp [*];done),by repeat (first | exact Drawn0.refl _ | apply Drawn0.step)⟩
set_option maxHeartbeats 1600000 in
set_option maxRecDepth 100000 in
theorem dec3low (ad:Addr) (c0 m:Nat) (c a b:Int) (w:World) (hcap:m + 3 ≤ c0) (x0:w.cell? ad = some (.int .u8 c)) (x1:w.cell? ⟨ad.block,ad.off + 1,none⟩ = some (.int .u8 a)) (x2:w.cell? ⟨ad.block,ad.off + 1 + 1,none⟩ = some (.int .u8 b)) (b1:0 ≤ c) (b2:c < 256) (b3:0 ≤ a) (b4:a < 256) (b5:0 ≤ b) (b6:b < 256) (hn:c / 16 = 14) (g1:(a / 64 != 2) = false) (g2:(b / 64 != 2) = false) (hr:(c % 16 * 64 + a % 64) * 64 + b % 64 < 2048) :
    Calls Tryz.prog 143 #[.slice (some ad) (m + 3) c0] w fun e w'=>e = .returned (.tuple #[.int .i32 (-1),.int .i64 0]) ∧ Drawn0 w w':=by
  have hl:char_lead.f c = some (3,c % 16,2048):=by
   unfold char_lead.f
   rw [if_neg (by omega),if_neg (by omega),if_pos hn,u8_and15 _ b1 b2]
   simp [wrap32];omega
  have HL:=Aside0.mk hl
  clear hl
  clear hn
  have h0:((m:Int) + 3 == 0) = false:=by rw [beq_eq_false_iff_ne];omega
  go_enter Tryz.func143,Tryz.ntmps143
  go_wp2_with (first | (go_at_call 193;(with_reducible refine (char_lead.calls _ _ _ _ _ HL.out).mono ?_);rintro e w' ⟨rfl,⟨nd,rfl⟩⟩))
  refine wp_loop_rounds 3 ?_
  rw [rounds_succ]
  go_wp2_with (first | (go_at_call 193;(with_reducible refine (char_lead.calls _ _ _ _ _ HL.out).mono ?_);rintro e w' ⟨rfl,⟨nd,rfl⟩⟩))
  rw [rounds_succ]
  go_wp2_with (first | (go_at_call 193;(with_reducible refine (char_lead.calls _ _ _ _ _ HL.out).mono ?_);rintro e w' ⟨rfl,⟨nd,rfl⟩⟩))
  rw [rounds_succ]
  go_wp2_with (first | (go_at_call 193;(with_reducible refine (char_lead.calls _ _ _ _ _ HL.out).mono ?_);rintro e w' ⟨rfl,⟨nd,rfl⟩⟩))
  go_ret2
  exact ⟨by first | rfl | (simp;done) | (simp [*];done),by repeat (first | exact Drawn0.refl _ | apply Drawn0.step)⟩
set_option maxHeartbeats 1600000 in
set_option maxRecDepth 100000 in
theorem dec3no (ad:Addr) (c0 m:Nat) (c a b:Int) (w:World) (hcap:m + 3 ≤ c0) (x0:w.cell? ad = some (.int .u8 c)) (x1:w.cell? ⟨ad.block,ad.off + 1,none⟩ = some (.int .u8 a)) (x2:w.cell? ⟨ad.block,ad.off + 1 + 1,none⟩ = some (.int .u8 b)) (b1:0 ≤ c) (b2:c < 256) (b3:0 ≤ a) (b4:a < 256) (b5:0 ≤ b) (b6:b < 256) (hn:c / 16 = 14) (g1:(a / 64 != 2) = false) (g2:(b / 64 != 2) = false) (hr:¬ (c % 16 * 64 + a % 64) * 64 + b % 64 < 2048) (hs:55296 ≤ (c % 16 * 64 + a % 64) * 64 + b % 64 ∧ (c % 16 * 64 + a % 64) * 64 + b % 64 ≤ 57343) :
    Calls Tryz.prog 143 #[.slice (some ad) (m + 3) c0] w fun e w'=>e = .returned (.tuple #[.int .i32 (-1),.int .i64 0]) ∧ Drawn0 w w':=by
  have hl:char_lead.f c = some (3,c % 16,2048):=by
   unfold char_lead.f
   rw [if_neg (by omega),if_neg (by omega),if_pos hn,u8_and15 _ b1 b2]
   simp [wrap32];omega
  have HL:=Aside0.mk hl
  clear hl
  have HM:Aside0 (char_may.f ((c % 16 * 64 + a % 64) * 64 + b % 64) = some false):=⟨by unfold char_may.f;rw [if_pos (by omega),if_pos (by omega),if_neg (by omega)];simp;omega⟩
  clear hn hs
  have h0:((m:Int) + 3 == 0) = false:=by rw [beq_eq_false_iff_ne];omega
  go_enter Tryz.func143,Tryz.ntmps143
  go_wp2_with (first | (go_at_call 193;(with_reducible refine (char_lead.calls _ _ _ _ _ HL.out).mono ?_);rintro e w' ⟨rfl,⟨nd,rfl⟩⟩) | (go_at_call 194;(with_reducible refine (char_may.calls _ false _ HM.out).mono ?_);rintro e w' ⟨rfl,⟨nd2,rfl⟩⟩))
  refine wp_loop_rounds 3 ?_
  rw [rounds_succ]
  go_wp2_with (first | (go_at_call 193;(with_reducible refine (char_lead.calls _ _ _ _ _ HL.out).mono ?_);rintro e w' ⟨rfl,⟨nd,rfl⟩⟩) | (go_at_call 194;(with_reducible refine (char_may.calls _ false _ HM.out).mono ?_);rintro e w' ⟨rfl,⟨nd2,rfl⟩⟩))
  rw [rounds_succ]
  go_wp2_with (first | (go_at_call 193;(with_reducible refine (char_lead.calls _ _ _ _ _ HL.out).mono ?_);rintro e w' ⟨rfl,⟨nd,rfl⟩⟩) | (go_at_call 194;(with_reducible refine (char_may.calls _ false _ HM.out).mono ?_);rintro e w' ⟨rfl,⟨nd2,rfl⟩⟩))
  rw [rounds_succ]
  go_wp2_with (first | (go_at_call 193;(with_reducible refine (char_lead.calls _ _ _ _ _ HL.out).mono ?_);rintro e w' ⟨rfl,⟨nd,rfl⟩⟩) | (go_at_call 194;(with_reducible refine (char_may.calls _ false _ HM.out).mono ?_);rintro e w' ⟨rfl,⟨nd2,rfl⟩⟩))
  go_ret2
  exact ⟨by first | rfl | (simp;done) | (simp [*];done),by repeat (first | exact Drawn0.refl _ | apply Drawn0.step)⟩
set_option maxHeartbeats 1600000 in
set_option maxRecDepth 100000 in
theorem dec3ok (ad:Addr) (c0 m:Nat) (c a b:Int) (w:World) (hcap:m + 3 ≤ c0) (x0:w.cell? ad = some (.int .u8 c)) (x1:w.cell? ⟨ad.block,ad.off + 1,none⟩ = some (.int .u8 a)) (x2:w.cell? ⟨ad.block,ad.off + 1 + 1,none⟩ = some (.int .u8 b)) (b1:0 ≤ c) (b2:c < 256) (b3:0 ≤ a) (b4:a < 256) (b5:0 ≤ b) (b6:b < 256) (hn:c / 16 = 14) (g1:(a / 64 != 2) = false) (g2:(b / 64 != 2) = false) (hr:¬ (c % 16 * 64 + a % 64) * 64 + b % 64 < 2048) (hs:¬ (55296 ≤ (c % 16 * 64 + a % 64) * 64 + b % 64 ∧ (c % 16 * 64 + a % 64) * 64 + b % 64 ≤ 57343)) :
    Calls Tryz.prog 143 #[.slice (some ad) (m + 3) c0] w fun e w'=>e = .returned (.tuple #[.int .i32 ((c % 16 * 64 + a % 64) * 64 + b % 64),.int .i64 3]) ∧ Drawn0 w w':=by
  have hl:char_lead.f c = some (3,c % 16,2048):=by
   unfold char_lead.f
   rw [if_neg (by omega),if_neg (by omega),if_pos hn,u8_and15 _ b1 b2]
   simp [wrap32];omega
  have HL:=Aside0.mk hl
  clear hl
  have HM:Aside0 (char_may.f ((c % 16 * 64 + a % 64) * 64 + b % 64) = some true):=⟨by
   unfold char_may.f
   rw [if_pos (by omega),if_pos (by omega)]
   split
   · rfl
   · simp;omega⟩
  clear hn hs
  have h0:((m:Int) + 3 == 0) = false:=by rw [beq_eq_false_iff_ne];omega
  go_enter Tryz.func143,Tryz.ntmps143
  go_wp2_with (first | (go_at_call 193;(with_reducible refine (char_lead.calls _ _ _ _ _ HL.out).mono ?_);rintro e w' ⟨rfl,⟨nd,rfl⟩⟩) | (go_at_call 194;(with_reducible refine (char_may.calls _ true _ HM.out).mono ?_);rintro e w' ⟨rfl,⟨nd2,rfl⟩⟩))
  refine wp_loop_rounds 3 ?_
  rw [rounds_succ]
  go_wp2_with (first | (go_at_call 193;(with_reducible refine (char_lead.calls _ _ _ _ _ HL.out).mono ?_);rintro e w' ⟨rfl,⟨nd,rfl⟩⟩) | (go_at_call 194;(with_reducible refine (char_may.calls _ true _ HM.out).mono ?_);rintro e w' ⟨rfl,⟨nd2,rfl⟩⟩))
  rw [rounds_succ]
  go_wp2_with (first | (go_at_call 193;(with_reducible refine (char_lead.calls _ _ _ _ _ HL.out).mono ?_);rintro e w' ⟨rfl,⟨nd,rfl⟩⟩) | (go_at_call 194;(with_reducible refine (char_may.calls _ true _ HM.out).mono ?_);rintro e w' ⟨rfl,⟨nd2,rfl⟩⟩))
  rw [rounds_succ]
  go_wp2_with (first | (go_at_call 193;(with_reducible refine (char_lead.calls _ _ _ _ _ HL.out).mono ?_);rintro e w' ⟨rfl,⟨nd,rfl⟩⟩) | (go_at_call 194;(with_reducible refine (char_may.calls _ true _ HM.out).mono ?_);rintro e w' ⟨rfl,⟨nd2,rfl⟩⟩))
  go_ret2
  exact ⟨by first | rfl | (simp;done) | (simp [*];done),by repeat (first | exact Drawn0.refl _ | apply Drawn0.step)⟩
set_option maxHeartbeats 1600000 in
set_option maxRecDepth 100000 in
theorem dec4s1 (ad:Addr) (c0:Nat) (c:Int) (w:World) (hcap:1 ≤ c0) (x0:w.cell? ad = some (.int .u8 c)) (b1:0 ≤ c) (b2:c < 256) (hn:c / 8 = 30) :
    Calls Tryz.prog 143 #[.slice (some ad) 1 c0] w fun e w'=>e = .returned (.tuple #[.int .i32 (-1),.int .i64 0]) ∧ Drawn0 w w':=by
  have hl:char_lead.f c = some (4,c % 8,65536):=by
   unfold char_lead.f
   rw [if_neg (by omega),if_neg (by omega),if_neg (by omega),if_pos hn,u8_and7 _ b1 b2]
   simp [wrap32];omega
  have HL:=Aside0.mk hl
  clear hl hn
  go_enter Tryz.func143,Tryz.ntmps143
  go_wp2_with (go_at_call 193;(with_reducible refine (char_lead.calls _ _ _ _ _ HL.out).mono ?_);rintro e w' ⟨rfl,⟨nd,rfl⟩⟩)
  go_ret2
  exact ⟨by first | rfl | (simp;done) | (simp [*];done),by repeat (first | exact Drawn0.refl _ | apply Drawn0.step)⟩
set_option maxHeartbeats 1600000 in
set_option maxRecDepth 100000 in
theorem dec4s2 (ad:Addr) (c0:Nat) (c:Int) (w:World) (hcap:2 ≤ c0) (x0:w.cell? ad = some (.int .u8 c)) (b1:0 ≤ c) (b2:c < 256) (hn:c / 8 = 30) :
    Calls Tryz.prog 143 #[.slice (some ad) 2 c0] w fun e w'=>e = .returned (.tuple #[.int .i32 (-1),.int .i64 0]) ∧ Drawn0 w w':=by
  have hl:char_lead.f c = some (4,c % 8,65536):=by
   unfold char_lead.f
   rw [if_neg (by omega),if_neg (by omega),if_neg (by omega),if_pos hn,u8_and7 _ b1 b2]
   simp [wrap32];omega
  have HL:=Aside0.mk hl
  clear hl hn
  go_enter Tryz.func143,Tryz.ntmps143
  go_wp2_with (go_at_call 193;(with_reducible refine (char_lead.calls _ _ _ _ _ HL.out).mono ?_);rintro e w' ⟨rfl,⟨nd,rfl⟩⟩)
  go_ret2
  exact ⟨by first | rfl | (simp;done) | (simp [*];done),by repeat (first | exact Drawn0.refl _ | apply Drawn0.step)⟩
set_option maxHeartbeats 1600000 in
set_option maxRecDepth 100000 in
theorem dec4s3 (ad:Addr) (c0:Nat) (c:Int) (w:World) (hcap:3 ≤ c0) (x0:w.cell? ad = some (.int .u8 c)) (b1:0 ≤ c) (b2:c < 256) (hn:c / 8 = 30) :
    Calls Tryz.prog 143 #[.slice (some ad) 3 c0] w fun e w'=>e = .returned (.tuple #[.int .i32 (-1),.int .i64 0]) ∧ Drawn0 w w':=by
  have hl:char_lead.f c = some (4,c % 8,65536):=by
   unfold char_lead.f
   rw [if_neg (by omega),if_neg (by omega),if_neg (by omega),if_pos hn,u8_and7 _ b1 b2]
   simp [wrap32];omega
  have HL:=Aside0.mk hl
  clear hl hn
  go_enter Tryz.func143,Tryz.ntmps143
  go_wp2_with (go_at_call 193;(with_reducible refine (char_lead.calls _ _ _ _ _ HL.out).mono ?_);rintro e w' ⟨rfl,⟨nd,rfl⟩⟩)
  go_ret2
  exact ⟨by first | rfl | (simp;done) | (simp [*];done),by repeat (first | exact Drawn0.refl _ | apply Drawn0.step)⟩
set_option maxHeartbeats 1600000 in
set_option maxRecDepth 100000 in
theorem dec4b1 (ad:Addr) (c0 m:Nat) (c a:Int) (w:World) (hcap:m + 4 ≤ c0) (x0:w.cell? ad = some (.int .u8 c)) (x1:w.cell? ⟨ad.block,ad.off + 1,none⟩ = some (.int .u8 a)) (b1:0 ≤ c) (b2:c < 256) (b3:0 ≤ a) (b4:a < 256) (hn:c / 8 = 30) (g1:(a / 64 != 2) = true) :
    Calls Tryz.prog 143 #[.slice (some ad) (m + 4) c0] w fun e w'=>e = .returned (.tuple #[.int .i32 (-1),.int .i64 0]) ∧ Drawn0 w w':=by
  have hl:char_lead.f c = some (4,c % 8,65536):=by
   unfold char_lead.f
   rw [if_neg (by omega),if_neg (by omega),if_neg (by omega),if_pos hn,u8_and7 _ b1 b2]
   simp [wrap32];omega
  have HL:=Aside0.mk hl
  clear hl
  clear hn
  have h0:((m:Int) + 4 == 0) = false:=by rw [beq_eq_false_iff_ne];omega
  go_enter Tryz.func143,Tryz.ntmps143
  go_wp2_with (first | (go_at_call 193;(with_reducible refine (char_lead.calls _ _ _ _ _ HL.out).mono ?_);rintro e w' ⟨rfl,⟨nd,rfl⟩⟩))
  refine wp_loop_rounds 1 ?_
  rw [rounds_succ]
  go_wp2_with (first | (go_at_call 193;(with_reducible refine (char_lead.calls _ _ _ _ _ HL.out).mono ?_);rintro e w' ⟨rfl,⟨nd,rfl⟩⟩))
  go_ret2
  exact ⟨by first | rfl | (simp;done) | (simp [*];done),by repeat (first | exact Drawn0.refl _ | apply Drawn0.step)⟩
set_option maxHeartbeats 1600000 in
set_option maxRecDepth 100000 in
theorem dec4b2 (ad:Addr) (c0 m:Nat) (c a b:Int) (w:World) (hcap:m + 4 ≤ c0) (x0:w.cell? ad = some (.int .u8 c)) (x1:w.cell? ⟨ad.block,ad.off + 1,none⟩ = some (.int .u8 a)) (x2:w.cell? ⟨ad.block,ad.off + 1 + 1,none⟩ = some (.int .u8 b)) (b1:0 ≤ c) (b2:c < 256) (b3:0 ≤ a) (b4:a < 256) (b5:0 ≤ b) (b6:b < 256) (hn:c / 8 = 30) (g1:(a / 64 != 2) = false) (g2:(b / 64 != 2) = true) :
    Calls Tryz.prog 143 #[.slice (some ad) (m + 4) c0] w fun e w'=>e = .returned (.tuple #[.int .i32 (-1),.int .i64 0]) ∧ Drawn0 w w':=by
  have hl:char_lead.f c = some (4,c % 8,65536):=by
   unfold char_lead.f
   rw [if_neg (by omega),if_neg (by omega),if_neg (by omega),if_pos hn,u8_and7 _ b1 b2]
   simp [wrap32];omega
  have HL:=Aside0.mk hl
  clear hl
  clear hn
  have h0:((m:Int) + 4 == 0) = false:=by rw [beq_eq_false_iff_ne];omega
  go_enter Tryz.func143,Tryz.ntmps143
  go_wp2_with (first | (go_at_call 193;(with_reducible refine (char_lead.calls _ _ _ _ _ HL.out).mono ?_);rintro e w' ⟨rfl,⟨nd,rfl⟩⟩))
  refine wp_loop_rounds 2 ?_
  rw [rounds_succ]
  go_wp2_with (first | (go_at_call 193;(with_reducible refine (char_lead.calls _ _ _ _ _ HL.out).mono ?_);rintro e w' ⟨rfl,⟨nd,rfl⟩⟩))
  rw [rounds_succ]
  go_wp2_with (first | (go_at_call 193;(with_reducible refine (char_lead.calls _ _ _ _ _ HL.out).mono ?_);rintro e w' ⟨rfl,⟨nd,rfl⟩⟩))
  go_ret2
  exact ⟨by first | rfl | (simp;done) | (simp [*];done),by repeat (first | exact Drawn0.refl _ | apply Drawn0.step)⟩
set_option maxHeartbeats 1600000 in
set_option maxRecDepth 100000 in
theorem dec4b3 (ad:Addr) (c0 m:Nat) (c a b d:Int) (w:World) (hcap:m + 4 ≤ c0) (x0:w.cell? ad = some (.int .u8 c)) (x1:w.cell? ⟨ad.block,ad.off + 1,none⟩ = some (.int .u8 a)) (x2:w.cell? ⟨ad.block,ad.off + 1 + 1,none⟩ = some (.int .u8 b)) (x3:w.cell? ⟨ad.block,ad.off + 1 + 1 + 1,none⟩ = some (.int .u8 d)) (b1:0 ≤ c) (b2:c < 256) (b3:0 ≤ a) (b4:a < 256) (b5:0 ≤ b) (b6:b < 256) (b7:0 ≤ d) (b8:d < 256) (hn:c / 8 = 30) (g1:(a / 64 != 2) = false) (g2:(b / 64 != 2) = false) (g3:(d / 64 != 2) = true) :
    Calls Tryz.prog 143 #[.slice (some ad) (m + 4) c0] w fun e w'=>e = .returned (.tuple #[.int .i32 (-1),.int .i64 0]) ∧ Drawn0 w w':=by
  have hl:char_lead.f c = some (4,c % 8,65536):=by
   unfold char_lead.f
   rw [if_neg (by omega),if_neg (by omega),if_neg (by omega),if_pos hn,u8_and7 _ b1 b2]
   simp [wrap32];omega
  have HL:=Aside0.mk hl
  clear hl
  clear hn
  have h0:((m:Int) + 4 == 0) = false:=by rw [beq_eq_false_iff_ne];omega
  go_enter Tryz.func143,Tryz.ntmps143
  go_wp2_with (first | (go_at_call 193;(with_reducible refine (char_lead.calls _ _ _ _ _ HL.out).mono ?_);rintro e w' ⟨rfl,⟨nd,rfl⟩⟩))
  refine wp_loop_rounds 3 ?_
  rw [rounds_succ]
  go_wp2_with (first | (go_at_call 193;(with_reducible refine (char_lead.calls _ _ _ _ _ HL.out).mono ?_);rintro e w' ⟨rfl,⟨nd,rfl⟩⟩))
  rw [rounds_succ]
  go_wp2_with (first | (go_at_call 193;(with_reducible refine (char_lead.calls _ _ _ _ _ HL.out).mono ?_);rintro e w' ⟨rfl,⟨nd,rfl⟩⟩))
  rw [rounds_succ]
  go_wp2_with (first | (go_at_call 193;(with_reducible refine (char_lead.calls _ _ _ _ _ HL.out).mono ?_);rintro e w' ⟨rfl,⟨nd,rfl⟩⟩))
  go_ret2
  exact ⟨by first | rfl | (simp;done) | (simp [*];done),by repeat (first | exact Drawn0.refl _ | apply Drawn0.step)⟩
set_option maxHeartbeats 1600000 in
set_option maxRecDepth 100000 in
theorem dec4low (ad:Addr) (c0 m:Nat) (c a b d:Int) (w:World) (hcap:m + 4 ≤ c0) (x0:w.cell? ad = some (.int .u8 c)) (x1:w.cell? ⟨ad.block,ad.off + 1,none⟩ = some (.int .u8 a)) (x2:w.cell? ⟨ad.block,ad.off + 1 + 1,none⟩ = some (.int .u8 b)) (x3:w.cell? ⟨ad.block,ad.off + 1 + 1 + 1,none⟩ = some (.int .u8 d)) (b1:0 ≤ c) (b2:c < 256) (b3:0 ≤ a) (b4:a < 256) (b5:0 ≤ b) (b6:b < 256) (b7:0 ≤ d) (b8:d < 256) (hn:c / 8 = 30) (g1:(a / 64 != 2) = false) (g2:(b / 64 != 2) = false) (g3:(d / 64 != 2) = false) (hr:((c % 8 * 64 + a % 64) * 64 + b % 64) * 64 + d % 64 < 65536) :
    Calls Tryz.prog 143 #[.slice (some ad) (m + 4) c0] w fun e w'=>e = .returned (.tuple #[.int .i32 (-1),.int .i64 0]) ∧ Drawn0 w w':=by
  have hl:char_lead.f c = some (4,c % 8,65536):=by
   unfold char_lead.f
   rw [if_neg (by omega),if_neg (by omega),if_neg (by omega),if_pos hn,u8_and7 _ b1 b2]
   simp [wrap32];omega
  have HL:=Aside0.mk hl
  clear hl
  clear hn
  have h0:((m:Int) + 4 == 0) = false:=by rw [beq_eq_false_iff_ne];omega
  go_enter Tryz.func143,Tryz.ntmps143
  go_wp2_with (first | (go_at_call 193;(with_reducible refine (char_lead.calls _ _ _ _ _ HL.out).mono ?_);rintro e w' ⟨rfl,⟨nd,rfl⟩⟩))
  refine wp_loop_rounds 4 ?_
  rw [rounds_succ]
  go_wp2_with (first | (go_at_call 193;(with_reducible refine (char_lead.calls _ _ _ _ _ HL.out).mono ?_);rintro e w' ⟨rfl,⟨nd,rfl⟩⟩))
  rw [rounds_succ]
  go_wp2_with (first | (go_at_call 193;(with_reducible refine (char_lead.calls _ _ _ _ _ HL.out).mono ?_);rintro e w' ⟨rfl,⟨nd,rfl⟩⟩))
  rw [rounds_succ]
  go_wp2_with (first | (go_at_call 193;(with_reducible refine (char_lead.calls _ _ _ _ _ HL.out).mono ?_);rintro e w' ⟨rfl,⟨nd,rfl⟩⟩))
  rw [rounds_succ]
  go_wp2_with (first | (go_at_call 193;(with_reducible refine (char_lead.calls _ _ _ _ _ HL.out).mono ?_);rintro e w' ⟨rfl,⟨nd,rfl⟩⟩))
  go_ret2
  exact ⟨by first | rfl | (simp;done) | (simp [*];done),by repeat (first | exact Drawn0.refl _ | apply Drawn0.step)⟩
set_option maxHeartbeats 1600000 in
set_option maxRecDepth 100000 in
theorem dec4no (ad:Addr) (c0 m:Nat) (c a b d:Int) (w:World) (hcap:m + 4 ≤ c0) (x0:w.cell? ad = some (.int .u8 c)) (x1:w.cell? ⟨ad.block,ad.off + 1,none⟩ = some (.int .u8 a)) (x2:w.cell? ⟨ad.block,ad.off + 1 + 1,none⟩ = some (.int .u8 b)) (x3:w.cell? ⟨ad.block,ad.off + 1 + 1 + 1,none⟩ = some (.int .u8 d)) (b1:0 ≤ c) (b2:c < 256) (b3:0 ≤ a) (b4:a < 256) (b5:0 ≤ b) (b6:b < 256) (b7:0 ≤ d) (b8:d < 256) (hn:c / 8 = 30) (g1:(a / 64 != 2) = false) (g2:(b / 64 != 2) = false) (g3:(d / 64 != 2) = false) (hr:¬ ((c % 8 * 64 + a % 64) * 64 + b % 64) * 64 + d % 64 < 65536) (hs:1114111 < ((c % 8 * 64 + a % 64) * 64 + b % 64) * 64 + d % 64) :
    Calls Tryz.prog 143 #[.slice (some ad) (m + 4) c0] w fun e w'=>e = .returned (.tuple #[.int .i32 (-1),.int .i64 0]) ∧ Drawn0 w w':=by
  have hl:char_lead.f c = some (4,c % 8,65536):=by
   unfold char_lead.f
   rw [if_neg (by omega),if_neg (by omega),if_neg (by omega),if_pos hn,u8_and7 _ b1 b2]
   simp [wrap32];omega
  have HL:=Aside0.mk hl
  clear hl
  have HM:Aside0 (char_may.f (((c % 8 * 64 + a % 64) * 64 + b % 64) * 64 + d % 64) = some false):=⟨by unfold char_may.f;rw [if_pos (by omega),if_neg (by omega)]⟩
  clear hn hs
  have h0:((m:Int) + 4 == 0) = false:=by rw [beq_eq_false_iff_ne];omega
  go_enter Tryz.func143,Tryz.ntmps143
  go_wp2_with (first | (go_at_call 193;(with_reducible refine (char_lead.calls _ _ _ _ _ HL.out).mono ?_);rintro e w' ⟨rfl,⟨nd,rfl⟩⟩) | (go_at_call 194;(with_reducible refine (char_may.calls _ false _ HM.out).mono ?_);rintro e w' ⟨rfl,⟨nd2,rfl⟩⟩))
  refine wp_loop_rounds 4 ?_
  rw [rounds_succ]
  go_wp2_with (first | (go_at_call 193;(with_reducible refine (char_lead.calls _ _ _ _ _ HL.out).mono ?_);rintro e w' ⟨rfl,⟨nd,rfl⟩⟩) | (go_at_call 194;(with_reducible refine (char_may.calls _ false _ HM.out).mono ?_);rintro e w' ⟨rfl,⟨nd2,rfl⟩⟩))
  rw [rounds_succ]
  go_wp2_with (first | (go_at_call 193;(with_reducible refine (char_lead.calls _ _ _ _ _ HL.out).mono ?_);rintro e w' ⟨rfl,⟨nd,rfl⟩⟩) | (go_at_call 194;(with_reducible refine (char_may.calls _ false _ HM.out).mono ?_);rintro e w' ⟨rfl,⟨nd2,rfl⟩⟩))
  rw [rounds_succ]
  go_wp2_with (first | (go_at_call 193;(with_reducible refine (char_lead.calls _ _ _ _ _ HL.out).mono ?_);rintro e w' ⟨rfl,⟨nd,rfl⟩⟩) | (go_at_call 194;(with_reducible refine (char_may.calls _ false _ HM.out).mono ?_);rintro e w' ⟨rfl,⟨nd2,rfl⟩⟩))
  rw [rounds_succ]
  go_wp2_with (first | (go_at_call 193;(with_reducible refine (char_lead.calls _ _ _ _ _ HL.out).mono ?_);rintro e w' ⟨rfl,⟨nd,rfl⟩⟩) | (go_at_call 194;(with_reducible refine (char_may.calls _ false _ HM.out).mono ?_);rintro e w' ⟨rfl,⟨nd2,rfl⟩⟩))
  go_ret2
  exact ⟨by first | rfl | (simp;done) | (simp [*];done),by repeat (first | exact Drawn0.refl _ | apply Drawn0.step)⟩
set_option maxHeartbeats 1600000 in
set_option maxRecDepth 100000 in
theorem dec4ok (ad:Addr) (c0 m:Nat) (c a b d:Int) (w:World) (hcap:m + 4 ≤ c0) (x0:w.cell? ad = some (.int .u8 c)) (x1:w.cell? ⟨ad.block,ad.off + 1,none⟩ = some (.int .u8 a)) (x2:w.cell? ⟨ad.block,ad.off + 1 + 1,none⟩ = some (.int .u8 b)) (x3:w.cell? ⟨ad.block,ad.off + 1 + 1 + 1,none⟩ = some (.int .u8 d)) (b1:0 ≤ c) (b2:c < 256) (b3:0 ≤ a) (b4:a < 256) (b5:0 ≤ b) (b6:b < 256) (b7:0 ≤ d) (b8:d < 256) (hn:c / 8 = 30) (g1:(a / 64 != 2) = false) (g2:(b / 64 != 2) = false) (g3:(d / 64 != 2) = false) (hr:¬ ((c % 8 * 64 + a % 64) * 64 + b % 64) * 64 + d % 64 < 65536) (hs:¬ 1114111 < ((c % 8 * 64 + a % 64) * 64 + b % 64) * 64 + d % 64) :
    Calls Tryz.prog 143 #[.slice (some ad) (m + 4) c0] w fun e w'=>e = .returned (.tuple #[.int .i32 (((c % 8 * 64 + a % 64) * 64 + b % 64) * 64 + d % 64),.int .i64 4]) ∧ Drawn0 w w':=by
  have hl:char_lead.f c = some (4,c % 8,65536):=by
   unfold char_lead.f
   rw [if_neg (by omega),if_neg (by omega),if_neg (by omega),if_pos hn,u8_and7 _ b1 b2]
   simp [wrap32];omega
  have HL:=Aside0.mk hl
  clear hl
  have HM:Aside0 (char_may.f (((c % 8 * 64 + a % 64) * 64 + b % 64) * 64 + d % 64) = some true):=⟨by unfold char_may.f;rw [if_pos (by omega),if_pos (by omega),if_neg (by omega)];simp;omega⟩
  clear hn hs
  have h0:((m:Int) + 4 == 0) = false:=by rw [beq_eq_false_iff_ne];omega
  go_enter Tryz.func143,Tryz.ntmps143
  go_wp2_with (first | (go_at_call 193;(with_reducible refine (char_lead.calls _ _ _ _ _ HL.out).mono ?_);rintro e w' ⟨rfl,⟨nd,rfl⟩⟩) | (go_at_call 194;(with_reducible refine (char_may.calls _ true _ HM.out).mono ?_);rintro e w' ⟨rfl,⟨nd2,rfl⟩⟩))
  refine wp_loop_rounds 4 ?_
  rw [rounds_succ]
  go_wp2_with (first | (go_at_call 193;(with_reducible refine (char_lead.calls _ _ _ _ _ HL.out).mono ?_);rintro e w' ⟨rfl,⟨nd,rfl⟩⟩) | (go_at_call 194;(with_reducible refine (char_may.calls _ true _ HM.out).mono ?_);rintro e w' ⟨rfl,⟨nd2,rfl⟩⟩))
  rw [rounds_succ]
  go_wp2_with (first | (go_at_call 193;(with_reducible refine (char_lead.calls _ _ _ _ _ HL.out).mono ?_);rintro e w' ⟨rfl,⟨nd,rfl⟩⟩) | (go_at_call 194;(with_reducible refine (char_may.calls _ true _ HM.out).mono ?_);rintro e w' ⟨rfl,⟨nd2,rfl⟩⟩))
  rw [rounds_succ]
  go_wp2_with (first | (go_at_call 193;(with_reducible refine (char_lead.calls _ _ _ _ _ HL.out).mono ?_);rintro e w' ⟨rfl,⟨nd,rfl⟩⟩) | (go_at_call 194;(with_reducible refine (char_may.calls _ true _ HM.out).mono ?_);rintro e w' ⟨rfl,⟨nd2,rfl⟩⟩))
  rw [rounds_succ]
  go_wp2_with (first | (go_at_call 193;(with_reducible refine (char_lead.calls _ _ _ _ _ HL.out).mono ?_);rintro e w' ⟨rfl,⟨nd,rfl⟩⟩) | (go_at_call 194;(with_reducible refine (char_may.calls _ true _ HM.out).mono ?_);rintro e w' ⟨rfl,⟨nd2,rfl⟩⟩))
  go_ret2
  exact ⟨by first | rfl | (simp;done) | (simp [*];done),by repeat (first | exact Drawn0.refl _ | apply Drawn0.step)⟩
theorem isByte_at {l:List Int} (h:(l.take 4).all isByte = true) (i:Nat) (x:Int) (hi:i < 4) (hx:l[i]? = some x):0 ≤ x ∧ x < 256:=by
 refine isByte_iff (List.all_eq_true.1 h x ?_)
 have h1:(l.take 4)[i]? = some x:=by rw [List.getElem?_take_of_lt hi];exact hx
 exact List.mem_of_getElem? h1
theorem cellD {w:World} {ad:Addr} {n:Nat} {l:List Int} (h:Kd.C (Kd.int .u8) w (some ad) n l) (i:Nat) (x:Int) (hx:l[i]? = some x):w.cell? (ad.add i) = some (.int .u8 x):=by
 have hl:=(List.getElem?_eq_some_iff.1 hx).1
 have hn:n = l.length:=h.1.symm
 obtain ⟨ad',e,hc⟩:=Kd.at_int h (i:Int) (by omega) (by omega)
 cases e
 rw [Int.toNat_natCast] at hc
 rw [hc]
 simp [rd,hx]
theorem cellD1 {w:World} {ad:Addr} {n:Nat} {l:List Int} (h:Kd.C (Kd.int .u8) w (some ad) n l) (i:Nat) (x:Int) (hx:l[i]? = some x) (hi:i ≠ 0):w.cell? ⟨ad.block,ad.off + i,none⟩ = some (.int .u8 x):=by
 rw [← cellD h i x hx]
 unfold Addr.add
 rw [if_neg hi]
theorem ne2_false {x:Int} (h:x / 64 = 2):(x / 64 != 2) = false:=by rw [bne_eq_false_iff_eq];exact h
theorem ne2_true {x:Int} (h:¬ x / 64 = 2):(x / 64 != 2) = true:=by rw [bne_iff_ne];exact h
set_option maxHeartbeats 1600000 in
theorem char_Decode.calls (A0:Option Addr) (c0:Nat) (l0:List Int) (r1:Int) (r2:Int) (w:World) (hr0:Kd.C (Kd.int .u8) w A0 l0.length l0) (hc0:l0.length ≤ c0) (h:char_Decode.f l0 = some (r1,r2)) :
    Calls Tryz.prog 143 #[.slice A0 l0.length c0] w fun e w'=>e = .returned (.tuple #[.int .i32 r1,.int .i64 r2]) ∧ Drawn0 w w':=by
  unfold char_Decode.f at h
  by_cases hb:(l0.take 4).all isByte = true
  rotate_left
  · rw [if_neg hb] at h;exact absurd h (by simp)
  rw [if_pos hb] at h
  have h':=Option.some.inj h
  clear h
  match l0,hr0,hc0,hb,h' with
  | [],hr0,hc0,hb,h'=>
   obtain ⟨rfl,rfl⟩:=Prod.mk.inj h'
   go_enter Tryz.func143,Tryz.ntmps143
   go_wp2
   go_ret2
   exact ⟨by first | rfl | (simp;done) | (simp [*];done),by repeat (first | exact Drawn0.refl _ | apply Drawn0.step)⟩
  | c :: t,hr0,hc0,hb,h'=>
   obtain ⟨ad,rfl,_⟩:=Kd.at_int hr0 0 (by omega) (by simp)
   obtain ⟨bc0,bc1⟩:=isByte_at hb 0 c (by omega) rfl
   have xc:w.cell? ad = some (.int .u8 c):=by have:=cellD hr0 0 c rfl;rwa [Addr.add_zero'] at this
   simp only [decS] at h'
   simp only [List.length_cons] at hc0 ⊢
   by_cases h1:c < 128
   ·rw [if_pos h1] at h'
    obtain ⟨rfl,rfl⟩:=Prod.mk.inj h'
    exact dec1 ad c0 t.length c w hc0 xc bc0 bc1 h1
   rw [if_neg h1] at h'
   by_cases h2:c / 32 = 6
   ·rw [if_pos h2] at h'
    match t,hr0,hc0,hb,h' with
    | [],hr0,hc0,hb,h'=>
     obtain ⟨rfl,rfl⟩:=Prod.mk.inj h'
     exact dec2s1 ad c0 c w hc0 xc bc0 bc1 h2
    | a :: t1,hr0,hc0,hb,h'=>
     obtain ⟨ba0,ba1⟩:=isByte_at hb 1 a (by omega) rfl
     have xa:w.cell? ⟨ad.block,ad.off + 1,none⟩ = some (.int .u8 a):=cellD1 hr0 1 a rfl (by omega)
     simp only [List.length_cons] at hc0 ⊢
     simp only [] at h'
     by_cases g1:a / 64 = 2
     rotate_left
     ·rw [if_neg g1] at h'
      obtain ⟨rfl,rfl⟩:=Prod.mk.inj h'
      exact dec2b1 ad c0 t1.length c a w hc0 xc xa bc0 bc1 ba0 ba1 h2  (ne2_true g1)
     rw [if_pos g1] at h'
     by_cases hr:c % 32 * 64 + a % 64 < 128
     ·rw [if_pos hr] at h'
      obtain ⟨rfl,rfl⟩:=Prod.mk.inj h'
      exact dec2low ad c0 t1.length c a w hc0 xc xa bc0 bc1 ba0 ba1 h2 (ne2_false g1) hr
     rw [if_neg hr] at h'
     obtain ⟨rfl,rfl⟩:=Prod.mk.inj h'
     exact dec2ok ad c0 t1.length c a w hc0 xc xa bc0 bc1 ba0 ba1 h2 (ne2_false g1) hr
   rw [if_neg h2] at h'
   by_cases h3:c / 16 = 14
   ·rw [if_pos h3] at h'
    match t,hr0,hc0,hb,h' with
    | [],hr0,hc0,hb,h'=>
     obtain ⟨rfl,rfl⟩:=Prod.mk.inj h'
     exact dec3s1 ad c0 c w hc0 xc bc0 bc1 h3
    | a :: t1,hr0,hc0,hb,h'=>
     obtain ⟨ba0,ba1⟩:=isByte_at hb 1 a (by omega) rfl
     have xa:w.cell? ⟨ad.block,ad.off + 1,none⟩ = some (.int .u8 a):=cellD1 hr0 1 a rfl (by omega)
     simp only [List.length_cons] at hc0 ⊢
     match t1,hr0,hc0,hb,h' with
     | [],hr0,hc0,hb,h'=>
      obtain ⟨rfl,rfl⟩:=Prod.mk.inj h'
      exact dec3s2 ad c0 c w hc0 xc bc0 bc1 h3
     | b :: t2,hr0,hc0,hb,h'=>
      obtain ⟨bb0,bb1⟩:=isByte_at hb 2 b (by omega) rfl
      have xb:w.cell? ⟨ad.block,ad.off + 1 + 1,none⟩ = some (.int .u8 b):=cellD1 hr0 2 b rfl (by omega)
      simp only [List.length_cons] at hc0 ⊢
      simp only [] at h'
      by_cases g1:a / 64 = 2
      rotate_left
      ·rw [if_neg g1] at h'
       obtain ⟨rfl,rfl⟩:=Prod.mk.inj h'
       exact dec3b1 ad c0 t2.length c a w hc0 xc xa bc0 bc1 ba0 ba1 h3  (ne2_true g1)
      rw [if_pos g1] at h'
      by_cases g2:b / 64 = 2
      rotate_left
      ·rw [if_neg g2] at h'
       obtain ⟨rfl,rfl⟩:=Prod.mk.inj h'
       exact dec3b2 ad c0 t2.length c a b w hc0 xc xa xb bc0 bc1 ba0 ba1 bb0 bb1 h3 (ne2_false g1) (ne2_true g2)
      rw [if_pos g2] at h'
      by_cases hr:(c % 16 * 64 + a % 64) * 64 + b % 64 < 2048
      ·rw [if_pos hr] at h'
       obtain ⟨rfl,rfl⟩:=Prod.mk.inj h'
       exact dec3low ad c0 t2.length c a b w hc0 xc xa xb bc0 bc1 ba0 ba1 bb0 bb1 h3 (ne2_false g1) (ne2_false g2) hr
      rw [if_neg hr] at h'
      by_cases hs:55296 ≤ (c % 16 * 64 + a % 64) * 64 + b % 64 ∧ (c % 16 * 64 + a % 64) * 64 + b % 64 ≤ 57343
      ·rw [if_pos hs] at h'
       obtain ⟨rfl,rfl⟩:=Prod.mk.inj h'
       exact dec3no ad c0 t2.length c a b w hc0 xc xa xb bc0 bc1 ba0 ba1 bb0 bb1 h3 (ne2_false g1) (ne2_false g2) hr hs
      rw [if_neg hs] at h'
      obtain ⟨rfl,rfl⟩:=Prod.mk.inj h'
      exact dec3ok ad c0 t2.length c a b w hc0 xc xa xb bc0 bc1 ba0 ba1 bb0 bb1 h3 (ne2_false g1) (ne2_false g2) hr hs
   rw [if_neg h3] at h'
   by_cases h4:c / 8 = 30
   ·rw [if_pos h4] at h'
    match t,hr0,hc0,hb,h' with
    | [],hr0,hc0,hb,h'=>
     obtain ⟨rfl,rfl⟩:=Prod.mk.inj h'
     exact dec4s1 ad c0 c w hc0 xc bc0 bc1 h4
    | a :: t1,hr0,hc0,hb,h'=>
     obtain ⟨ba0,ba1⟩:=isByte_at hb 1 a (by omega) rfl
     have xa:w.cell? ⟨ad.block,ad.off + 1,none⟩ = some (.int .u8 a):=cellD1 hr0 1 a rfl (by omega)
     simp only [List.length_cons] at hc0 ⊢
     match t1,hr0,hc0,hb,h' with
     | [],hr0,hc0,hb,h'=>
      obtain ⟨rfl,rfl⟩:=Prod.mk.inj h'
      exact dec4s2 ad c0 c w hc0 xc bc0 bc1 h4
     | b :: t2,hr0,hc0,hb,h'=>
      obtain ⟨bb0,bb1⟩:=isByte_at hb 2 b (by omega) rfl
      have xb:w.cell? ⟨ad.block,ad.off + 1 + 1,none⟩ = some (.int .u8 b):=cellD1 hr0 2 b rfl (by omega)
      simp only [List.length_cons] at hc0 ⊢
      match t2,hr0,hc0,hb,h' with
      | [],hr0,hc0,hb,h'=>
       obtain ⟨rfl,rfl⟩:=Prod.mk.inj h'
       exact dec4s3 ad c0 c w hc0 xc bc0 bc1 h4
      | d :: t3,hr0,hc0,hb,h'=>
       obtain ⟨bd0,bd1⟩:=isByte_at hb 3 d (by omega) rfl
       have xd:w.cell? ⟨ad.block,ad.off + 1 + 1 + 1,none⟩ = some (.int .u8 d):=cellD1 hr0 3 d rfl (by omega)
       simp only [List.length_cons] at hc0 ⊢
       simp only [] at h'
       by_cases g1:a / 64 = 2
       rotate_left
       ·rw [if_neg g1] at h'
        obtain ⟨rfl,rfl⟩:=Prod.mk.inj h'
        exact dec4b1 ad c0 t3.length c a w hc0 xc xa bc0 bc1 ba0 ba1 h4  (ne2_true g1)
       rw [if_pos g1] at h'
       by_cases g2:b / 64 = 2
       rotate_left
       ·rw [if_neg g2] at h'
        obtain ⟨rfl,rfl⟩:=Prod.mk.inj h'
        exact dec4b2 ad c0 t3.length c a b w hc0 xc xa xb bc0 bc1 ba0 ba1 bb0 bb1 h4 (ne2_false g1) (ne2_true g2)
       rw [if_pos g2] at h'
       by_cases g3:d / 64 = 2
       rotate_left
       ·rw [if_neg g3] at h'
        obtain ⟨rfl,rfl⟩:=Prod.mk.inj h'
        exact dec4b3 ad c0 t3.length c a b d w hc0 xc xa xb xd bc0 bc1 ba0 ba1 bb0 bb1 bd0 bd1 h4 (ne2_false g1) (ne2_false g2) (ne2_true g3)
       rw [if_pos g3] at h'
       by_cases hr:((c % 8 * 64 + a % 64) * 64 + b % 64) * 64 + d % 64 < 65536
       ·rw [if_pos hr] at h'
        obtain ⟨rfl,rfl⟩:=Prod.mk.inj h'
        exact dec4low ad c0 t3.length c a b d w hc0 xc xa xb xd bc0 bc1 ba0 ba1 bb0 bb1 bd0 bd1 h4 (ne2_false g1) (ne2_false g2) (ne2_false g3) hr
       rw [if_neg hr] at h'
       by_cases hs:1114111 < ((c % 8 * 64 + a % 64) * 64 + b % 64) * 64 + d % 64
       ·rw [if_pos hs] at h'
        obtain ⟨rfl,rfl⟩:=Prod.mk.inj h'
        exact dec4no ad c0 t3.length c a b d w hc0 xc xa xb xd bc0 bc1 ba0 ba1 bb0 bb1 bd0 bd1 h4 (ne2_false g1) (ne2_false g2) (ne2_false g3) hr hs
       rw [if_neg hs] at h'
       obtain ⟨rfl,rfl⟩:=Prod.mk.inj h'
       exact dec4ok ad c0 t3.length c a b d w hc0 xc xa xb xd bc0 bc1 ba0 ba1 bb0 bb1 bd0 bd1 h4 (ne2_false g1) (ne2_false g2) (ne2_false g3) hr hs
   rw [if_neg h4] at h'
   obtain ⟨rfl,rfl⟩:=Prod.mk.inj h'
   exact dec0 ad c0 t.length c w hc0 xc bc0 bc1 h1 h2 h3 h4
def encC (r:Int):List Int :=
  if r < 0 ∨ 1114111 < r ∨ (55296 ≤ r ∧ r ≤ 57343) then []
  else if r < 128 then [r]
  else if r < 2048 then [192 + r / 64,128 + r % 64]
  else if r < 65536 then [224 + r / 4096,128 + r / 64 % 64,128 + r % 64]
  else [240 + r / 262144,128 + r / 4096 % 64,128 + r / 64 % 64,128 + r % 64]
def char_Encode.f (r:Int):Option (List Int):=some (encC r)
theorem enc_cell (w:World) (r:Int) (n:Nat):(((w.alloc (.cells #[.int .i32 r] 21)).drewN n).drew).cell? ⟨w.heap.size,0,none⟩ = some (.int .i32 r):=by
 have h:=heap_alloc_new w (.cells #[.int .i32 r] 21)
 show World.cell? (w.alloc (.cells #[.int .i32 r] 21)) _ = _
 unfold World.cell?
 rw [h]
 rfl
theorem lit_R {w W:World} (xs:List Int) (hB:Below w.heap.size w W) (hm:xs.length ≤ 9223372036854775807) (g:Nat) (hg:g = W.heap.size) :
    Kd.R (Kd.int .u8) 5 (W.alloc (.cells (nums .u8 xs).toArray 5)) w.heap.size (fun _=>True) (.slice (some ⟨g,0,none⟩) xs.length xs.length) xs:=by
  subst hg
  exact Kd.R_of_own (h1:=fun _=>rfl) (ok:=fun _=>True) (own_lit W w.heap.size 5 .u8 xs hB.size hm) (fun _ _=>trivial)
set_option maxHeartbeats 1600000 in
set_option maxRecDepth 100000 in
theorem enc_on0 (g:Nat) (r:Int) (w:World) (hc:w.cell? ⟨g,0,none⟩ = some (.int .i32 r)) (h0:0 ≤ r) (h1:r < 1114112) :
    Calls Tryz.prog 197 #[.int .i64 0,.pointer (some ⟨g,0,none⟩)] w fun e w'=>e = .returned (.int .u8 (128 + r % 64)) ∧ w' = w:=by
  go_enter Tryz.func197,Tryz.ntmps197
  go_wp2
  go_ret
  exact ⟨by first | rfl | (simp;done) | (simp;omega),rfl⟩
set_option maxHeartbeats 1600000 in
set_option maxRecDepth 100000 in
theorem enc_on1 (g:Nat) (r:Int) (w:World) (hc:w.cell? ⟨g,0,none⟩ = some (.int .i32 r)) (h0:0 ≤ r) (h1:r < 1114112) :
    Calls Tryz.prog 197 #[.int .i64 1,.pointer (some ⟨g,0,none⟩)] w fun e w'=>e = .returned (.int .u8 (128 + r / 64 % 64)) ∧ w' = w:=by
  go_enter Tryz.func197,Tryz.ntmps197
  go_wp2
  go_ret
  exact ⟨by first | rfl | (simp;done) | (simp;omega),rfl⟩
set_option maxHeartbeats 1600000 in
set_option maxRecDepth 100000 in
theorem enc_on2 (g:Nat) (r:Int) (w:World) (hc:w.cell? ⟨g,0,none⟩ = some (.int .i32 r)) (h0:0 ≤ r) (h1:r < 1114112) :
    Calls Tryz.prog 197 #[.int .i64 2,.pointer (some ⟨g,0,none⟩)] w fun e w'=>e = .returned (.int .u8 (128 + r / 4096 % 64)) ∧ w' = w:=by
  go_enter Tryz.func197,Tryz.ntmps197
  go_wp2
  go_ret
  exact ⟨by first | rfl | (simp;done) | (simp;omega),rfl⟩
set_option maxHeartbeats 1600000 in
set_option maxRecDepth 100000 in
theorem enc_none (r:Int) (w:World) (hr:r < 0 ∨ 1114111 < r ∨ (55296 ≤ r ∧ r ≤ 57343)) :
    Calls Tryz.prog 151 #[.int .i32 r] w fun e w'=>∃ v0_:Value,e = .returned v0_ ∧ Kd.R (Kd.int .u8) 5 w' w.heap.size (fun _=>True) v0_ [] ∧ Below w.heap.size w w':=by
  have hm:char_may.f r = some false:=by
   unfold char_may.f
   by_cases h1:r ≥ 0
   ·rw [if_pos h1]
    by_cases h2:r ≤ 1114111
    ·rw [if_pos h2,if_neg (by omega)]
     simp;omega
    · rw [if_neg h2]
   · rw [if_neg h1]
  have HM:=Aside0.mk hm
  clear hm hr
  have hmf:∀ (fn:Fn) (first cap:Array Value) (w:World),(Instr.makeFunc fn first cap).run Tryz.prog w = .ok (.func fn first cap) w:=fun _ _ _ _=>rfl
  go_enter Tryz.func151,Tryz.ntmps151
  go_wp2_with (go_at_call 194;(with_reducible refine (char_may.calls _ false _ HM.out).mono ?_);rintro e w' ⟨rfl,⟨nd,rfl⟩⟩)
  go_ret
  exact ⟨_,rfl,Kd.R_nil _ _ _ _ _,by repeat (first | (with_reducible first | apply below_alloc | apply pw_below_drewN | apply below_drew1) | exact Below.refl _ _)⟩
set_option maxHeartbeats 1600000 in
set_option maxRecDepth 100000 in
theorem enc_one (r:Int) (w:World) (h0:0 ≤ r) (h1:r < 128) :
    Calls Tryz.prog 151 #[.int .i32 r] w fun e w'=>∃ v0_:Value,e = .returned v0_ ∧ Kd.R (Kd.int .u8) 5 w' w.heap.size (fun _=>True) v0_ [r] ∧ Below w.heap.size w w':=by
  have HM:Aside0 (char_may.f r = some true):=⟨by unfold char_may.f;rw [if_pos (by omega),if_pos (by omega),if_pos (by omega)]⟩
  have hmf:∀ (fn:Fn) (first cap:Array Value) (w:World),(Instr.makeFunc fn first cap).run Tryz.prog w = .ok (.func fn first cap) w:=fun _ _ _ _=>rfl
  go_enter Tryz.func151,Tryz.ntmps151
  go_wp2_with (go_at_call 194;(with_reducible refine (char_may.calls _ true _ HM.out).mono ?_);rintro e w' ⟨rfl,⟨nd,rfl⟩⟩)
  go_ret
  refine ⟨_,rfl,?_,by repeat (first | (with_reducible first | apply below_alloc | apply pw_below_drewN | apply below_drew1) | exact Below.refl _ _)⟩
  first
   | exact lit_R [r] (below_alloc (Below.refl _ _) _) (by simp) _ (by simp)
   | exact Kd.R_drewN (lit_R [r] (below_alloc (Below.refl _ _) _) (by simp) _ (by simp)) _
set_option maxHeartbeats 3200000 in
set_option maxRecDepth 100000 in
theorem enc_2 (r:Int) (w:World) (h0:128 ≤ r) (h1:r < 2048) :
    Calls Tryz.prog 151 #[.int .i32 r] w fun e w'=>∃ v0_:Value,e = .returned v0_ ∧ Kd.R (Kd.int .u8) 5 w' w.heap.size (fun _=>True) v0_ [192 + r / 64,128 + r % 64] ∧ Below w.heap.size w w':=by
  have HM:Aside0 (char_may.f r = some true):=⟨by
   unfold char_may.f
   rw [if_pos (by omega),if_pos (by omega)]
   split
   · rfl
   · simp;omega⟩
  have hmf:∀ (fn:Fn) (first cap:Array Value) (w:World),(Instr.makeFunc fn first cap).run Tryz.prog w = .ok (.func fn first cap) w:=fun _ _ _ _=>rfl
  go_enter Tryz.func151,Tryz.ntmps151
  go_wp2_with (go_at_call 194;(with_reducible refine (char_may.calls _ true _ HM.out).mono ?_);rintro e w' ⟨rfl,⟨nd,rfl⟩⟩)
  have hc:=enc_cell w r nd
  have hb:Below w.heap.size w (((w.alloc (.cells #[.int .i32 r] 21)).drewN nd).drew):=by repeat (first | (with_reducible first | apply below_alloc | apply pw_below_drewN | apply below_drew1) | exact Below.refl _ _)
  refine wp_region_still_tail 6 (by kernel_rfl) (by kernel_rfl) ?_
  simp only [List.take_succ_cons,List.take_zero,List.drop_succ_cons,List.drop_zero]
  change wpStill _ _ (((w.alloc (.cells #[.int .i32 r] 21)).drewN nd).drew) _ _ _
  iterate 5 still_step
  still_call (enc_on0 w.heap.size r _ hc (by omega) (by omega))
  refine wpStill_nil ?_
  go_wp2
  go_ret
  exact ⟨_,rfl,lit_R [192 + r / 64,128 + r % 64] hb (by simp) _ (by simp),below_alloc hb _⟩
set_option maxHeartbeats 3200000 in
set_option maxRecDepth 100000 in
theorem enc_3 (r:Int) (w:World) (h0:2048 ≤ r) (h1:r < 65536) (h2:¬ (55296 ≤ r ∧ r ≤ 57343)) :
    Calls Tryz.prog 151 #[.int .i32 r] w fun e w'=>∃ v0_:Value,e = .returned v0_ ∧ Kd.R (Kd.int .u8) 5 w' w.heap.size (fun _=>True) v0_ [224 + r / 4096,128 + r / 64 % 64,128 + r % 64] ∧ Below w.heap.size w w':=by
  have HM:Aside0 (char_may.f r = some true):=⟨by
   unfold char_may.f
   rw [if_pos (by omega),if_pos (by omega)]
   split
   · rfl
   · simp;omega⟩
  clear h2
  have hmf:∀ (fn:Fn) (first cap:Array Value) (w:World),(Instr.makeFunc fn first cap).run Tryz.prog w = .ok (.func fn first cap) w:=fun _ _ _ _=>rfl
  go_enter Tryz.func151,Tryz.ntmps151
  go_wp2_with (go_at_call 194;(with_reducible refine (char_may.calls _ true _ HM.out).mono ?_);rintro e w' ⟨rfl,⟨nd,rfl⟩⟩)
  have hc:=enc_cell w r nd
  have hb:Below w.heap.size w (((w.alloc (.cells #[.int .i32 r] 21)).drewN nd).drew):=by repeat (first | (with_reducible first | apply below_alloc | apply pw_below_drewN | apply below_drew1) | exact Below.refl _ _)
  refine wp_region_still_tail 8 (by kernel_rfl) (by kernel_rfl) ?_
  simp only [List.take_succ_cons,List.take_zero,List.drop_succ_cons,List.drop_zero]
  change wpStill _ _ (((w.alloc (.cells #[.int .i32 r] 21)).drewN nd).drew) _ _ _
  iterate 5 still_step
  still_call (enc_on1 w.heap.size r _ hc (by omega) (by omega))
  iterate 1 still_step
  still_call (enc_on0 w.heap.size r _ hc (by omega) (by omega))
  refine wpStill_nil ?_
  go_wp2
  go_ret
  exact ⟨_,rfl,lit_R [224 + r / 4096,128 + r / 64 % 64,128 + r % 64] hb (by simp) _ (by simp),below_alloc hb _⟩
set_option maxHeartbeats 3200000 in
set_option maxRecDepth 100000 in
theorem enc_4 (r:Int) (w:World) (h0:65536 ≤ r) (h1:r < 1114112) :
    Calls Tryz.prog 151 #[.int .i32 r] w fun e w'=>∃ v0_:Value,e = .returned v0_ ∧ Kd.R (Kd.int .u8) 5 w' w.heap.size (fun _=>True) v0_ [240 + r / 262144,128 + r / 4096 % 64,128 + r / 64 % 64,128 + r % 64] ∧ Below w.heap.size w w':=by
  have HM:Aside0 (char_may.f r = some true):=⟨by
   unfold char_may.f
   rw [if_pos (by omega),if_pos (by omega)]
   split
   · rfl
   · simp;omega⟩
  have hmf:∀ (fn:Fn) (first cap:Array Value) (w:World),(Instr.makeFunc fn first cap).run Tryz.prog w = .ok (.func fn first cap) w:=fun _ _ _ _=>rfl
  go_enter Tryz.func151,Tryz.ntmps151
  go_wp2_with (go_at_call 194;(with_reducible refine (char_may.calls _ true _ HM.out).mono ?_);rintro e w' ⟨rfl,⟨nd,rfl⟩⟩)
  have hc:=enc_cell w r nd
  have hb:Below w.heap.size w (((w.alloc (.cells #[.int .i32 r] 21)).drewN nd).drew):=by repeat (first | (with_reducible first | apply below_alloc | apply pw_below_drewN | apply below_drew1) | exact Below.refl _ _)
  refine wp_region_still_tail 10 (by kernel_rfl) (by kernel_rfl) ?_
  simp only [List.take_succ_cons,List.take_zero,List.drop_succ_cons,List.drop_zero]
  change wpStill _ _ (((w.alloc (.cells #[.int .i32 r] 21)).drewN nd).drew) _ _ _
  iterate 5 still_step
  still_call (enc_on2 w.heap.size r _ hc (by omega) (by omega))
  iterate 1 still_step
  still_call (enc_on1 w.heap.size r _ hc (by omega) (by omega))
  iterate 1 still_step
  still_call (enc_on0 w.heap.size r _ hc (by omega) (by omega))
  refine wpStill_nil ?_
  go_wp2
  go_ret
  exact ⟨_,rfl,lit_R [240 + r / 262144,128 + r / 4096 % 64,128 + r / 64 % 64,128 + r % 64] hb (by simp) _ (by simp),below_alloc hb _⟩
theorem char_Encode.calls (a0:Int) (r:List Int) (w:World) (h:char_Encode.f a0 = some r) :
    Calls Tryz.prog 151 #[.int .i32 a0] w fun e w'=>∃ v0_:Value,e = .returned (v0_) ∧ Kd.R (Kd.int .u8) 5 w' w.heap.size (fun _=>True) v0_ r ∧ Below w.heap.size w w':=by
  obtain rfl:=Option.some.inj h
  unfold encC
  by_cases h1:a0 < 0 ∨ 1114111 < a0 ∨ (55296 ≤ a0 ∧ a0 ≤ 57343)
  · rw [if_pos h1];exact enc_none a0 w h1
  rw [if_neg h1]
  by_cases h2:a0 < 128
  · rw [if_pos h2];exact enc_one a0 w (by omega) h2
  rw [if_neg h2]
  by_cases h3:a0 < 2048
  · rw [if_pos h3];exact enc_2 a0 w (by omega) h3
  rw [if_neg h3]
  by_cases h4:a0 < 65536
  · rw [if_pos h4];exact enc_3 a0 w (by omega) h4 (by omega)
  rw [if_neg h4]
  exact enc_4 a0 w (by omega) (by omega)
end Go.Proofs.YtbaokjfhigjpdaaGreatDoor.PXmlBase
end
section
namespace Go.Proofs.YtbaokjfhigjpdaaGreatDoor.PNsBase
open Go.RowKit Go.Proofs.YtbaokjfhigjpdaaGreatDoorW.PrintWords Go.Proofs.YtbaokjfhigjpdaaGreatDoorW.PrintLast Go.Proofs.YtbaokjfhigjpdaaGreatDoorW.PrintMore
attribute [local go_sem] max2_int min2_int max_two min_two max_three min_three max_four min_four   -- for this text's walks alone
set_option linter.unusedVariables false
set_option linter.unusedSimpArgs false
def errW:Option Int → Value
  | none=>.nilIface
  | some c=>.iface 0 (.int .i64 c)
theorem errW_none:errW none = .nilIface:=rfl
theorem errW_some (c:Int):errW (some c) = .iface 0 (.int .i64 c):=rfl
def conv_lit.f (xs:List Int):Option (List Int):=if xs.length ≤ 9223372036854775807 then some xs else none
theorem conv_lit.gate {P:Program} {ops:Array Oper} {rest:List Oper} {o:Oper} {a:Act} {Q:Exit → Act → World → Prop} {W:World} {N:Tmp} (_ho:o.dst = some N) (h:wpList P ops Q (o :: rest) a W):wpList P ops Q (o :: rest) a W:=h
theorem conv_lit.step {P:Program} {ops:Array Oper} {rest:List Oper} {o1 o2:Oper} {a:Act} {Q:Exit → Act → World → Prop} {W:World} (t e:TypeId) (ht:P.underlying t = some (.slice e)) (he:P.underlying e = some (.int .u8)) (d1:Tmp) (N:Option Tmp) (hd1:o1.dst = some d1) (hg1:o1.guard = none) (hN:o2.dst = N) (hg2:o2.guard = none)
    (ho2:o2.op = .convert t t (.tmp d1)) (xs r:List Int) (hr:conv_lit.f xs = some r) (heval:∀ v,(a.put (some d1) v).eval (.tmp d1) = v)
    (hrun:(execOp a.eval o1).run P W = .ok (.value (.slice (some ⟨W.heap.size,0,none⟩) xs.length xs.length)) (W.alloc (.cells (nums .u8 xs).toArray e)))
    (h:∀ (en:Ending) (w':World),(∃ v0_:Value,en = .returned v0_ ∧ Kd.V (Kd.int .u8) e w' W.heap.size (fun k_=>W.heap.size ≤ k_) v0_ r ∧ Below W.heap.size W w') → ∃ v,en = .returned v ∧ wpList P ops Q rest ((a.put (some d1) v).put N v) w') :
    wpList P ops Q (o1 :: o2 :: rest) a W:=by
  unfold conv_lit.f at hr
  split at hr
  ·rename_i hsz
   obtain rfl:=Option.some.inj hr
   refine wpList_plain hg1 fun K hK=>?_
   unfold Oper.wp
   rw [hrun]
   refine hK _ _ ?_
   rw [hd1]
   refine wpList_plain hg2 fun K hK=>?_
   have hc:=Lib.run_convert_bytes_const (P:=P) W t e (nums .u8 xs).toArray xs.length xs.length ht he
   have hrun2:(execOp (a.put (some d1) (.slice (some ⟨W.heap.size,0,none⟩) xs.length xs.length)).eval o2).run P (W.alloc (.cells (nums .u8 xs).toArray e)) = .ok (.value (.slice (some ⟨W.heap.size,0,none⟩) xs.length xs.length)) (W.alloc (.cells (nums .u8 xs).toArray e ((nums .u8 xs).toArray.size,(nums .u8 xs).toArray.size + 1))):=by
    unfold execOp
    simp [ho2,heval,hc]
   unfold Oper.wp
   rw [hrun2]
   subst hN
   obtain ⟨v,hv,hk⟩:=h (.returned (.slice (some ⟨W.heap.size,0,none⟩) xs.length xs.length)) (W.alloc (.cells (nums .u8 xs).toArray e ((nums .u8 xs).toArray.size,(nums .u8 xs).toArray.size + 1)))
     ⟨_,rfl,by
      refine ⟨_,_,rfl,Nat.le_refl _,?_⟩
      intro W' hW
      refine ⟨rfl,hsz,fun hn=>⟨_,rfl,fun j p hj=>⟨[.int .u8 p],rfl,rfl,fun i u hu=>?_⟩⟩⟩
      have hi:i = 0:=by
       have:=(List.getElem?_eq_some_iff.1 hu).1
       simp at this
       omega
      subst hi
      have hu':Value.int .u8 p = u:=by simpa using hu
      subst hu'
      rw [show j * (Kd.int IntKind.u8).sz + 0 = j from Nat.mul_one j,add_plain]
      have hW2:=hW W.heap.size (Nat.le_refl _) (by simp)
      rw [heap_alloc_new] at hW2
      unfold World.cell?
      simp only [hW2]
      simp [nums,hj],below_alloc (Below.refl _ _) _⟩
   obtain rfl:=Ending.returned.inj hv
   exact hK _ _ hk
  · exact absurd hr (by simp)
def conv_bytes.f (s:ByteArray):Option (List Int):=if s.size < 140737488355328 then some (bytesOf s) else none
theorem conv_bytes.gate {P:Program} {ops:Array Oper} {rest:List Oper} {o:Oper} {a:Act} {Q:Exit → Act → World → Prop} {W:World} {src dst:TypeId} {x:Operand} (_ho:o.op = .convert src dst x) (h:wpList P ops Q (o :: rest) a W):wpList P ops Q (o :: rest) a W:=h
theorem conv_bytes.step {P:Program} {ops:Array Oper} {rest:List Oper} {o:Oper} {a:Act} {Q:Exit → Act → World → Prop} {W:World} (src dst e:TypeId) {u:TypeDesc}
    (hs:P.underlying src = some u) (hd:P.underlying dst = some (.slice e)) (he:P.underlying e = some (.int .u8)) (N:Option Tmp) (hN:o.dst = N) (hg:o.guard = none) {x:Operand} (ho:o.op = .convert src dst x) (s:ByteArray) (r:List Int) (hx:a.eval x = .string s) (hr:conv_bytes.f s = some r)
    (h:∀ (en:Ending) (w':World),(∃ v0_:Value,en = .returned v0_ ∧ Kd.V (Kd.int .u8) e w' W.heap.size (fun k_=>W.heap.size ≤ k_) v0_ r ∧ Below W.heap.size W w') → ∃ v,en = .returned v ∧ wpList P ops Q rest (a.put N v) w') :
    wpList P ops Q (o :: rest) a W:=by
  unfold conv_bytes.f at hr
  split at hr
  ·rename_i hsz
   obtain rfl:=Option.some.inj hr
   refine wpList_plain hg fun K hK=>?_
   have hrun:(execOp a.eval o).run P W = .ok (.value (.slice (some ⟨W.heap.size,0,none⟩) s.size (grownCap W s.size 0 e))) (Lib.bytesWorld W e s):=by
    unfold execOp
    simp [ho,hx,print_bytes src dst e hs hd he s W]
   unfold Oper.wp
   rw [hrun]
   subst hN
   have hcap:s.size ≤ grownCap W s.size 0 e:=grownCap_ge W s.size 0 e
   obtain ⟨v,hv,hk⟩:=h (.returned (.slice (some ⟨W.heap.size,0,none⟩) s.size (grownCap W s.size 0 e))) (Lib.bytesWorld W e s)
     ⟨_,rfl,by
      have hl:=bytesOf_length s
      have hr1:=bytes_reads W e s (by omega)
      refine ⟨_,_,by rw [hl],by rw [hl];exact hcap,?_⟩
      intro W' hW
      rw [hl]
      have hc1:Kd.C (Kd.int .u8) (Lib.bytesWorld W e s) (some ⟨W.heap.size,0,none⟩) s.size (bytesOf s):=Kd.C_of_reads (d:=(0:Int)) (h1:=fun _=>rfl) hr1
      refine ⟨hc1.1,hc1.2.1,fun hn=>?_⟩
      obtain ⟨ad,ead,hcell⟩:=hc1.2.2 hn
      obtain rfl:=Option.some.inj ead
      refine ⟨_,rfl,fun j p hj=>?_⟩
      obtain ⟨c,h1,h2,h3⟩:=hcell j p hj
      refine ⟨c,h1,h2,fun i u hu=>?_⟩
      have h4:=h3 i u hu
      rw [add_plain] at h4 ⊢
      unfold World.cell? at h4 ⊢
      rw [hW W.heap.size (Nat.le_refl _) (by rw [Lib.bytesWorld_size];omega)]
      exact h4,bytes_below (Below.refl _ W) (Nat.le_refl _) e s⟩
   obtain rfl:=Ending.returned.inj hv
   exact hK _ _ hk
  · exact absurd hr (by simp)
theorem info5:(Tryz.prog.info? 5).map (fun i=>(i.zero,i.size,i.bytes)) = some (some (.int .u8 0),1,1):=by kernel_rfl
end Go.Proofs.YtbaokjfhigjpdaaGreatDoor.PNsBase
end
section
namespace Go.Proofs.YtbaokjfhigjpdaaGreatDoor.PNsBase
open Go.RowKit Go.Proofs.YtbaokjfhigjpdaaGreatDoorW.PrintWords Go.Proofs.YtbaokjfhigjpdaaGreatDoorW.PrintLast Go.Proofs.YtbaokjfhigjpdaaGreatDoorW.PrintMore
attribute [local go_sem] max2_int min2_int max_two min_two max_three min_three max_four min_four   -- for this text's walks alone
set_option linter.unusedVariables false
set_option linter.unusedSimpArgs false
def char_Char.f (a0:Int):Option (Bool):=if a0 < 32 then (if a0 = 9 then (some true) else (if a0 = 10 then (some true) else (some (a0 == 13)))) else (if a0 ≥ 55296 then (if a0 ≤ 57343 then (some false) else (if a0 ≤ 65533 then (some true) else (if a0 ≥ 65536 then (some (decide (a0 ≤ 1114111))) else (some false)))) else (if a0 ≤ 65533 then (some true) else (if a0 ≥ 65536 then (some (decide (a0 ≤ 1114111))) else (some false))))
set_option maxHeartbeats 8000000 in
set_option maxRecDepth 100000 in
theorem char_Char.calls (a0:Int) (r:Bool) (w:World) (h:char_Char.f a0 = some r) :
    Calls Tryz.prog 152 #[.int .i32 a0] w fun e w'=>e = .returned (.bool r) ∧ Drawn0 w w':=by
  have H:(if a0 < 32 then (if a0 = 9 then (some true) else (if a0 = 10 then (some true) else (some (a0 == 13)))) else (if a0 ≥ 55296 then (if a0 ≤ 57343 then (some false) else (if a0 ≤ 65533 then (some true) else (if a0 ≥ 65536 then (some (decide (a0 ≤ 1114111))) else (some false)))) else (if a0 ≤ 65533 then (some true) else (if a0 ≥ 65536 then (some (decide (a0 ≤ 1114111))) else (some false))))) = some r:=h
  clear h
  by_cases c2:a0 < 32
  ·rw [if_pos c2] at H
   have c2b0:decide (a0 < 32) = true:=decide_eq_true c2
   clear c2
   by_cases c3:a0 = 9
   ·rw [if_pos c3] at H
    have c3b0:(a0 == 9) = true:=beq_iff_eq.mpr c3
    have c3b1:(a0 != 9) = false:=bne_eq_false_iff_eq.mpr c3
    clear c3
    obtain rfl:=Option.some.inj H
    go_enter Tryz.func152,Tryz.ntmps152
    go_wp2
    go_ret
    exact ⟨by first | rfl | (simp;done) | (simp [*];done),by repeat (first | exact Drawn0.refl _ | apply Drawn0.step)⟩
   ·rw [if_neg c3] at H
    have c3b0:(a0 == 9) = false:=beq_eq_false_iff_ne.mpr c3
    have c3b1:(a0 != 9) = true:=bne_iff_ne.mpr c3
    by_cases c4:a0 = 10
    ·rw [if_pos c4] at H
     have c4b0:(a0 == 10) = true:=beq_iff_eq.mpr c4
     have c4b1:(a0 != 10) = false:=bne_eq_false_iff_eq.mpr c4
     clear c4
     obtain rfl:=Option.some.inj H
     go_enter Tryz.func152,Tryz.ntmps152
     go_wp2
     go_ret
     exact ⟨by first | rfl | (simp;done) | (simp [*];done),by repeat (first | exact Drawn0.refl _ | apply Drawn0.step)⟩
    ·rw [if_neg c4] at H
     have c4b0:(a0 == 10) = false:=beq_eq_false_iff_ne.mpr c4
     have c4b1:(a0 != 10) = true:=bne_iff_ne.mpr c4
     obtain rfl:=Option.some.inj H
     go_enter Tryz.func152,Tryz.ntmps152
     go_wp2
     go_ret
     exact ⟨by first | rfl | (simp;done) | (simp [*];done),by repeat (first | exact Drawn0.refl _ | apply Drawn0.step)⟩
  ·rw [if_neg c2] at H
   have c2b0:decide (a0 < 32) = false:=decide_eq_false c2
   clear c2
   by_cases c5:a0 ≥ 55296
   ·rw [if_pos c5] at H
    have c5b0:decide (55296 ≤ a0) = true:=decide_eq_true c5
    clear c5
    by_cases c6:a0 ≤ 57343
    ·rw [if_pos c6] at H
     have c6b0:decide (a0 ≤ 57343) = true:=decide_eq_true c6
     clear c6
     obtain rfl:=Option.some.inj H
     go_enter Tryz.func152,Tryz.ntmps152
     go_wp2
     go_ret
     exact ⟨by first | rfl | (simp;done) | (simp [*];done),by repeat (first | exact Drawn0.refl _ | apply Drawn0.step)⟩
    ·rw [if_neg c6] at H
     have c6b0:decide (a0 ≤ 57343) = false:=decide_eq_false c6
     clear c6
     by_cases c7:a0 ≤ 65533
     ·rw [if_pos c7] at H
      have c7b0:decide (a0 ≤ 65533) = true:=decide_eq_true c7
      clear c7
      obtain rfl:=Option.some.inj H
      go_enter Tryz.func152,Tryz.ntmps152
      go_wp2
      go_ret
      exact ⟨by first | rfl | (simp;done) | (simp [*];done),by repeat (first | exact Drawn0.refl _ | apply Drawn0.step)⟩
     ·rw [if_neg c7] at H
      have c7b0:decide (a0 ≤ 65533) = false:=decide_eq_false c7
      clear c7
      by_cases c8:a0 ≥ 65536
      ·rw [if_pos c8] at H
       have c8b0:decide (65536 ≤ a0) = true:=decide_eq_true c8
       clear c8
       obtain rfl:=Option.some.inj H
       go_enter Tryz.func152,Tryz.ntmps152
       go_wp2
       go_ret
       exact ⟨by first | rfl | (simp;done) | (simp [*];done),by repeat (first | exact Drawn0.refl _ | apply Drawn0.step)⟩
      ·rw [if_neg c8] at H
       have c8b0:decide (65536 ≤ a0) = false:=decide_eq_false c8
       clear c8
       obtain rfl:=Option.some.inj H
       go_enter Tryz.func152,Tryz.ntmps152
       go_wp2
       go_ret
       exact ⟨by first | rfl | (simp;done) | (simp [*];done),by repeat (first | exact Drawn0.refl _ | apply Drawn0.step)⟩
   ·rw [if_neg c5] at H
    have c5b0:decide (55296 ≤ a0) = false:=decide_eq_false c5
    clear c5
    by_cases c9:a0 ≤ 65533
    ·rw [if_pos c9] at H
     have c9b0:decide (a0 ≤ 65533) = true:=decide_eq_true c9
     clear c9
     obtain rfl:=Option.some.inj H
     go_enter Tryz.func152,Tryz.ntmps152
     go_wp2
     go_ret
     exact ⟨by first | rfl | (simp;done) | (simp [*];done),by repeat (first | exact Drawn0.refl _ | apply Drawn0.step)⟩
    ·rw [if_neg c9] at H
     have c9b0:decide (a0 ≤ 65533) = false:=decide_eq_false c9
     clear c9
     by_cases c10:a0 ≥ 65536
     ·rw [if_pos c10] at H
      have c10b0:decide (65536 ≤ a0) = true:=decide_eq_true c10
      clear c10
      obtain rfl:=Option.some.inj H
      go_enter Tryz.func152,Tryz.ntmps152
      go_wp2
      go_ret
      exact ⟨by first | rfl | (simp;done) | (simp [*];done),by repeat (first | exact Drawn0.refl _ | apply Drawn0.step)⟩
     ·rw [if_neg c10] at H
      have c10b0:decide (65536 ≤ a0) = false:=decide_eq_false c10
      clear c10
      obtain rfl:=Option.some.inj H
      go_enter Tryz.func152,Tryz.ntmps152
      go_wp2
      go_ret
      exact ⟨by first | rfl | (simp;done) | (simp [*];done),by repeat (first | exact Drawn0.refl _ | apply Drawn0.step)⟩
mutual
def char_Start.j0:Nat → Int → Bool → Option (Bool)
  | 0,_,_=>none
  | k + 1,x0,x3=>if x3 = true then (some true) else (if x0 ≥ 97 then (char_Start.j1 k x0 (decide (x0 ≤ 122))) else (char_Start.j1 k x0 false))
def char_Start.j1:Nat → Int → Bool → Option (Bool)
  | 0,_,_=>none
  | k + 1,x0,x3=>if x3 = true then (some true) else (if x0 = 95 then (some true) else (if x0 = 58 then (some true) else (if x0 ≥ 192 then (if x0 = 215 then (some false) else (if x0 = 247 then (some false) else ((char_Char.f x0).bind fun t101=>(some t101)))) else (some false))))
end
def char_Start.f (k:Nat) (a0:Int):Option (Bool):=if a0 ≥ 65 then (char_Start.j0 k a0 (decide (a0 ≤ 90))) else (char_Start.j0 k a0 false)
theorem char_Start.mono_l:∀ k,(∀ y0 y1,LeO (char_Start.j0 k y0 y1) (char_Start.j0 (k + 1) y0 y1)) ∧ (∀ y0 y1,LeO (char_Start.j1 k y0 y1) (char_Start.j1 (k + 1) y0 y1))
  | 0=>⟨fun _ _ r h=>by simp [char_Start.j0] at h,fun _ _ r h=>by simp [char_Start.j1] at h⟩
  | k + 1=>by
   obtain ⟨ih0,ih1⟩:=char_Start.mono_l k
   refine ⟨?_,?_⟩
   ·intro y0 y1
    unfold char_Start.j0
    repeat' first
    | (with_reducible exact ih0 _ _)
    | (with_reducible exact ih1 _ _)
    | (with_reducible exact LeO.refl _)
    | (with_reducible exact LeO.none _)
    | (with_reducible refine LeO.ite ?_ ?_)
    | (with_reducible refine LeO.bind ?_ (fun _=>?_))
    | exact ih0 _ _
    | exact ih1 _ _
    | exact LeO.none _
    | refine LeO.ite ?_ ?_
    | refine LeO.bind ?_ (fun _=>?_)
   ·intro y0 y1
    unfold char_Start.j1
    repeat' first
    | (with_reducible exact ih0 _ _)
    | (with_reducible exact ih1 _ _)
    | (with_reducible exact LeO.refl _)
    | (with_reducible exact LeO.none _)
    | (with_reducible refine LeO.ite ?_ ?_)
    | (with_reducible refine LeO.bind ?_ (fun _=>?_))
    | exact ih0 _ _
    | exact ih1 _ _
    | exact LeO.none _
    | refine LeO.ite ?_ ?_
    | refine LeO.bind ?_ (fun _=>?_)
theorem char_Start.mono:∀ a0 k,LeO (char_Start.f k a0) (char_Start.f (k + 1) a0):=by
 intro a0 k
 obtain ⟨ih0,ih1⟩:=char_Start.mono_l k
 unfold char_Start.f
 repeat' first
  | (with_reducible exact ih0 _ _)
  | (with_reducible exact ih1 _ _)
  | (with_reducible exact LeO.refl _)
  | (with_reducible exact LeO.none _)
  | (with_reducible refine LeO.ite ?_ ?_)
  | (with_reducible refine LeO.bind ?_ (fun _=>?_))
  | exact ih0 _ _
  | exact ih1 _ _
  | exact LeO.none _
  | refine LeO.ite ?_ ?_
  | refine LeO.bind ?_ (fun _=>?_)
set_option maxHeartbeats 8000000 in
set_option maxRecDepth 100000 in
theorem char_Start.calls (k:Nat) (a0:Int) (r:Bool) (w:World) (h:char_Start.f k a0 = some r) :
    Calls Tryz.prog 107 #[.int .i32 a0] w fun e w'=>e = .returned (.bool r) ∧ Drawn0 w w':=by
  have H:(if a0 ≥ 65 then (char_Start.j0 k a0 (decide (a0 ≤ 90))) else (char_Start.j0 k a0 false)) = some r:=h
  clear h
  have HC2:=Aside0.mk H
  clear H
  go_enter Tryz.func107,Tryz.ntmps107
  go_upto_region 1 with (fail)
  go_cut [3] (fun v3 wc=>∃ (kq:Nat) (x3_1:Bool),v3 = .bool x3_1 ∧ Aside0 (char_Start.j0 kq a0 x3_1 = some r) ∧ Aside0 (kq ≤ k) ∧ Drawn0 w wc)
  case first=>
   have H:=HC2.out
   clear HC2
   by_cases c3:a0 ≥ 65
   ·rw [if_pos c3] at H
    have c3b0:decide (65 ≤ a0) = true:=decide_eq_true c3
    clear c3
    (first | rw [c3b0] | (simp only [i64_w,i32_w];rw [c3b0]) | skip)
    have H':=Aside0.mk H
    clear H
    go_wp2
    go_meet
    case rel=>exact ⟨_,(decide (a0 ≤ 90)),(by first | rfl | (simp;done) | (simp [*];done)),H',⟨by first | omega | exact Nat.le_refl _⟩,by repeat (first | exact Drawn0.refl _ | apply Drawn0.step)⟩
   ·rw [if_neg c3] at H
    have c3b0:decide (65 ≤ a0) = false:=decide_eq_false c3
    clear c3
    (first | rw [c3b0] | (simp only [i64_w,i32_w];rw [c3b0]) | skip)
    have H':=Aside0.mk H
    clear H
    go_wp2
    go_meet
    case rel=>exact ⟨_,(false),(by first | rfl | (simp;done) | (simp [*];done)),H',⟨by first | omega | exact Nat.le_refl _⟩,by repeat (first | exact Drawn0.refl _ | apply Drawn0.step)⟩
  case rest=>
   clear HC2
   try clear c1
   try clear p2
   try clear c3
   try clear c3b0
   obtain ⟨kq,x3_1,rfl,HA,HJ1,⟨mc1,rfl⟩⟩:=hcut
   cases kq with
   | zero=>exact absurd HA.out (by simp [char_Start.j0])
   | succ kj1=>
    have H:=HA.out
    clear HA
    simp only [char_Start.j0] at H
    by_cases c4:x3_1 = true
    ·subst c4
     have H1:(some true) = some r:=by rw [if_pos rfl] at H;exact H
     clear H
     have H:=H1
     clear H1
     obtain rfl:=Option.some.inj H
     go_wp2
     go_ret
     exact ⟨by first | rfl | (simp;done) | (simp [*];done),by repeat (first | exact Drawn0.refl _ | apply Drawn0.step)⟩
    ·replace c4:=Bool.eq_false_iff.mpr c4
     subst c4
     have H1:(if a0 ≥ 97 then (char_Start.j1 kj1 a0 (decide (a0 ≤ 122))) else (char_Start.j1 kj1 a0 false)) = some r:=by rw [if_neg (show ¬ (false = true) by decide)] at H;exact H
     clear H
     have H:=H1
     clear H1
     have HC5:=Aside0.mk H
     clear H
     go_upto_region 2 with (fail)
     go_cut [3] (fun v3 wc=>∃ (kq:Nat) (x3_4:Bool),v3 = .bool x3_4 ∧ Aside0 (char_Start.j1 kq a0 x3_4 = some r) ∧ Aside0 (kq ≤ kj1) ∧ Drawn0 w wc)
     case first=>
      have H:=HC5.out
      clear HC5
      by_cases c6:a0 ≥ 97
      ·rw [if_pos c6] at H
       have c6b0:decide (97 ≤ a0) = true:=decide_eq_true c6
       clear c6
       (first | rw [c6b0] | (simp only [i64_w,i32_w];rw [c6b0]) | skip)
       have H':=Aside0.mk H
       clear H
       go_wp2
       go_meet
       case rel=>exact ⟨_,(decide (a0 ≤ 122)),(by first | rfl | (simp;done) | (simp [*];done)),H',⟨by have:=HJ1.out;first | omega | exact Nat.le_refl _⟩,by repeat (first | exact Drawn0.refl _ | apply Drawn0.step)⟩
      ·rw [if_neg c6] at H
       have c6b0:decide (97 ≤ a0) = false:=decide_eq_false c6
       clear c6
       (first | rw [c6b0] | (simp only [i64_w,i32_w];rw [c6b0]) | skip)
       have H':=Aside0.mk H
       clear H
       go_wp2
       go_meet
       case rel=>exact ⟨_,(false),(by first | rfl | (simp;done) | (simp [*];done)),H',⟨by have:=HJ1.out;first | omega | exact Nat.le_refl _⟩,by repeat (first | exact Drawn0.refl _ | apply Drawn0.step)⟩
     case rest=>
      clear HC5
      try clear c1
      try clear p2
      try clear c3
      try clear c3b0
      try clear c4
      try clear c6
      try clear c6b0
      try clear p2
      obtain ⟨kq,x3_4,rfl,HA,HJ4,⟨mc4,rfl⟩⟩:=hcut
      cases kq with
      | zero=>exact absurd HA.out (by simp [char_Start.j1])
      | succ kj4=>
       have H:=HA.out
       clear HA
       simp only [char_Start.j1] at H
       by_cases c7:x3_4 = true
       ·subst c7
        have H1:(some true) = some r:=by rw [if_pos rfl] at H;exact H
        clear H
        have H:=H1
        clear H1
        obtain rfl:=Option.some.inj H
        go_wp2
        go_ret
        exact ⟨by first | rfl | (simp;done) | (simp [*];done),by repeat (first | exact Drawn0.refl _ | apply Drawn0.step)⟩
       ·replace c7:=Bool.eq_false_iff.mpr c7
        subst c7
        have H1:(if a0 = 95 then (some true) else (if a0 = 58 then (some true) else (if a0 ≥ 192 then (if a0 = 215 then (some false) else (if a0 = 247 then (some false) else ((char_Char.f a0).bind fun t101=>(some t101)))) else (some false)))) = some r:=by rw [if_neg (show ¬ (false = true) by decide)] at H;exact H
        clear H
        have H:=H1
        clear H1
        by_cases c8:a0 = 95
        ·rw [if_pos c8] at H
         have c8b0:(a0 == 95) = true:=beq_iff_eq.mpr c8
         have c8b1:(a0 != 95) = false:=bne_eq_false_iff_eq.mpr c8
         clear c8
         obtain rfl:=Option.some.inj H
         go_wp2
         go_ret
         exact ⟨by first | rfl | (simp;done) | (simp [*];done),by repeat (first | exact Drawn0.refl _ | apply Drawn0.step)⟩
        ·rw [if_neg c8] at H
         have c8b0:(a0 == 95) = false:=beq_eq_false_iff_ne.mpr c8
         have c8b1:(a0 != 95) = true:=bne_iff_ne.mpr c8
         by_cases c9:a0 = 58
         ·rw [if_pos c9] at H
          have c9b0:(a0 == 58) = true:=beq_iff_eq.mpr c9
          have c9b1:(a0 != 58) = false:=bne_eq_false_iff_eq.mpr c9
          clear c9
          obtain rfl:=Option.some.inj H
          go_wp2
          go_ret
          exact ⟨by first | rfl | (simp;done) | (simp [*];done),by repeat (first | exact Drawn0.refl _ | apply Drawn0.step)⟩
         ·rw [if_neg c9] at H
          have c9b0:(a0 == 58) = false:=beq_eq_false_iff_ne.mpr c9
          have c9b1:(a0 != 58) = true:=bne_iff_ne.mpr c9
          by_cases c10:a0 ≥ 192
          ·rw [if_pos c10] at H
           have c10b0:decide (192 ≤ a0) = true:=decide_eq_true c10
           clear c10
           by_cases c11:a0 = 215
           ·rw [if_pos c11] at H
            have c11b0:(a0 == 215) = true:=beq_iff_eq.mpr c11
            have c11b1:(a0 != 215) = false:=bne_eq_false_iff_eq.mpr c11
            clear c11
            obtain rfl:=Option.some.inj H
            go_wp2
            go_ret
            exact ⟨by first | rfl | (simp;done) | (simp [*];done),by repeat (first | exact Drawn0.refl _ | apply Drawn0.step)⟩
           ·rw [if_neg c11] at H
            have c11b0:(a0 == 215) = false:=beq_eq_false_iff_ne.mpr c11
            have c11b1:(a0 != 215) = true:=bne_iff_ne.mpr c11
            by_cases c12:a0 = 247
            ·rw [if_pos c12] at H
             have c12b0:(a0 == 247) = true:=beq_iff_eq.mpr c12
             have c12b1:(a0 != 247) = false:=bne_eq_false_iff_eq.mpr c12
             clear c12
             obtain rfl:=Option.some.inj H
             go_wp2
             go_ret
             exact ⟨by first | rfl | (simp;done) | (simp [*];done),by repeat (first | exact Drawn0.refl _ | apply Drawn0.step)⟩
            ·rw [if_neg c12] at H
             have c12b0:(a0 == 247) = false:=beq_eq_false_iff_ne.mpr c12
             have c12b1:(a0 != 247) = true:=bne_iff_ne.mpr c12
             replace H:=Option.bind_eq_some_iff.mp H
             obtain ⟨t101,A130,H⟩:=H
             replace H:(some t101) = some r:=H
             have A13:=Aside0.mk A130
             clear A130
             obtain rfl:=Option.some.inj H
             go_wp2_with (first | (go_at_call 152;(with_reducible refine (char_Char.calls a0 t101 _ A13.out).mono ?_);rintro e w' ⟨rfl,⟨nd,rfl⟩⟩))
             go_ret
             exact ⟨by first | rfl | (simp;done) | (simp [*];done),by repeat (first | exact Drawn0.refl _ | apply Drawn0.step)⟩
          ·rw [if_neg c10] at H
           have c10b0:decide (192 ≤ a0) = false:=decide_eq_false c10
           clear c10
           obtain rfl:=Option.some.inj H
           go_wp2
           go_ret
           exact ⟨by first | rfl | (simp;done) | (simp [*];done),by repeat (first | exact Drawn0.refl _ | apply Drawn0.step)⟩
def char_Part.f (k:Nat) (a0:Int):Option (Bool):=(char_Start.f k a0).bind fun t102=>(if t102 = true then (some true) else (if a0 ≥ 48 then (if a0 ≤ 57 then (some true) else (if a0 = 45 then (some true) else (if a0 = 46 then (some true) else (some (a0 == 183))))) else (if a0 = 45 then (some true) else (if a0 = 46 then (some true) else (some (a0 == 183))))))
theorem char_Part.mono:∀ a0 k,LeO (char_Part.f k a0) (char_Part.f (k + 1) a0):=by
 intro a0 k
 unfold char_Part.f
 repeat' first
  | (with_reducible exact char_Start.mono _ _)
  | (with_reducible exact LeO.refl _)
  | (with_reducible exact LeO.none _)
  | (with_reducible refine LeO.ite ?_ ?_)
  | (with_reducible refine LeO.bind ?_ (fun _=>?_))
  | exact char_Start.mono _ _
  | exact LeO.none _
  | refine LeO.ite ?_ ?_
  | refine LeO.bind ?_ (fun _=>?_)
set_option maxHeartbeats 8000000 in
set_option maxRecDepth 100000 in
theorem char_Part.calls (k:Nat) (a0:Int) (r:Bool) (w:World) (h:char_Part.f k a0 = some r) :
    Calls Tryz.prog 144 #[.int .i32 a0] w fun e w'=>e = .returned (.bool r) ∧ Drawn0 w w':=by
  have H:((char_Start.f k a0).bind fun t102=>(if t102 = true then (some true) else (if a0 ≥ 48 then (if a0 ≤ 57 then (some true) else (if a0 = 45 then (some true) else (if a0 = 46 then (some true) else (some (a0 == 183))))) else (if a0 = 45 then (some true) else (if a0 = 46 then (some true) else (some (a0 == 183))))))) = some r:=h
  clear h
  replace H:=Option.bind_eq_some_iff.mp H
  obtain ⟨t102,A20,H⟩:=H
  replace H:(if t102 = true then (some true) else (if a0 ≥ 48 then (if a0 ≤ 57 then (some true) else (if a0 = 45 then (some true) else (if a0 = 46 then (some true) else (some (a0 == 183))))) else (if a0 = 45 then (some true) else (if a0 = 46 then (some true) else (some (a0 == 183)))))) = some r:=H
  have A2:=Aside0.mk A20
  clear A20
  by_cases c3:t102 = true
  ·subst c3
   have H1:(some true) = some r:=by rw [if_pos rfl] at H;exact H
   clear H
   have H:=H1
   clear H1
   obtain rfl:=Option.some.inj H
   go_enter Tryz.func144,Tryz.ntmps144
   go_wp2_with (first | ((with_reducible refine gate_callee (f:=107) rfl ?_);refine goesL_ (some 4) rfl rfl Tryz.func107 (by kernel_rfl) rfl #[.int .i32 a0] rfl (by (try simp only [List.map_toArray,List.map_cons,List.map_nil]);first | done | rfl | (simp only [List.length_drop,List.length_take];rfl)) ?_;(with_reducible refine (char_Start.calls k a0 true _ A2.out).mono ?_);rintro e w' ⟨rfl,⟨nd,rfl⟩⟩;refine ⟨_,rfl,?_⟩))
   go_ret
   exact ⟨by first | rfl | (simp;done) | (simp [*];done),by repeat (first | exact Drawn0.refl _ | apply Drawn0.step)⟩
  ·replace c3:=Bool.eq_false_iff.mpr c3
   subst c3
   have H1:(if a0 ≥ 48 then (if a0 ≤ 57 then (some true) else (if a0 = 45 then (some true) else (if a0 = 46 then (some true) else (some (a0 == 183))))) else (if a0 = 45 then (some true) else (if a0 = 46 then (some true) else (some (a0 == 183))))) = some r:=by rw [if_neg (show ¬ (false = true) by decide)] at H;exact H
   clear H
   have H:=H1
   clear H1
   by_cases c4:a0 ≥ 48
   ·rw [if_pos c4] at H
    have c4b0:decide (48 ≤ a0) = true:=decide_eq_true c4
    clear c4
    by_cases c5:a0 ≤ 57
    ·rw [if_pos c5] at H
     have c5b0:decide (a0 ≤ 57) = true:=decide_eq_true c5
     clear c5
     obtain rfl:=Option.some.inj H
     go_enter Tryz.func144,Tryz.ntmps144
     go_wp2_with (first | ((with_reducible refine gate_callee (f:=107) rfl ?_);refine goesL_ (some 4) rfl rfl Tryz.func107 (by kernel_rfl) rfl #[.int .i32 a0] rfl (by (try simp only [List.map_toArray,List.map_cons,List.map_nil]);first | done | rfl | (simp only [List.length_drop,List.length_take];rfl)) ?_;(with_reducible refine (char_Start.calls k a0 false _ A2.out).mono ?_);rintro e w' ⟨rfl,⟨nd,rfl⟩⟩;refine ⟨_,rfl,?_⟩))
     go_ret
     exact ⟨by first | rfl | (simp;done) | (simp [*];done),by repeat (first | exact Drawn0.refl _ | apply Drawn0.step)⟩
    ·rw [if_neg c5] at H
     have c5b0:decide (a0 ≤ 57) = false:=decide_eq_false c5
     clear c5
     by_cases c6:a0 = 45
     ·rw [if_pos c6] at H
      have c6b0:(a0 == 45) = true:=beq_iff_eq.mpr c6
      have c6b1:(a0 != 45) = false:=bne_eq_false_iff_eq.mpr c6
      clear c6
      obtain rfl:=Option.some.inj H
      go_enter Tryz.func144,Tryz.ntmps144
      go_wp2_with (first | ((with_reducible refine gate_callee (f:=107) rfl ?_);refine goesL_ (some 4) rfl rfl Tryz.func107 (by kernel_rfl) rfl #[.int .i32 a0] rfl (by (try simp only [List.map_toArray,List.map_cons,List.map_nil]);first | done | rfl | (simp only [List.length_drop,List.length_take];rfl)) ?_;(with_reducible refine (char_Start.calls k a0 false _ A2.out).mono ?_);rintro e w' ⟨rfl,⟨nd,rfl⟩⟩;refine ⟨_,rfl,?_⟩))
      go_ret
      exact ⟨by first | rfl | (simp;done) | (simp [*];done),by repeat (first | exact Drawn0.refl _ | apply Drawn0.step)⟩
     ·rw [if_neg c6] at H
      have c6b0:(a0 == 45) = false:=beq_eq_false_iff_ne.mpr c6
      have c6b1:(a0 != 45) = true:=bne_iff_ne.mpr c6
      by_cases c7:a0 = 46
      ·rw [if_pos c7] at H
       have c7b0:(a0 == 46) = true:=beq_iff_eq.mpr c7
       have c7b1:(a0 != 46) = false:=bne_eq_false_iff_eq.mpr c7
       clear c7
       obtain rfl:=Option.some.inj H
       go_enter Tryz.func144,Tryz.ntmps144
       go_wp2_with (first | ((with_reducible refine gate_callee (f:=107) rfl ?_);refine goesL_ (some 4) rfl rfl Tryz.func107 (by kernel_rfl) rfl #[.int .i32 a0] rfl (by (try simp only [List.map_toArray,List.map_cons,List.map_nil]);first | done | rfl | (simp only [List.length_drop,List.length_take];rfl)) ?_;(with_reducible refine (char_Start.calls k a0 false _ A2.out).mono ?_);rintro e w' ⟨rfl,⟨nd,rfl⟩⟩;refine ⟨_,rfl,?_⟩))
       go_ret
       exact ⟨by first | rfl | (simp;done) | (simp [*];done),by repeat (first | exact Drawn0.refl _ | apply Drawn0.step)⟩
      ·rw [if_neg c7] at H
       have c7b0:(a0 == 46) = false:=beq_eq_false_iff_ne.mpr c7
       have c7b1:(a0 != 46) = true:=bne_iff_ne.mpr c7
       obtain rfl:=Option.some.inj H
       go_enter Tryz.func144,Tryz.ntmps144
       go_wp2_with (first | ((with_reducible refine gate_callee (f:=107) rfl ?_);refine goesL_ (some 4) rfl rfl Tryz.func107 (by kernel_rfl) rfl #[.int .i32 a0] rfl (by (try simp only [List.map_toArray,List.map_cons,List.map_nil]);first | done | rfl | (simp only [List.length_drop,List.length_take];rfl)) ?_;(with_reducible refine (char_Start.calls k a0 false _ A2.out).mono ?_);rintro e w' ⟨rfl,⟨nd,rfl⟩⟩;refine ⟨_,rfl,?_⟩))
       go_ret
       exact ⟨by first | rfl | (simp;done) | (simp [*];done),by repeat (first | exact Drawn0.refl _ | apply Drawn0.step)⟩
   ·rw [if_neg c4] at H
    have c4b0:decide (48 ≤ a0) = false:=decide_eq_false c4
    clear c4
    by_cases c8:a0 = 45
    ·rw [if_pos c8] at H
     have c8b0:(a0 == 45) = true:=beq_iff_eq.mpr c8
     have c8b1:(a0 != 45) = false:=bne_eq_false_iff_eq.mpr c8
     clear c8
     obtain rfl:=Option.some.inj H
     go_enter Tryz.func144,Tryz.ntmps144
     go_wp2_with (first | ((with_reducible refine gate_callee (f:=107) rfl ?_);refine goesL_ (some 4) rfl rfl Tryz.func107 (by kernel_rfl) rfl #[.int .i32 a0] rfl (by (try simp only [List.map_toArray,List.map_cons,List.map_nil]);first | done | rfl | (simp only [List.length_drop,List.length_take];rfl)) ?_;(with_reducible refine (char_Start.calls k a0 false _ A2.out).mono ?_);rintro e w' ⟨rfl,⟨nd,rfl⟩⟩;refine ⟨_,rfl,?_⟩))
     go_ret
     exact ⟨by first | rfl | (simp;done) | (simp [*];done),by repeat (first | exact Drawn0.refl _ | apply Drawn0.step)⟩
    ·rw [if_neg c8] at H
     have c8b0:(a0 == 45) = false:=beq_eq_false_iff_ne.mpr c8
     have c8b1:(a0 != 45) = true:=bne_iff_ne.mpr c8
     by_cases c9:a0 = 46
     ·rw [if_pos c9] at H
      have c9b0:(a0 == 46) = true:=beq_iff_eq.mpr c9
      have c9b1:(a0 != 46) = false:=bne_eq_false_iff_eq.mpr c9
      clear c9
      obtain rfl:=Option.some.inj H
      go_enter Tryz.func144,Tryz.ntmps144
      go_wp2_with (first | ((with_reducible refine gate_callee (f:=107) rfl ?_);refine goesL_ (some 4) rfl rfl Tryz.func107 (by kernel_rfl) rfl #[.int .i32 a0] rfl (by (try simp only [List.map_toArray,List.map_cons,List.map_nil]);first | done | rfl | (simp only [List.length_drop,List.length_take];rfl)) ?_;(with_reducible refine (char_Start.calls k a0 false _ A2.out).mono ?_);rintro e w' ⟨rfl,⟨nd,rfl⟩⟩;refine ⟨_,rfl,?_⟩))
      go_ret
      exact ⟨by first | rfl | (simp;done) | (simp [*];done),by repeat (first | exact Drawn0.refl _ | apply Drawn0.step)⟩
     ·rw [if_neg c9] at H
      have c9b0:(a0 == 46) = false:=beq_eq_false_iff_ne.mpr c9
      have c9b1:(a0 != 46) = true:=bne_iff_ne.mpr c9
      obtain rfl:=Option.some.inj H
      go_enter Tryz.func144,Tryz.ntmps144
      go_wp2_with (first | ((with_reducible refine gate_callee (f:=107) rfl ?_);refine goesL_ (some 4) rfl rfl Tryz.func107 (by kernel_rfl) rfl #[.int .i32 a0] rfl (by (try simp only [List.map_toArray,List.map_cons,List.map_nil]);first | done | rfl | (simp only [List.length_drop,List.length_take];rfl)) ?_;(with_reducible refine (char_Start.calls k a0 false _ A2.out).mono ?_);rintro e w' ⟨rfl,⟨nd,rfl⟩⟩;refine ⟨_,rfl,?_⟩))
      go_ret
      exact ⟨by first | rfl | (simp;done) | (simp [*];done),by repeat (first | exact Drawn0.refl _ | apply Drawn0.step)⟩
def char_lead.f (a0:Int):Option (Int × Int × Int):=if a0 < 128 then (some (1,wrap32 (a0),0)) else (if (a0 / 32) = 6 then (some (2,wrap32 (Go.bits .and .u8 a0 31),128)) else (if (a0 / 16) = 14 then (some (3,wrap32 (Go.bits .and .u8 a0 15),2048)) else (if (a0 / 8) = 30 then (some (4,wrap32 (Go.bits .and .u8 a0 7),65536)) else (some (0,0,0)))))
set_option maxHeartbeats 8000000 in
set_option maxRecDepth 100000 in
theorem char_lead.calls (a0:Int) (r1:Int) (r2:Int) (r3:Int) (w:World) (h:char_lead.f a0 = some (r1,r2,r3)) :
    Calls Tryz.prog 193 #[.int .u8 a0] w fun e w'=>e = .returned (.tuple #[.int .i64 r1,.int .i32 r2,.int .i32 r3]) ∧ Drawn0 w w':=by
  have H:(if a0 < 128 then (some (1,wrap32 (a0),0)) else (if (a0 / 32) = 6 then (some (2,wrap32 (Go.bits .and .u8 a0 31),128)) else (if (a0 / 16) = 14 then (some (3,wrap32 (Go.bits .and .u8 a0 15),2048)) else (if (a0 / 8) = 30 then (some (4,wrap32 (Go.bits .and .u8 a0 7),65536)) else (some (0,0,0)))))) = some (r1,r2,r3):=h
  clear h
  by_cases c2:a0 < 128
  ·rw [if_pos c2] at H
   have c2b0:decide (a0 < 128) = true:=decide_eq_true c2
   clear c2
   simp only [Option.some.injEq,Prod.mk.injEq] at H
   obtain ⟨rfl,rfl,rfl⟩:=H
   go_enter Tryz.func193,Tryz.ntmps193
   go_wp2
   go_ret3
   exact ⟨by first | rfl | (simp;done) | (simp [*];done),by repeat (first | exact Drawn0.refl _ | apply Drawn0.step)⟩
  ·rw [if_neg c2] at H
   have c2b0:decide (a0 < 128) = false:=decide_eq_false c2
   clear c2
   by_cases c3:(a0 / 32) = 6
   ·rw [if_pos c3] at H
    have c3b0:((a0 / 32) == 6) = true:=beq_iff_eq.mpr c3
    have c3b1:((a0 / 32) != 6) = false:=bne_eq_false_iff_eq.mpr c3
    clear c3
    simp only [Option.some.injEq,Prod.mk.injEq] at H
    obtain ⟨rfl,rfl,rfl⟩:=H
    go_enter Tryz.func193,Tryz.ntmps193
    go_wp2
    go_ret3
    exact ⟨by first | rfl | (simp;done) | (simp [*];done),by repeat (first | exact Drawn0.refl _ | apply Drawn0.step)⟩
   ·rw [if_neg c3] at H
    have c3b0:((a0 / 32) == 6) = false:=beq_eq_false_iff_ne.mpr c3
    have c3b1:((a0 / 32) != 6) = true:=bne_iff_ne.mpr c3
    by_cases c4:(a0 / 16) = 14
    ·rw [if_pos c4] at H
     have c4b0:((a0 / 16) == 14) = true:=beq_iff_eq.mpr c4
     have c4b1:((a0 / 16) != 14) = false:=bne_eq_false_iff_eq.mpr c4
     clear c4
     simp only [Option.some.injEq,Prod.mk.injEq] at H
     obtain ⟨rfl,rfl,rfl⟩:=H
     go_enter Tryz.func193,Tryz.ntmps193
     go_wp2
     go_ret3
     exact ⟨by first | rfl | (simp;done) | (simp [*];done),by repeat (first | exact Drawn0.refl _ | apply Drawn0.step)⟩
    ·rw [if_neg c4] at H
     have c4b0:((a0 / 16) == 14) = false:=beq_eq_false_iff_ne.mpr c4
     have c4b1:((a0 / 16) != 14) = true:=bne_iff_ne.mpr c4
     by_cases c5:(a0 / 8) = 30
     ·rw [if_pos c5] at H
      have c5b0:((a0 / 8) == 30) = true:=beq_iff_eq.mpr c5
      have c5b1:((a0 / 8) != 30) = false:=bne_eq_false_iff_eq.mpr c5
      clear c5
      simp only [Option.some.injEq,Prod.mk.injEq] at H
      obtain ⟨rfl,rfl,rfl⟩:=H
      go_enter Tryz.func193,Tryz.ntmps193
      go_wp2
      go_ret3
      exact ⟨by first | rfl | (simp;done) | (simp [*];done),by repeat (first | exact Drawn0.refl _ | apply Drawn0.step)⟩
     ·rw [if_neg c5] at H
      have c5b0:((a0 / 8) == 30) = false:=beq_eq_false_iff_ne.mpr c5
      have c5b1:((a0 / 8) != 30) = true:=bne_iff_ne.mpr c5
      simp only [Option.some.injEq,Prod.mk.injEq] at H
      obtain ⟨rfl,rfl,rfl⟩:=H
      go_enter Tryz.func193,Tryz.ntmps193
      go_wp2
      go_ret3
      exact ⟨by first | rfl | (simp;done) | (simp [*];done),by repeat (first | exact Drawn0.refl _ | apply Drawn0.step)⟩
def char_may.f (a0:Int):Option (Bool):=if a0 ≥ 0 then (if a0 ≤ 1114111 then (if a0 < 55296 then (some true) else (some (decide (a0 > 57343)))) else (some false)) else (some false)
set_option maxHeartbeats 8000000 in
set_option maxRecDepth 100000 in
theorem char_may.calls (a0:Int) (r:Bool) (w:World) (h:char_may.f a0 = some r) :
    Calls Tryz.prog 194 #[.int .i32 a0] w fun e w'=>e = .returned (.bool r) ∧ Drawn0 w w':=by
  have H:(if a0 ≥ 0 then (if a0 ≤ 1114111 then (if a0 < 55296 then (some true) else (some (decide (a0 > 57343)))) else (some false)) else (some false)) = some r:=h
  clear h
  by_cases c2:a0 ≥ 0
  ·rw [if_pos c2] at H
   have c2b0:decide (0 ≤ a0) = true:=decide_eq_true c2
   clear c2
   by_cases c3:a0 ≤ 1114111
   ·rw [if_pos c3] at H
    have c3b0:decide (a0 ≤ 1114111) = true:=decide_eq_true c3
    clear c3
    by_cases c4:a0 < 55296
    ·rw [if_pos c4] at H
     have c4b0:decide (a0 < 55296) = true:=decide_eq_true c4
     clear c4
     obtain rfl:=Option.some.inj H
     go_enter Tryz.func194,Tryz.ntmps194
     go_wp2
     go_ret
     exact ⟨by first | rfl | (simp;done) | (simp [*];done),by repeat (first | exact Drawn0.refl _ | apply Drawn0.step)⟩
    ·rw [if_neg c4] at H
     have c4b0:decide (a0 < 55296) = false:=decide_eq_false c4
     clear c4
     obtain rfl:=Option.some.inj H
     go_enter Tryz.func194,Tryz.ntmps194
     go_wp2
     go_ret
     exact ⟨by first | rfl | (simp;done) | (simp [*];done),by repeat (first | exact Drawn0.refl _ | apply Drawn0.step)⟩
   ·rw [if_neg c3] at H
    have c3b0:decide (a0 ≤ 1114111) = false:=decide_eq_false c3
    clear c3
    obtain rfl:=Option.some.inj H
    go_enter Tryz.func194,Tryz.ntmps194
    go_wp2
    go_ret
    exact ⟨by first | rfl | (simp;done) | (simp [*];done),by repeat (first | exact Drawn0.refl _ | apply Drawn0.step)⟩
  ·rw [if_neg c2] at H
   have c2b0:decide (0 ≤ a0) = false:=decide_eq_false c2
   clear c2
   obtain rfl:=Option.some.inj H
   go_enter Tryz.func194,Tryz.ntmps194
   go_wp2
   go_ret
   exact ⟨by first | rfl | (simp;done) | (simp [*];done),by repeat (first | exact Drawn0.refl _ | apply Drawn0.step)⟩
end Go.Proofs.YtbaokjfhigjpdaaGreatDoor.PNsBase
end
section
namespace Go.Proofs.YtbaokjfhigjpdaaGreatDoor.PNsBase
open Go.RowKit Go.Proofs.YtbaokjfhigjpdaaGreatDoorW.PrintWords Go.Proofs.YtbaokjfhigjpdaaGreatDoorW.PrintLast Go.Proofs.YtbaokjfhigjpdaaGreatDoorW.PrintMore
attribute [local go_sem] max2_int min2_int max_two min_two max_three min_three max_four min_four   -- for this text's walks alone
set_option linter.unusedVariables false
set_option linter.unusedSimpArgs false
def decS:List Int → Int × Int
  | []=>(-1,0)
  | c :: t=>
   if c < 128 then (c,1)
   else if c / 32 = 6 then (match t with
    | a :: _=>if a / 64 = 2 then (if c % 32 * 64 + a % 64 < 128 then (-1,0) else (c % 32 * 64 + a % 64,2)) else (-1,0)
    | []=>(-1,0))
   else if c / 16 = 14 then (match t with
    | a :: b :: _=>if a / 64 = 2 then (if b / 64 = 2 then (if (c % 16 * 64 + a % 64) * 64 + b % 64 < 2048 then (-1,0) else if 55296 ≤ (c % 16 * 64 + a % 64) * 64 + b % 64 ∧ (c % 16 * 64 + a % 64) * 64 + b % 64 ≤ 57343 then (-1,0) else ((c % 16 * 64 + a % 64) * 64 + b % 64,3)) else (-1,0)) else (-1,0)
    | _=>(-1,0))
   else if c / 8 = 30 then (match t with
    | a :: b :: d :: _=>if a / 64 = 2 then (if b / 64 = 2 then (if d / 64 = 2 then (if ((c % 8 * 64 + a % 64) * 64 + b % 64) * 64 + d % 64 < 65536 then (-1,0) else if 1114111 < ((c % 8 * 64 + a % 64) * 64 + b % 64) * 64 + d % 64 then (-1,0) else (((c % 8 * 64 + a % 64) * 64 + b % 64) * 64 + d % 64,4)) else (-1,0)) else (-1,0)) else (-1,0)
    | _=>(-1,0))
   else (-1,0)
def isByte (x:Int):Bool:=decide (0 ≤ x) && decide (x < 256)
def char_Decode.f (l:List Int):Option (Int × Int):=if (l.take 4).all isByte then some (decS l) else none
theorem isByte_iff {x:Int} (h:isByte x = true):0 ≤ x ∧ x < 256:=by
 unfold isByte at h
 simpa using h
set_option maxHeartbeats 1600000 in
set_option maxRecDepth 100000 in
theorem dec0 (ad:Addr) (c0 m:Nat) (c:Int) (w:World) (hcap:m + 1 ≤ c0) (x0:w.cell? ad = some (.int .u8 c)) (b1:0 ≤ c) (b2:c < 256) (h1:¬ c < 128) (h2:¬ c / 32 = 6) (h3:¬ c / 16 = 14) (h4:¬ c / 8 = 30) :
    Calls Tryz.prog 143 #[.slice (some ad) (m + 1) c0] w fun e w'=>e = .returned (.tuple #[.int .i32 (-1),.int .i64 0]) ∧ Drawn0 w w':=by
  have hl:char_lead.f c = some (0,0,0):=by
   unfold char_lead.f
   rw [if_neg h1,if_neg h2,if_neg h3,if_neg h4]
  have HL:=Aside0.mk hl
  clear hl
  have h0:((m:Int) + 1 == 0) = false:=by rw [beq_eq_false_iff_ne];omega
  go_enter Tryz.func143,Tryz.ntmps143
  go_wp2_with (first | (go_at_call 193;(with_reducible refine (char_lead.calls _ _ _ _ _ HL.out).mono ?_);rintro e w' ⟨rfl,⟨nd,rfl⟩⟩))
  go_ret2
  exact ⟨by first | rfl | (simp;done) | (simp [*];done),by repeat (first | exact Drawn0.refl _ | apply Drawn0.step)⟩
set_option maxHeartbeats 1600000 in
set_option maxRecDepth 100000 in
theorem dec1 (ad:Addr) (c0 m:Nat) (c:Int) (w:World) (hcap:m + 1 ≤ c0) (x0:w.cell? ad = some (.int .u8 c)) (b1:0 ≤ c) (b2:c < 256) (h1:c < 128) :
    Calls Tryz.prog 143 #[.slice (some ad) (m + 1) c0] w fun e w'=>e = .returned (.tuple #[.int .i32 (c),.int .i64 1]) ∧ Drawn0 w w':=by
  have hl:char_lead.f c = some (1,c,0):=by
   unfold char_lead.f
   rw [if_pos h1]
   simp [wrap32];omega
  have HL:=Aside0.mk hl
  clear hl
  have HM:Aside0 (char_may.f c = some true):=⟨by unfold char_may.f;rw [if_pos (by omega),if_pos (by omega),if_pos (by omega)]⟩
  have h0:((m:Int) + 1 == 0) = false:=by rw [beq_eq_false_iff_ne];omega
  go_enter Tryz.func143,Tryz.ntmps143
  go_wp2_with (first | (go_at_call 193;(with_reducible refine (char_lead.calls _ _ _ _ _ HL.out).mono ?_);rintro e w' ⟨rfl,⟨nd,rfl⟩⟩) | (go_at_call 194;(with_reducible refine (char_may.calls _ true _ HM.out).mono ?_);rintro e w' ⟨rfl,⟨nd2,rfl⟩⟩))
  all_goals
   refine wp_loop_rounds 1 ?_
   rw [rounds_succ]
   go_wp2_with (first | (go_at_call 193;(with_reducible refine (char_lead.calls _ _ _ _ _ HL.out).mono ?_);rintro e w' ⟨rfl,⟨nd,rfl⟩⟩) | (go_at_call 194;(with_reducible refine (char_may.calls _ true _ HM.out).mono ?_);rintro e w' ⟨rfl,⟨nd2,rfl⟩⟩))
   go_ret2
   exact ⟨by first | rfl | (simp;done) | (simp [*];done),by repeat (first | exact Drawn0.refl _ | apply Drawn0.step)⟩
set_option maxHeartbeats 1600000 in
set_option maxRecDepth 100000 in
theorem dec2s1 (ad:Addr) (c0:Nat) (c:Int) (w:World) (hcap:1 ≤ c0) (x0:w.cell? ad = some (.int .u8 c)) (b1:0 ≤ c) (b2:c < 256) (hn:c / 32 = 6) :
    Calls Tryz.prog 143 #[.slice (some ad) 1 c0] w fun e w'=>e = .returned (.tuple #[.int .i32 (-1),.int .i64 0]) ∧ Drawn0 w w':=by
  have hl:char_lead.f c = some (2,c % 32,128):=by
   unfold char_lead.f
   rw [if_neg (by omega),if_pos hn,u8_and31 _ b1 b2]
   simp [wrap32];omega
  have HL:=Aside0.mk hl
  clear hl hn
  go_enter Tryz.func143,Tryz.ntmps143
  go_wp2_with (go_at_call 193;(with_reducible refine (char_lead.calls _ _ _ _ _ HL.out).mono ?_);rintro e w' ⟨rfl,⟨nd,rfl⟩⟩)
  go_ret2
  exact ⟨by first | rfl | (simp;done) | (simp [*];done),by repeat (first | exact Drawn0.refl _ | apply Drawn0.step)⟩
set_option maxHeartbeats 1600000 in
set_option maxRecDepth 100000 in
theorem dec2b1 (ad:Addr) (c0 m:Nat) (c a:Int) (w:World) (hcap:m + 2 ≤ c0) (x0:w.cell? ad = some (.int .u8 c)) (x1:w.cell? ⟨ad.block,ad.off + 1,none⟩ = some (.int .u8 a)) (b1:0 ≤ c) (b2:c < 256) (b3:0 ≤ a) (b4:a < 256) (hn:c / 32 = 6) (g1:(a / 64 != 2) = true) :
    Calls Tryz.prog 143 #[.slice (some ad) (m + 2) c0] w fun e w'=>e = .returned (.tuple #[.int .i32 (-1),.int .i64 0]) ∧ Drawn0 w w':=by
  have hl:char_lead.f c = some (2,c % 32,128):=by
   unfold char_lead.f
   rw [if_neg (by omega),if_pos hn,u8_and31 _ b1 b2]
   simp [wrap32];omega
  have HL:=Aside0.mk hl
  clear hl
  clear hn
  have h0:((m:Int) + 2 == 0) = false:=by rw [beq_eq_false_iff_ne];omega
  go_enter Tryz.func143,Tryz.ntmps143
  go_wp2_with (first | (go_at_call 193;(with_reducible refine (char_lead.calls _ _ _ _ _ HL.out).mono ?_);rintro e w' ⟨rfl,⟨nd,rfl⟩⟩))
  refine wp_loop_rounds 1 ?_
  rw [rounds_succ]
  go_wp2_with (first | (go_at_call 193;(with_reducible refine (char_lead.calls _ _ _ _ _ HL.out).mono ?_);rintro e w' ⟨rfl,⟨nd,rfl⟩⟩))
  go_ret2
  exact ⟨by first | rfl | (simp;done) | (simp [*];done),by repeat (first | exact Drawn0.refl _ | apply Drawn0.step)⟩
set_option maxHeartbeats 1600000 in
set_option maxRecDepth 100000 in
theorem dec2low (ad:Addr) (c0 m:Nat) (c a:Int) (w:World) (hcap:m + 2 ≤ c0) (x0:w.cell? ad = some (.int .u8 c)) (x1:w.cell? ⟨ad.block,ad.off + 1,none⟩ = some (.int .u8 a)) (b1:0 ≤ c) (b2:c < 256) (b3:0 ≤ a) (b4:a < 256) (hn:c / 32 = 6) (g1:(a / 64 != 2) = false) (hr:c % 32 * 64 + a % 64 < 128) :
    Calls Tryz.prog 143 #[.slice (some ad) (m + 2) c0] w fun e w'=>e = .returned (.tuple #[.int .i32 (-1),.int .i64 0]) ∧ Drawn0 w w':=by
  have hl:char_lead.f c = some (2,c % 32,128):=by
   unfold char_lead.f
   rw [if_neg (by omega),if_pos hn,u8_and31 _ b1 b2]
   simp [wrap32];omega
  have HL:=Aside0.mk hl
  clear hl
  clear hn
  have h0:((m:Int) + 2 == 0) = false:=by rw [beq_eq_false_iff_ne];omega
  go_enter Tryz.func143,Tryz.ntmps143
  go_wp2_with (first | (go_at_call 193;(with_reducible refine (char_lead.calls _ _ _ _ _ HL.out).mono ?_);rintro e w' ⟨rfl,⟨nd,rfl⟩⟩))
  refine wp_loop_rounds 2 ?_
  rw [rounds_succ]
  go_wp2_with (first | (go_at_call 193;(with_reducible refine (char_lead.calls _ _ _ _ _ HL.out).mono ?_);rintro e w' ⟨rfl,⟨nd,rfl⟩⟩))
  rw [rounds_succ]
  go_wp2_with (first | (go_at_call 193;(with_reducible refine (char_lead.calls _ _ _ _ _ HL.out).mono ?_);rintro e w' ⟨rfl,⟨nd,rfl⟩⟩))
  go_ret2
  exact ⟨by first | rfl | (simp;done) | (simp [*];done),by repeat (first | exact Drawn0.refl _ | apply Drawn0.step)⟩
set_option maxHeartbeats 1600000 in
set_option maxRecDepth 100000 in
theorem dec2ok (ad:Addr) (c0 m:Nat) (c a:Int) (w:World) (hcap:m + 2 ≤ c0) (x0:w.cell? ad = some (.int .u8 c)) (x1:w.cell? ⟨ad.block,ad.off + 1,none⟩ = some (.int .u8 a)) (b1:0 ≤ c) (b2:c < 256) (b3:0 ≤ a) (b4:a < 256) (hn:c / 32 = 6) (g1:(a / 64 != 2) = false) (hr:¬ c % 32 * 64 + a % 64 < 128) :
    Calls Tryz.prog 143 #[.slice (some ad) (m + 2) c0] w fun e w'=>e = .returned (.tuple #[.int .i32 (c % 32 * 64 + a % 64),.int .i64 2]) ∧ Drawn0 w w':=by
  have hl:char_lead.f c = some (2,c % 32,128):=by
   unfold char_lead.f
   rw [if_neg (by omega),if_pos hn,u8_and31 _ b1 b2]
   simp [wrap32];omega
  have HL:=Aside0.mk hl
  clear hl
  have HM:Aside0 (char_may.f (c % 32 * 64 + a % 64) = some true):=⟨by unfold char_may.f;rw [if_pos (by omega),if_pos (by omega),if_pos (by omega)]⟩
  clear hn
  have h0:((m:Int) + 2 == 0) = false:=by rw [beq_eq_false_iff_ne];omega
  go_enter Tryz.func143,Tryz.ntmps143
  go_wp2_with (first | (go_at_call 193;(with_reducible refine (char_lead.calls _ _ _ _ _ HL.out).mono ?_);rintro e w' ⟨rfl,⟨nd,rfl⟩⟩) | (go_at_call 194;(with_reducible refine (char_may.calls _ true _ HM.out).mono ?_);rintro e w' ⟨rfl,⟨nd2,rfl⟩⟩))
  refine wp_loop_rounds 2 ?_
  rw [rounds_succ]
  go_wp2_with (first | (go_at_call 193;(with_reducible refine (char_lead.calls _ _ _ _ _ HL.out).mono ?_);rintro e w' ⟨rfl,⟨nd,rfl⟩⟩) | (go_at_call 194;(with_reducible refine (char_may.calls _ true _ HM.out).mono ?_);rintro e w' ⟨rfl,⟨nd2,rfl⟩⟩))
  rw [rounds_succ]
  go_wp2_with (first | (go_at_call 193;(with_reducible refine (char_lead.calls _ _ _ _ _ HL.out).mono ?_);rintro e w' ⟨rfl,⟨nd,rfl⟩⟩) | (go_at_call 194;(with_reducible refine (char_may.calls _ true _ HM.out).mono ?_);rintro e w' ⟨rfl,⟨nd2,rfl⟩⟩))
  go_ret2
  exact ⟨by first | rfl | (simp;done) | (simp [*];done),by repeat (first | exact Drawn0.refl _ | apply Drawn0.step)⟩
set_option maxHeartbeats 1600000 in
set_option maxRecDepth 100000 in
theorem dec3s1 (ad:Addr) (c0:Nat) (c:Int) (w:World) (hcap:1 ≤ c0) (x0:w.cell? ad = some (.int .u8 c)) (b1:0 ≤ c) (b2:c < 256) (hn:c / 16 = 14) :
    Calls Tryz.prog 143 #[.slice (some ad) 1 c0] w fun e w'=>e = .returned (.tuple #[.int .i32 (-1),.int .i64 0]) ∧ Drawn0 w w':=by
  have hl:char_lead.f c = some (3,c % 16,2048):=by
   unfold char_lead.f
   rw [if_neg (by omega),if_neg (by omega),if_pos hn,u8_and15 _ b1 b2]
   simp [wrap32];omega
  have HL:=Aside0.mk hl
  clear hl hn
  go_enter Tryz.func143,Tryz.ntmps143
  go_wp2_with (go_at_call 193;(with_reducible refine (char_lead.calls _ _ _ _ _ HL.out).mono ?_);rintro e w' ⟨rfl,⟨nd,rfl⟩⟩)
  go_ret2
  exact ⟨by first | rfl | (simp;done) | (simp [*];done),by repeat (first | exact Drawn0.refl _ | apply Drawn0.step)⟩
set_option maxHeartbeats 1600000 in
set_option maxRecDepth 100000 in
theorem dec3s2 (ad:Addr) (c0:Nat) (c:Int) (w:World) (hcap:2 ≤ c0) (x0:w.cell? ad = some (.int .u8 c)) (b1:0 ≤ c) (b2:c < 256) (hn:c / 16 = 14) :
    Calls Tryz.prog 143 #[.slice (some ad) 2 c0] w fun e w'=>e = .returned (.tuple #[.int .i32 (-1),.int .i64 0]) ∧ Drawn0 w w':=by
  have hl:char_lead.f c = some (3,c % 16,2048):=by
   unfold char_lead.f
   rw [if_neg (by omega),if_neg (by omega),if_pos hn,u8_and15 _ b1 b2]
   simp [wrap32];omega
  have HL:=Aside0.mk hl
  clear hl hn
  go_enter Tryz.func143,Tryz.ntmps143
  go_wp2_with (go_at_call 193;(with_reducible refine (char_lead.calls _ _ _ _ _ HL.out).mono ?_);rintro e w' ⟨rfl,⟨nd,rfl⟩⟩)
  go_ret2
  exact ⟨by first | rfl | (simp;done) | (simp [*];done),by repeat (first | exact Drawn0.refl _ | apply Drawn0.step)⟩
set_option maxHeartbeats 1600000 in
set_option maxRecDepth 100000 in
theorem dec3b1 (ad:Addr) (c0 m:Nat) (c a:Int) (w:World) (hcap:m + 3 ≤ c0) (x0:w.cell? ad = some (.int .u8 c)) (x1:w.cell? ⟨ad.block,ad.off + 1,none⟩ = some (.int .u8 a)) (b1:0 ≤ c) (b2:c < 256) (b3:0 ≤ a) (b4:a < 256) (hn:c / 16 = 14) (g1:(a / 64 != 2) = true) :
    Calls Tryz.prog 143 #[.slice (some ad) (m + 3) c0] w fun e w'=>e = .returned (.tuple #[.int .i32 (-1),.int .i64 0]) ∧ Drawn0 w w':=by
  have hl:char_lead.f c = some (3,c % 16,2048):=by
   unfold char_lead.f
   rw [if_neg (by omega),if_neg (by omega),if_pos hn,u8_and15 _ b1 b2]
   simp [wrap32];omega
  have HL:=Aside0.mk hl
  clear hl
  clear hn
  have h0:((m:Int) + 3 == 0) = false:=by rw [beq_eq_false_iff_ne];omega
  go_enter Tryz.func143,Tryz.ntmps143
  go_wp2_with (first | (go_at_call 193;(with_reducible refine (char_lead.calls _ _ _ _ _ HL.out).mono ?_);rintro e w' ⟨rfl,⟨nd,rfl⟩⟩))
  refine wp_loop_rounds 1 ?_
  rw [rounds_succ]
  go_wp2_with (first | (go_at_call 193;(with_reducible refine (char_lead.calls _ _ _ _ _ HL.out).mono ?_);rintro e w' ⟨rfl,⟨nd,rfl⟩⟩))
  go_ret2
  exact ⟨by first | rfl | (simp;done) | (simp [*];done),by repeat (first | exact Drawn0.refl _ | apply Drawn0.step)⟩
set_option maxHeartbeats 1600000 in
set_option maxRecDepth 100000 in
theorem dec3b2 (ad:Addr) (c0 m:Nat) (c a b:Int) (w:World) (hcap:m + 3 ≤ c0) (x0:w.cell? ad = some (.int .u8 c)) (x1:w.cell? ⟨ad.block,ad.off + 1,none⟩ = some (.int .u8 a)) (x2:w.cell? ⟨ad.block,ad.off + 1 + 1,none⟩ = some (.int .u8 b)) (b1:0 ≤ c) (b2:c < 256) (b3:0 ≤ a) (b4:a < 256) (b5:0 ≤ b) (b6:b < 256) (hn:c / 16 = 14) (g1:(a / 64 != 2) = false) (g2:(b / 64 != 2) = true) :
    Calls Tryz.prog 143 #[.slice (some ad) (m + 3) c0] w fun e w'=>e = .returned (.tuple #[.int .i32 (-1),.int .i64 0]) ∧ Drawn0 w w':=by
  have hl:char_lead.f c = some (3,c % 16,2048):=by
   unfold char_lead.f
   rw [if_neg (by omega),if_neg (by omega),if_pos hn,u8_and15 _ b1 b2]
   simp [wrap32];omega
  have HL:=Aside0.mk hl
  clear hl
  clear hn
  have h0:((m:Int) + 3 == 0) = false:=by rw [beq_eq_false_iff_ne];omega
  go_enter Tryz.func143,Tryz.ntmps143
  go_wp2_with (first | (go_at_call 193;(with_reducible refine (char_lead.calls _ _ _ _ _ HL.out).mono ?_);rintro e w' ⟨rfl,⟨nd,rfl⟩⟩))
  refine wp_loop_rounds 2 ?_
  rw [rounds_succ]
  go_wp2_with (first | (go_at_call 193;(with_reducible refine (char_lead.calls _ _ _ _ _ HL.out).mono ?_);rintro e w' ⟨rfl,⟨nd,rfl⟩⟩))
  rw [rounds_succ]
  go_wp2_with (first | (go_at_call 193;(with_reducible refine (char_lead.calls _ _ _ _ _ HL.out).mono ?_);rintro e w' ⟨rfl,⟨nd,rfl⟩⟩))
  go_ret2
  exact ⟨by first | rfl | (simp;done) | (simp [*];done),by repeat (first | exact Drawn0.refl _ | apply Drawn0.step)⟩
set_option maxHeartbeats 1600000 in
set_option maxRecDepth 100000 in
theorem dec3low (ad:Addr) (c0 m:Nat) (c a b:Int) (w:World) (hcap:m + 3 ≤ c0) (x0:w.cell? ad = some (.int .u8 c)) (x1:w.cell? ⟨ad.block,ad.off + 1,none⟩ = some (.int .u8 a)) (x2:w.cell? ⟨ad.block,ad.off + 1 + 1,none⟩ = some (.int .u8 b)) (b1:0 ≤ c) (b2:c < 256) (b3:0 ≤ a) (b4:a < 256) (b5:0 ≤ b) (b6:b < 256) (hn:c / 16 = 14) (g1:(a / 64 != 2) = false) (g2:(b / 64 != 2) = false) (hr:(c % 16 * 64 + a % 64) * 64 + b % 64 < 2048) :
    Calls Tryz.prog 143 #[.slice (some ad) (m + 3) c0] w fun e w'=>e = .returned (.tuple #[.int .i32 (-1),.int .i64 0]) ∧ Drawn0 w w':=by
  have hl:char_lead.f c = some (3,c % 16,2048):=by
   unfold char_lead.f
   rw [if_neg (by omega),if_neg (by omega),if_pos hn,u8_and15 _ b1 b2]
   simp [wrap32];omega
  have HL:=Aside0.mk hl
  clear hl
  clear hn
  have h0:((m:Int) + 3 == 0) = false:=by rw [beq_eq_false_iff_ne];omega
  go_enter Tryz.func143,Tryz.ntmps143
  go_wp2_with (first | (go_at_call 193;(with_reducible refine (char_lead.calls _ _ _ _ _ HL.out).mono ?_);rintro e w' ⟨rfl,⟨nd,rfl⟩⟩))
  refine wp_loop_rounds 3 ?_
  rw [rounds_succ]
  go_wp2_with (first | (go_at_call 193;(with_reducible refine (char_lead.calls _ _ _ _ _ HL.out).mono ?_);rintro e w' ⟨rfl,⟨nd,rfl⟩⟩))
  rw [rounds_succ]
  go_wp2_with (first | (go_at_call 193;(with_reducible refine (char_lead.calls _ _ _ _ _ HL.out).mono ?_);rintro e w' ⟨rfl,⟨nd,rfl⟩⟩))
  rw [rounds_succ]
  go_wp2_with (first | (go_at_call 193;(with_reducible refine (char_lead.calls _ _ _ _ _ HL.out).mono ?_);rintro e w' ⟨rfl,⟨nd,rfl⟩⟩))
  go_ret2
  exact ⟨by first | rfl | (simp;done) | (simp [*];done),by repeat (first | exact Drawn0.refl _ | apply Drawn0.step)⟩
set_option maxHeartbeats 1600000 in
set_option maxRecDepth 100000 in
theorem dec3no (ad:Addr) (c0 m:Nat) (c a b:Int) (w:World) (hcap:m + 3 ≤ c0) (x0:w.cell? ad = some (.int .u8 c)) (x1:w.cell? ⟨ad.block,ad.off + 1,none⟩ = some (.int .u8 a)) (x2:w.cell? ⟨ad.block,ad.off + 1 + 1,none⟩ = some (.int .u8 b)) (b1:0 ≤ c) (b2:c < 256) (b3:0 ≤ a) (b4:a < 256) (b5:0 ≤ b) (b6:b < 256) (hn:c / 16 = 14) (g1:(a / 64 != 2) = false) (g2:(b / 64 != 2) = false) (hr:¬ (c % 16 * 64 + a % 64) * 64 + b % 64 < 2048) (hs:55296 ≤ (c % 16 * 64 + a % 64) * 64 + b % 64 ∧ (c % 16 * 64 + a % 64) * 64 + b % 64 ≤ 57343) :
    Calls Tryz.prog 143 #[.slice (some ad) (m + 3) c0] w fun e w'=>e = .returned (.tuple #[.int .i32 (-1),.int .i64 0]) ∧ Drawn0 w w':=by
  have hl:char_lead.f c = some (3,c % 16,2048):=by
   unfold char_lead.f
   rw [if_neg (by omega),if_neg (by omega),if_pos hn,u8_and15 _ b1 b2]
   simp [wrap32];omega
  have HL:=Aside0.mk hl
  clear hl
  have HM:Aside0 (char_may.f ((c % 16 * 64 + a % 64) * 64 + b % 64) = some false):=⟨by unfold char_may.f;rw [if_pos (by omega),if_pos (by omega),if_neg (by omega)];simp;omega⟩
  clear hn hs
  have h0:((m:Int) + 3 == 0) = false:=by rw [beq_eq_false_iff_ne];omega
  go_enter Tryz.func143,Tryz.ntmps143
  go_wp2_with (first | (go_at_call 193;(with_reducible refine (char_lead.calls _ _ _ _ _ HL.out).mono ?_);rintro e w' ⟨rfl,⟨nd,rfl⟩⟩) | (go_at_call 194;(with_reducible refine (char_may.calls _ false _ HM.out).mono ?_);rintro e w' ⟨rfl,⟨nd2,rfl⟩⟩))
  refine wp_loop_rounds 3 ?_
  rw [rounds_succ]
  go_wp2_with (first | (go_at_call 193;(with_reducible refine (char_lead.calls _ _ _ _ _ HL.out).mono ?_);rintro e w' ⟨rfl,⟨nd,rfl⟩⟩) | (go_at_call 194;(with_reducible refine (char_may.calls _ false _ HM.out).mono ?_);rintro e w' ⟨rfl,⟨nd2,rfl⟩⟩))
  rw [rounds_succ]
  go_wp2_with (first | (go_at_call 193;(with_reducible refine (char_lead.calls _ _ _ _ _ HL.out).mono ?_);rintro e w' ⟨rfl,⟨nd,rfl⟩⟩) | (go_at_call 194;(with_reducible refine (char_may.calls _ false _ HM.out).mono ?_);rintro e w' ⟨rfl,⟨nd2,rfl⟩⟩))
  rw [rounds_succ]
  go_wp2_with (first | (go_at_call 193;(with_reducible refine (char_lead.calls _ _ _ _ _ HL.out).mono ?_);rintro e w' ⟨rfl,⟨nd,rfl⟩⟩) | (go_at_call 194;(with_reducible refine (char_may.calls _ false _ HM.out).mono ?_);rintro e w' ⟨rfl,⟨nd2,rfl⟩⟩))
  go_ret2
  exact ⟨by first | rfl | (simp;done) | (simp [*];done),by repeat (first | exact Drawn0.refl _ | apply Drawn0.step)⟩
set_option maxHeartbeats 1600000 in
set_option maxRecDepth 100000 in
theorem dec3ok (ad:Addr) (c0 m:Nat) (c a b:Int) (w:World) (hcap:m + 3 ≤ c0) (x0:w.cell? ad = some (.int .u8 c)) (x1:w.cell? ⟨ad.block,ad.off + 1,none⟩ = some (.int .u8 a)) (x2:w.cell? ⟨ad.block,ad.off + 1 + 1,none⟩ = some (.int .u8 b)) (b1:0 ≤ c) (b2:c < 256) (b3:0 ≤ a) (b4:a < 256) (b5:0 ≤ b) (b6:b < 256) (hn:c / 16 = 14) (g1:(a / 64 != 2) = false) (g2:(b / 64 != 2) = false) (hr:¬ (c % 16 * 64 + a % 64) * 64 + b % 64 < 2048) (hs:¬ (55296 ≤ (c % 16 * 64 + a % 64) * 64 + b % 64 ∧ (c % 16 * 64 + a % 64) * 64 + b % 64 ≤ 57343)) :
    Calls Tryz.prog 143 #[.slice (some ad) (m + 3) c0] w fun e w'=>e = .returned (.tuple #[.int .i32 ((c % 16 * 64 + a % 64) * 64 + b % 64),.int .i64 3]) ∧ Drawn0 w w':=by
  have hl:char_lead.f c = some (3,c % 16,2048):=by
   unfold char_lead.f
   rw [if_neg (by omega),if_neg (by omega),if_pos hn,u8_and15 _ b1 b2]
   simp [wrap32];omega
  have HL:=Aside0.mk hl
  clear hl
  have HM:Aside0 (char_may.f ((c % 16 * 64 + a % 64) * 64 + b % 64) = some true):=⟨by
   unfold char_may.f
   rw [if_pos (by omega),if_pos (by omega)]
   split
   · rfl
   · simp;omega⟩
  clear hn hs
  have h0:((m:Int) + 3 == 0) = false:=by rw [beq_eq_false_iff_ne];omega
  go_enter Tryz.func143,Tryz.ntmps143
  go_wp2_with (first | (go_at_call 193;(with_reducible refine (char_lead.calls _ _ _ _ _ HL.out).mono ?_);rintro e w' ⟨rfl,⟨nd,rfl⟩⟩) | (go_at_call 194;(with_reducible refine (char_may.calls _ true _ HM.out).mono ?_);rintro e w' ⟨rfl,⟨nd2,rfl⟩⟩))
  refine wp_loop_rounds 3 ?_
  rw [rounds_succ]
  go_wp2_with (first | (go_at_call 193;(with_reducible refine (char_lead.calls _ _ _ _ _ HL.out).mono ?_);rintro e w' ⟨rfl,⟨nd,rfl⟩⟩) | (go_at_call 194;(with_reducible refine (char_may.calls _ true _ HM.out).mono ?_);rintro e w' ⟨rfl,⟨nd2,rfl⟩⟩))
  rw [rounds_succ]
  go_wp2_with (first | (go_at_call 193;(with_reducible refine (char_lead.calls _ _ _ _ _ HL.out).mono ?_);rintro e w' ⟨rfl,⟨nd,rfl⟩⟩) | (go_at_call 194;(with_reducible refine (char_may.calls _ true _ HM.out).mono ?_);rintro e w' ⟨rfl,⟨nd2,rfl⟩⟩))
  rw [rounds_succ]
  go_wp2_with (first | (go_at_call 193;(with_reducible refine (char_lead.calls _ _ _ _ _ HL.out).mono ?_);rintro e w' ⟨rfl,⟨nd,rfl⟩⟩) | (go_at_call 194;(with_reducible refine (char_may.calls _ true _ HM.out).mono ?_);rintro e w' ⟨rfl,⟨nd2,rfl⟩⟩))
  go_ret2
  exact ⟨by first | rfl | (simp;done) | (simp [*];done),by repeat (first | exact Drawn0.refl _ | apply Drawn0.step)⟩
set_option maxHeartbeats 1600000 in
set_option maxRecDepth 100000 in
theorem dec4s1 (ad:Addr) (c0:Nat) (c:Int) (w:World) (hcap:1 ≤ c0) (x0:w.cell? ad = some (.int .u8 c)) (b1:0 ≤ c) (b2:c < 256) (hn:c / 8 = 30) :
    Calls Tryz.prog 143 #[.slice (some ad) 1 c0] w fun e w'=>e = .returned (.tuple #[.int .i32 (-1),.int .i64 0]) ∧ Drawn0 w w':=by
  have hl:char_lead.f c = some (4,c % 8,65536):=by
   unfold char_lead.f
   rw [if_neg (by omega),if_neg (by omega),if_neg (by omega),if_pos hn,u8_and7 _ b1 b2]
   simp [wrap32];omega
  have HL:=Aside0.mk hl
  clear hl hn
  go_enter Tryz.func143,Tryz.ntmps143
  go_wp2_with (go_at_call 193;(with_reducible refine (char_lead.calls _ _ _ _ _ HL.out).mono ?_);rintro e w' ⟨rfl,⟨nd,rfl⟩⟩)
  go_ret2
  exact ⟨by first | rfl | (simp;done) | (simp [*];done),by repeat (first | exact Drawn0.refl _ | apply Drawn0.step)⟩
set_option maxHeartbeats 1600000 in
set_option maxRecDepth 100000 in
theorem dec4s2 (ad:Addr) (c0:Nat) (c:Int) (w:World) (hcap:2 ≤ c0) (x0:w.cell? ad = some (.int .u8 c)) (b1:0 ≤ c) (b2:c < 256) (hn:c / 8 = 30) :
    Calls Tryz.prog 143 #[.slice (some ad) 2 c0] w fun e w'=>e = .returned (.tuple #[.int .i32 (-1),.int .i64 0]) ∧ Drawn0 w w':=by
  have hl:char_lead.f c = some (4,c % 8,65536):=by
   unfold char_lead.f
   rw [if_neg (by omega),if_neg (by omega),if_neg (by omega),if_pos hn,u8_and7 _ b1 b2]
   simp [wrap32];omega
  have HL:=Aside0.mk hl
  clear hl hn
  go_enter Tryz.func143,Tryz.ntmps143
  go_wp2_with (go_at_call 193;(with_reducible refine (char_lead.calls _ _ _ _ _ HL.out).mono ?_);rintro e w' ⟨rfl,⟨nd,rfl⟩⟩)
  go_ret2
  exact ⟨by first | rfl | (simp;done) | (simp [*];done),by repeat (first | exact Drawn0.refl _ | apply Drawn0.step)⟩
set_option maxHeartbeats 1600000 in
set_option maxRecDepth 100000 in
theorem dec4s3 (ad:Addr) (c0:Nat) (c:Int) (w:World) (hcap:3 ≤ c0) (x0:w.cell? ad = some (.int .u8 c)) (b1:0 ≤ c) (b2:c < 256) (hn:c / 8 = 30) :
    Calls Tryz.prog 143 #[.slice (some ad) 3 c0] w fun e w'=>e = .returned (.tuple #[.int .i32 (-1),.int .i64 0]) ∧ Drawn0 w w':=by
  have hl:char_lead.f c = some (4,c % 8,65536):=by
   unfold char_lead.f
   rw [if_neg (by omega),if_neg (by omega),if_neg (by omega),if_pos hn,u8_and7 _ b1 b2]
   simp [wrap32];omega
  have HL:=Aside0.mk hl
  clear hl hn
  go_enter Tryz.func143,Tryz.ntmps143
  go_wp2_with (go_at_call 193;(with_reducible refine (char_lead.calls _ _ _ _ _ HL.out).mono ?_);rintro e w' ⟨rfl,⟨nd,rfl⟩⟩)
  go_ret2
  exact ⟨by first | rfl | (simp;done) | (simp [*];done),by repeat (first | exact Drawn0.refl _ | apply Drawn0.step)⟩
set_option maxHeartbeats 1600000 in
set_option maxRecDepth 100000 in
theorem dec4b1 (ad:Addr) (c0 m:Nat) (c a:Int) (w:World) (hcap:m + 4 ≤ c0) (x0:w.cell? ad = some (.int .u8 c)) (x1:w.cell? ⟨ad.block,ad.off + 1,none⟩ = some (.int .u8 a)) (b1:0 ≤ c) (b2:c < 256) (b3:0 ≤ a) (b4:a < 256) (hn:c / 8 = 30) (g1:(a / 64 != 2) = true) :
    Calls Tryz.prog 143 #[.slice (some ad) (m + 4) c0] w fun e w'=>e = .returned (.tuple #[.int .i32 (-1),.int .i64 0]) ∧ Drawn0 w w':=by
  have hl:char_lead.f c = some (4,c % 8,65536):=by
   unfold char_lead.f
   rw [if_neg (by omega),if_neg (by omega),if_neg (by omega),if_pos hn,u8_and7 _ b1 b2]
   simp [wrap32];omega
  have HL:=Aside0.mk hl
  clear hl
  clear hn
  have h0:((m:Int) + 4 == 0) = false:=by rw [beq_eq_false_iff_ne];omega
  go_enter Tryz.func143,Tryz.ntmps143
  go_wp2_with (first | (go_at_call 193;(with_reducible refine (char_lead.calls _ _ _ _ _ HL.out).mono ?_);rintro e w' ⟨rfl,⟨nd,rfl⟩⟩))
  refine wp_loop_rounds 1 ?_
  rw [rounds_succ]
  go_wp2_with (first | (go_at_call 193;(with_reducible refine (char_lead.calls _ _ _ _ _ HL.out).mono ?_);rintro e w' ⟨rfl,⟨nd,rfl⟩⟩))
  go_ret2
  exact ⟨by first | rfl | (simp;done) | (simp [*];done),by repeat (first | exact Drawn0.refl _ | apply Drawn0.step)⟩
set_option maxHeartbeats 1600000 in
set_option maxRecDepth 100000 in
theorem dec4b2 (ad:Addr) (c0 m:Nat) (c a b:Int) (w:World) (hcap:m + 4 ≤ c0) (x0:w.cell? ad = some (.int .u8 c)) (x1:w.cell? ⟨ad.block,ad.off + 1,none⟩ = some (.int .u8 a)) (x2:w.cell? ⟨ad.block,ad.off + 1 + 1,none⟩ = some (.int .u8 b)) (b1:0 ≤ c) (b2:c < 256) (b3:0 ≤ a) (b4:a < 256) (b5:0 ≤ b) (b6:b < 256) (hn:c / 8 = 30) (g1:(a / 64 != 2) = false) (g2:(b / 64 != 2) = true) :
    Calls Tryz.prog 143 #[.slice (some ad) (m + 4) c0] w fun e w'=>e = .returned (.tuple #[.int .i32 (-1),.int .i64 0]) ∧ Drawn0 w w':=by
  have hl:char_lead.f c = some (4,c % 8,65536):=by
   unfold char_lead.f
   rw [if_neg (by omega),if_neg (by omega),if_neg (by omega),if_pos hn,u8_and7 _ b1 b2]
   simp [wrap32];omega
  have HL:=Aside0.mk hl
  clear hl
  clear hn
  have h0:((m:Int) + 4 == 0) = false:=by rw [beq_eq_false_iff_ne];omega
  go_enter Tryz.func143,Tryz.ntmps143
  go_wp2_with (first | (go_at_call 193;(with_reducible refine (char_lead.calls _ _ _ _ _ HL.out).mono ?_);rintro e w' ⟨rfl,⟨nd,rfl⟩⟩))
  refine wp_loop_rounds 2 ?_
  rw [rounds_succ]
  go_wp2_with (first | (go_at_call 193;(with_reducible refine (char_lead.calls _ _ _ _ _ HL.out).mono ?_);rintro e w' ⟨rfl,⟨nd,rfl⟩⟩))
  rw [rounds_succ]
  go_wp2_with (first | (go_at_call 193;(with_reducible refine (char_lead.calls _ _ _ _ _ HL.out).mono ?_);rintro e w' ⟨rfl,⟨nd,rfl⟩⟩))
  go_ret2
  exact ⟨by first | rfl | (simp;done) | (simp [*];done),by repeat (first | exact Drawn0.refl _ | apply Drawn0.step)⟩
set_option maxHeartbeats 1600000 in
set_option maxRecDepth 100000 in
theorem dec4b3 (ad:Addr) (c0 m:Nat) (c a b d:Int) (w:World) (hcap:m + 4 ≤ c0) (x0:w.cell? ad = some (.int .u8 c)) (x1:w.cell? ⟨ad.block,ad.off + 1,none⟩ = some (.int .u8 a)) (x2:w.cell? ⟨ad.block,ad.off + 1 + 1,none⟩ = some (.int .u8 b)) (x3:w.cell? ⟨ad.block,ad.off + 1 + 1 + 1,none⟩ = some (.int .u8 d)) (b1:0 ≤ c) (b2:c < 256) (b3:0 ≤ a) (b4:a < 256) (b5:0 ≤ b) (b6:b < 256) (b7:0 ≤ d) (b8:d < 256) (hn:c / 8 = 30) (g1:(a / 64 != 2) = false) (g2:(b / 64 != 2) = false) (g3:(d / 64 != 2) = true) :
    Calls Tryz.prog 143 #[.slice (some ad) (m + 4) c0] w fun e w'=>e = .returned (.tuple #[.int .i32 (-1),.int .i64 0]) ∧ Drawn0 w w':=by
  have hl:char_lead.f c = some (4,c % 8,65536):=by
   unfold char_lead.f
   rw [if_neg (by omega),if_neg (by omega),if_neg (by omega),if_pos hn,u8_and7 _ b1 b2]
   simp [wrap32];omega
  have HL:=Aside0.mk hl
  clear hl
  clear hn
  have h0:((m:Int) + 4 == 0) = false:=by rw [beq_eq_false_iff_ne];omega
  go_enter Tryz.func143,Tryz.ntmps143
  go_wp2_with (first | (go_at_call 193;(with_reducible refine (char_lead.calls _ _ _ _ _ HL.out).mono ?_);rintro e w' ⟨rfl,⟨nd,rfl⟩⟩))
  refine wp_loop_rounds 3 ?_
  rw [rounds_succ]
  go_wp2_with (first | (go_at_call 193;(with_reducible refine (char_lead.calls _ _ _ _ _ HL.out).mono ?_);rintro e w' ⟨rfl,⟨nd,rfl⟩⟩))
  rw [rounds_succ]
  go_wp2_with (first | (go_at_call 193;(with_reducible refine (char_lead.calls _ _ _ _ _ HL.out).mono ?_);rintro e w' ⟨rfl,⟨nd,rfl⟩⟩))
  rw [rounds_succ]
  go_wp2_with (first | (go_at_call 193;(with_reducible refine (char_lead.calls _ _ _ _ _ HL.out).mono ?_);rintro e w' ⟨rfl,⟨nd,rfl⟩⟩))
  go_ret2
  exact ⟨by first | rfl | (simp;done) | (simp [*];done),by repeat (first | exact Drawn0.refl _ | apply Drawn0.step)⟩
set_option maxHeartbeats 1600000 in
set_option maxRecDepth 100000 in
theorem dec4low (ad:Addr) (c0 m:Nat) (c a b d:Int) (w:World) (hcap:m + 4 ≤ c0) (x0:w.cell? ad = some (.int .u8 c)) (x1:w.cell? ⟨ad.block,ad.off + 1,none⟩ = some (.int .u8 a)) (x2:w.cell? ⟨ad.block,ad.off + 1 + 1,none⟩ = some (.int .u8 b)) (x3:w.cell? ⟨ad.block,ad.off + 1 + 1 + 1,none⟩ = some (.int .u8 d)) (b1:0 ≤ c) (b2:c < 256) (b3:0 ≤ a) (b4:a < 256) (b5:0 ≤ b) (b6:b < 256) (b7:0 ≤ d) (b8:d < 256) (hn:c / 8 = 30) (g1:(a / 64 != 2) = false) (g2:(b / 64 != 2) = false) (g3:(d / 64 != 2) = false) (hr:((c % 8 * 64 + a % 64) * 64 + b % 64) * 64 + d % 64 < 65536) :
    Calls Tryz.prog 143 #[.slice (some ad) (m + 4) c0] w fun e w'=>e = .returned (.tuple #[.int .i32 (-1),.int .i64 0]) ∧ Drawn0 w w':=by
  have hl:char_lead.f c = some (4,c % 8,65536):=by
   unfold char_lead.f
   rw [if_neg (by omega),if_neg (by omega),if_neg (by omega),if_pos hn,u8_and7 _ b1 b2]
   simp [wrap32];omega
  have HL:=Aside0.mk hl
  clear hl
  clear hn
  have h0:((m:Int) + 4 == 0) = false:=by rw [beq_eq_false_iff_ne];omega
  go_enter Tryz.func143,Tryz.ntmps143
  go_wp2_with (first | (go_at_call 193;(with_reducible refine (char_lead.calls _ _ _ _ _ HL.out).mono ?_);rintro e w' ⟨rfl,⟨nd,rfl⟩⟩))
  refine wp_loop_rounds 4 ?_
  rw [rounds_succ]
  go_wp2_with (first | (go_at_call 193;(with_reducible refine (char_lead.calls _ _ _ _ _ HL.out).mono ?_);rintro e w' ⟨rfl,⟨nd,rfl⟩⟩))
  rw [rounds_succ]
  go_wp2_with (first | (go_at_call 193;(with_reducible refine (char_lead.calls _ _ _ _ _ HL.out).mono ?_);rintro e w' ⟨rfl,⟨nd,rfl⟩⟩))
  rw [rounds_succ]
  go_wp2_with (first | (go_at_call 193;(with_reducible refine (char_lead.calls _ _ _ _ _ HL.out).mono ?_);rintro e w' ⟨rfl,⟨nd,rfl⟩⟩))
  rw [rounds_succ]
  go_wp2_with (first | (go_at_call 193;(with_reducible refine (char_lead.calls _ _ _ _ _ HL.out).mono ?_);rintro e w' ⟨rfl,⟨nd,rfl⟩⟩))
  go_ret2
  exact ⟨by first | rfl | (simp;done) | (simp [*];done),by repeat (first | exact Drawn0.refl _ | apply Drawn0.step)⟩
set_option maxHeartbeats 1600000 in
set_option maxRecDepth 100000 in
theorem dec4no (ad:Addr) (c0 m:Nat) (c a b d:Int) (w:World) (hcap:m + 4 ≤ c0) (x0:w.cell? ad = some (.int .u8 c)) (x1:w.cell? ⟨ad.block,ad.off + 1,none⟩ = some (.int .u8 a)) (x2:w.cell? ⟨ad.block,ad.off + 1 + 1,none⟩ = some (.int .u8 b)) (x3:w.cell? ⟨ad.block,ad.off + 1 + 1 + 1,none⟩ = some (.int .u8 d)) (b1:0 ≤ c) (b2:c < 256) (b3:0 ≤ a) (b4:a < 256) (b5:0 ≤ b) (b6:b < 256) (b7:0 ≤ d) (b8:d < 256) (hn:c / 8 = 30) (g1:(a / 64 != 2) = false) (g2:(b / 64 != 2) = false) (g3:(d / 64 != 2) = false) (hr:¬ ((c % 8 * 64 + a % 64) * 64 + b % 64) * 64 + d % 64 < 65536) (hs:1114111 < ((c % 8 * 64 + a % 64) * 64 + b % 64) * 64 + d % 64) :
    Calls Tryz.prog 143 #[.slice (some ad) (m + 4) c0] w fun e w'=>e = .returned (.tuple #[.int .i32 (-1),.int .i64 0]) ∧ Drawn0 w w':=by
  have hl:char_lead.f c = some (4,c % 8,65536):=by
   unfold char_lead.f
   rw [if_neg (by omega),if_neg (by omega),if_neg (by omega),if_pos hn,u8_and7 _ b1 b2]
   simp [wrap32];omega
  have HL:=Aside0.mk hl
  clear hl
  have HM:Aside0 (char_may.f (((c % 8 * 64 + a % 64) * 64 + b % 64) * 64 + d % 64) = some false):=⟨by unfold char_may.f;rw [if_pos (by omega),if_neg (by omega)]⟩
  clear hn hs
  have h0:((m:Int) + 4 == 0) = false:=by rw [beq_eq_false_iff_ne];omega
  go_enter Tryz.func143,Tryz.ntmps143
  go_wp2_with (first | (go_at_call 193;(with_reducible refine (char_lead.calls _ _ _ _ _ HL.out).mono ?_);rintro e w' ⟨rfl,⟨nd,rfl⟩⟩) | (go_at_call 194;(with_reducible refine (char_may.calls _ false _ HM.out).mono ?_);rintro e w' ⟨rfl,⟨nd2,rfl⟩⟩))
  refine wp_loop_rounds 4 ?_
  rw [rounds_succ]
  go_wp2_with (first | (go_at_call 193;(with_reducible refine (char_lead.calls _ _ _ _ _ HL.out).mono ?_);rintro e w' ⟨rfl,⟨nd,rfl⟩⟩) | (go_at_call 194;(with_reducible refine (char_may.calls _ false _ HM.out).mono ?_);rintro e w' ⟨rfl,⟨nd2,rfl⟩⟩))
  rw [rounds_succ]
  go_wp2_with (first | (go_at_call 193;(with_reducible refine (char_lead.calls _ _ _ _ _ HL.out).mono ?_);rintro e w' ⟨rfl,⟨nd,rfl⟩⟩) | (go_at_call 194;(with_reducible refine (char_may.calls _ false _ HM.out).mono ?_);rintro e w' ⟨rfl,⟨nd2,rfl⟩⟩))
  rw [rounds_succ]
  go_wp2_with (first | (go_at_call 193;(with_reducible refine (char_lead.calls _ _ _ _ _ HL.out).mono ?_);rintro e w' ⟨rfl,⟨nd,rfl⟩⟩) | (go_at_call 194;(with_reducible refine (char_may.calls _ false _ HM.out).mono ?_);rintro e w' ⟨rfl,⟨nd2,rfl⟩⟩))
  rw [rounds_succ]
  go_wp2_with (first | (go_at_call 193;(with_reducible refine (char_lead.calls _ _ _ _ _ HL.out).mono ?_);rintro e w' ⟨rfl,⟨nd,rfl⟩⟩) | (go_at_call 194;(with_reducible refine (char_may.calls _ false _ HM.out).mono ?_);rintro e w' ⟨rfl,⟨nd2,rfl⟩⟩))
  go_ret2
  exact ⟨by first | rfl | (simp;done) | (simp [*];done),by repeat (first | exact Drawn0.refl _ | apply Drawn0.step)⟩
set_option maxHeartbeats 1600000 in
set_option maxRecDepth 100000 in
theorem dec4ok (ad:Addr) (c0 m:Nat) (c a b d:Int) (w:World) (hcap:m + 4 ≤ c0) (x0:w.cell? ad = some (.int .u8 c)) (x1:w.cell? ⟨ad.block,ad.off + 1,none⟩ = some (.int .u8 a)) (x2:w.cell? ⟨ad.block,ad.off + 1 + 1,none⟩ = some (.int .u8 b)) (x3:w.cell? ⟨ad.block,ad.off + 1 + 1 + 1,none⟩ = some (.int .u8 d)) (b1:0 ≤ c) (b2:c < 256) (b3:0 ≤ a) (b4:a < 256) (b5:0 ≤ b) (b6:b < 256) (b7:0 ≤ d) (b8:d < 256) (hn:c / 8 = 30) (g1:(a / 64 != 2) = false) (g2:(b / 64 != 2) = false) (g3:(d / 64 != 2) = false) (hr:¬ ((c % 8 * 64 + a % 64) * 64 + b % 64) * 64 + d % 64 < 65536) (hs:¬ 1114111 < ((c % 8 * 64 + a % 64) * 64 + b % 64) * 64 + d % 64) :
    Calls Tryz.prog 143 #[.slice (some ad) (m + 4) c0] w fun e w'=>e = .returned (.tuple #[.int .i32 (((c % 8 * 64 + a % 64) * 64 + b % 64) * 64 + d % 64),.int .i64 4]) ∧ Drawn0 w w':=by
  have hl:char_lead.f c = some (4,c % 8,65536):=by
   unfold char_lead.f
   rw [if_neg (by omega),if_neg (by omega),if_neg (by omega),if_pos hn,u8_and7 _ b1 b2]
   simp [wrap32];omega
  have HL:=Aside0.mk hl
  clear hl
  have HM:Aside0 (char_may.f (((c % 8 * 64 + a % 64) * 64 + b % 64) * 64 + d % 64) = some true):=⟨by unfold char_may.f;rw [if_pos (by omega),if_pos (by omega),if_neg (by omega)];simp;omega⟩
  clear hn hs
  have h0:((m:Int) + 4 == 0) = false:=by rw [beq_eq_false_iff_ne];omega
  go_enter Tryz.func143,Tryz.ntmps143
  go_wp2_with (first | (go_at_call 193;(with_reducible refine (char_lead.calls _ _ _ _ _ HL.out).mono ?_);rintro e w' ⟨rfl,⟨nd,rfl⟩⟩) | (go_at_call 194;(with_reducible refine (char_may.calls _ true _ HM.out).mono ?_);rintro e w' ⟨rfl,⟨nd2,rfl⟩⟩))
  refine wp_loop_rounds 4 ?_
  rw [rounds_succ]
  go_wp2_with (first | (go_at_call 193;(with_reducible refine (char_lead.calls _ _ _ _ _ HL.out).mono ?_);rintro e w' ⟨rfl,⟨nd,rfl⟩⟩) | (go_at_call 194;(with_reducible refine (char_may.calls _ true _ HM.out).mono ?_);rintro e w' ⟨rfl,⟨nd2,rfl⟩⟩))
  rw [rounds_succ]
  go_wp2_with (first | (go_at_call 193;(with_reducible refine (char_lead.calls _ _ _ _ _ HL.out).mono ?_);rintro e w' ⟨rfl,⟨nd,rfl⟩⟩) | (go_at_call 194;(with_reducible refine (char_may.calls _ true _ HM.out).mono ?_);rintro e w' ⟨rfl,⟨nd2,rfl⟩⟩))
  rw [rounds_succ]
  go_wp2_with (first | (go_at_call 193;(with_reducible refine (char_lead.calls _ _ _ _ _ HL.out).mono ?_);rintro e w' ⟨rfl,⟨nd,rfl⟩⟩) | (go_at_call 194;(with_reducible refine (char_may.calls _ true _ HM.out).mono ?_);rintro e w' ⟨rfl,⟨nd2,rfl⟩⟩))
  rw [rounds_succ]
  go_wp2_with (first | (go_at_call 193;(with_reducible refine (char_lead.calls _ _ _ _ _ HL.out).mono ?_);rintro e w' ⟨rfl,⟨nd,rfl⟩⟩) | (go_at_call 194;(with_reducible refine (char_may.calls _ true _ HM.out).mono ?_);rintro e w' ⟨rfl,⟨nd2,rfl⟩⟩))
  go_ret2
  exact ⟨by first | rfl | (simp;done) | (simp [*];done),by repeat (first | exact Drawn0.refl _ | apply Drawn0.step)⟩
theorem isByte_at {l:List Int} (h:(l.take 4).all isByte = true) (i:Nat) (x:Int) (hi:i < 4) (hx:l[i]? = some x):0 ≤ x ∧ x < 256:=by
 refine isByte_iff (List.all_eq_true.1 h x ?_)
 have h1:(l.take 4)[i]? = some x:=by rw [List.getElem?_take_of_lt hi];exact hx
 exact List.mem_of_getElem? h1
theorem cellD {w:World} {ad:Addr} {n:Nat} {l:List Int} (h:Kd.C (Kd.int .u8) w (some ad) n l) (i:Nat) (x:Int) (hx:l[i]? = some x):w.cell? (ad.add i) = some (.int .u8 x):=by
 have hl:=(List.getElem?_eq_some_iff.1 hx).1
 have hn:n = l.length:=h.1.symm
 obtain ⟨ad',e,hc⟩:=Kd.at_int h (i:Int) (by omega) (by omega)
 cases e
 rw [Int.toNat_natCast] at hc
 rw [hc]
 simp [rd,hx]
theorem cellD1 {w:World} {ad:Addr} {n:Nat} {l:List Int} (h:Kd.C (Kd.int .u8) w (some ad) n l) (i:Nat) (x:Int) (hx:l[i]? = some x) (hi:i ≠ 0):w.cell? ⟨ad.block,ad.off + i,none⟩ = some (.int .u8 x):=by
 rw [← cellD h i x hx]
 unfold Addr.add
 rw [if_neg hi]
theorem ne2_false {x:Int} (h:x / 64 = 2):(x / 64 != 2) = false:=by rw [bne_eq_false_iff_eq];exact h
theorem ne2_true {x:Int} (h:¬ x / 64 = 2):(x / 64 != 2) = true:=by rw [bne_iff_ne];exact h
set_option maxHeartbeats 1600000 in
theorem char_Decode.calls (A0:Option Addr) (c0:Nat) (l0:List Int) (r1:Int) (r2:Int) (w:World) (hr0:Kd.C (Kd.int .u8) w A0 l0.length l0) (hc0:l0.length ≤ c0) (h:char_Decode.f l0 = some (r1,r2)) :
    Calls Tryz.prog 143 #[.slice A0 l0.length c0] w fun e w'=>e = .returned (.tuple #[.int .i32 r1,.int .i64 r2]) ∧ Drawn0 w w':=by
  unfold char_Decode.f at h
  by_cases hb:(l0.take 4).all isByte = true
  rotate_left
  · rw [if_neg hb] at h;exact absurd h (by simp)
  rw [if_pos hb] at h
  have h':=Option.some.inj h
  clear h
  match l0,hr0,hc0,hb,h' with
  | [],hr0,hc0,hb,h'=>
   obtain ⟨rfl,rfl⟩:=Prod.mk.inj h'
   go_enter Tryz.func143,Tryz.ntmps143
   go_wp2
   go_ret2
   exact ⟨by first | rfl | (simp;done) | (simp [*];done),by repeat (first | exact Drawn0.refl _ | apply Drawn0.step)⟩
  | c :: t,hr0,hc0,hb,h'=>
   obtain ⟨ad,rfl,_⟩:=Kd.at_int hr0 0 (by omega) (by simp)
   obtain ⟨bc0,bc1⟩:=isByte_at hb 0 c (by omega) rfl
   have xc:w.cell? ad = some (.int .u8 c):=by have:=cellD hr0 0 c rfl;rwa [Addr.add_zero'] at this
   simp only [decS] at h'
   simp only [List.length_cons] at hc0 ⊢
   by_cases h1:c < 128
   ·rw [if_pos h1] at h'
    obtain ⟨rfl,rfl⟩:=Prod.mk.inj h'
    exact dec1 ad c0 t.length c w hc0 xc bc0 bc1 h1
   rw [if_neg h1] at h'
   by_cases h2:c / 32 = 6
   ·rw [if_pos h2] at h'
    match t,hr0,hc0,hb,h' with
    | [],hr0,hc0,hb,h'=>
     obtain ⟨rfl,rfl⟩:=Prod.mk.inj h'
     exact dec2s1 ad c0 c w hc0 xc bc0 bc1 h2
    | a :: t1,hr0,hc0,hb,h'=>
     obtain ⟨ba0,ba1⟩:=isByte_at hb 1 a (by omega) rfl
     have xa:w.cell? ⟨ad.block,ad.off + 1,none⟩ = some (.int .u8 a):=cellD1 hr0 1 a rfl (by omega)
     simp only [List.length_cons] at hc0 ⊢
     simp only [] at h'
     by_cases g1:a / 64 = 2
     rotate_left
     ·rw [if_neg g1] at h'
      obtain ⟨rfl,rfl⟩:=Prod.mk.inj h'
      exact dec2b1 ad c0 t1.length c a w hc0 xc xa bc0 bc1 ba0 ba1 h2  (ne2_true g1)
     rw [if_pos g1] at h'
     by_cases hr:c % 32 * 64 + a % 64 < 128
     ·rw [if_pos hr] at h'
      obtain ⟨rfl,rfl⟩:=Prod.mk.inj h'
      exact dec2low ad c0 t1.length c a w hc0 xc xa bc0 bc1 ba0 ba1 h2 (ne2_false g1) hr
     rw [if_neg hr] at h'
     obtain ⟨rfl,rfl⟩:=Prod.mk.inj h'
     exact dec2ok ad c0 t1.length c a w hc0 xc xa bc0 bc1 ba0 ba1 h2 (ne2_false g1) hr
   rw [if_neg h2] at h'
   by_cases h3:c / 16 = 14
   ·rw [if_pos h3] at h'
    match t,hr0,hc0,hb,h' with
    | [],hr0,hc0,hb,h'=>
     obtain ⟨rfl,rfl⟩:=Prod.mk.inj h'
     exact dec3s1 ad c0 c w hc0 xc bc0 bc1 h3
    | a :: t1,hr0,hc0,hb,h'=>
     obtain ⟨ba0,ba1⟩:=isByte_at hb 1 a (by omega) rfl
     have xa:w.cell? ⟨ad.block,ad.off + 1,none⟩ = some (.int .u8 a):=cellD1 hr0 1 a rfl (by omega)
     simp only [List.length_cons] at hc0 ⊢
     match t1,hr0,hc0,hb,h' with
     | [],hr0,hc0,hb,h'=>
      obtain ⟨rfl,rfl⟩:=Prod.mk.inj h'
      exact dec3s2 ad c0 c w hc0 xc bc0 bc1 h3
     | b :: t2,hr0,hc0,hb,h'=>
      obtain ⟨bb0,bb1⟩:=isByte_at hb 2 b (by omega) rfl
      have xb:w.cell? ⟨ad.block,ad.off + 1 + 1,none⟩ = some (.int .u8 b):=cellD1 hr0 2 b rfl (by omega)
      simp only [List.length_cons] at hc0 ⊢
      simp only [] at h'
      by_cases g1:a / 64 = 2
      rotate_left
      ·rw [if_neg g1] at h'
       obtain ⟨rfl,rfl⟩:=Prod.mk.inj h'
       exact dec3b1 ad c0 t2.length c a w hc0 xc xa bc0 bc1 ba0 ba1 h3  (ne2_true g1)
      rw [if_pos g1] at h'
      by_cases g2:b / 64 = 2
      rotate_left
      ·rw [if_neg g2] at h'
       obtain ⟨rfl,rfl⟩:=Prod.mk.inj h'
       exact dec3b2 ad c0 t2.length c a b w hc0 xc xa xb bc0 bc1 ba0 ba1 bb0 bb1 h3 (ne2_false g1) (ne2_true g2)
      rw [if_pos g2] at h'
      by_cases hr:(c % 16 * 64 + a % 64) * 64 + b % 64 < 2048
      ·rw [if_pos hr] at h'
       obtain ⟨rfl,rfl⟩:=Prod.mk.inj h'
       exact dec3low ad c0 t2.length c a b w hc0 xc xa xb bc0 bc1 ba0 ba1 bb0 bb1 h3 (ne2_false g1) (ne2_false g2) hr
      rw [if_neg hr] at h'
      by_cases hs:55296 ≤ (c % 16 * 64 + a % 64) * 64 + b % 64 ∧ (c % 16 * 64 + a % 64) * 64 + b % 64 ≤ 57343
      ·rw [if_pos hs] at h'
       obtain ⟨rfl,rfl⟩:=Prod.mk.inj h'
       exact dec3no ad c0 t2.length c a b w hc0 xc xa xb bc0 bc1 ba0 ba1 bb0 bb1 h3 (ne2_false g1) (ne2_false g2) hr hs
      rw [if_neg hs] at h'
      obtain ⟨rfl,rfl⟩:=Prod.mk.inj h'
      exact dec3ok ad c0 t2.length c a b w hc0 xc xa xb bc0 bc1 ba0 ba1 bb0 bb1 h3 (ne2_false g1) (ne2_false g2) hr hs
   rw [if_neg h3] at h'
   by_cases h4:c / 8 = 30
   ·rw [if_pos h4] at h'
    match t,hr0,hc0,hb,h' with
    | [],hr0,hc0,hb,h'=>
     obtain ⟨rfl,rfl⟩:=Prod.mk.inj h'
     exact dec4s1 ad c0 c w hc0 xc bc0 bc1 h4
    | a :: t1,hr0,hc0,hb,h'=>
     obtain ⟨ba0,ba1⟩:=isByte_at hb 1 a (by omega) rfl
     have xa:w.cell? ⟨ad.block,ad.off + 1,none⟩ = some (.int .u8 a):=cellD1 hr0 1 a rfl (by omega)
     simp only [List.length_cons] at hc0 ⊢
     match t1,hr0,hc0,hb,h' with
     | [],hr0,hc0,hb,h'=>
      obtain ⟨rfl,rfl⟩:=Prod.mk.inj h'
      exact dec4s2 ad c0 c w hc0 xc bc0 bc1 h4
     | b :: t2,hr0,hc0,hb,h'=>
      obtain ⟨bb0,bb1⟩:=isByte_at hb 2 b (by omega) rfl
      have xb:w.cell? ⟨ad.block,ad.off + 1 + 1,none⟩ = some (.int .u8 b):=cellD1 hr0 2 b rfl (by omega)
      simp only [List.length_cons] at hc0 ⊢
      match t2,hr0,hc0,hb,h' with
      | [],hr0,hc0,hb,h'=>
       obtain ⟨rfl,rfl⟩:=Prod.mk.inj h'
       exact dec4s3 ad c0 c w hc0 xc bc0 bc1 h4
      | d :: t3,hr0,hc0,hb,h'=>
       obtain ⟨bd0,bd1⟩:=isByte_at hb 3 d (by omega) rfl
       have xd:w.cell? ⟨ad.block,ad.off + 1 + 1 + 1,none⟩ = some (.int .u8 d):=cellD1 hr0 3 d rfl (by omega)
       simp only [List.length_cons] at hc0 ⊢
       simp only [] at h'
       by_cases g1:a / 64 = 2
       rotate_left
       ·rw [if_neg g1] at h'
        obtain ⟨rfl,rfl⟩:=Prod.mk.inj h'
        exact dec4b1 ad c0 t3.length c a w hc0 xc xa bc0 bc1 ba0 ba1 h4  (ne2_true g1)
       rw [if_pos g1] at h'
       by_cases g2:b / 64 = 2
       rotate_left
       ·rw [if_neg g2] at h'
        obtain ⟨rfl,rfl⟩:=Prod.mk.inj h'
        exact dec4b2 ad c0 t3.length c a b w hc0 xc xa xb bc0 bc1 ba0 ba1 bb0 bb1 h4 (ne2_false g1) (ne2_true g2)
       rw [if_pos g2] at h'
       by_cases g3:d / 64 = 2
       rotate_left
       ·rw [if_neg g3] at h'
        obtain ⟨rfl,rfl⟩:=Prod.mk.inj h'
        exact dec4b3 ad c0 t3.length c a b d w hc0 xc xa xb xd bc0 bc1 ba0 ba1 bb0 bb1 bd0 bd1 h4 (ne2_false g1) (ne2_false g2) (ne2_true g3)
       rw [if_pos g3] at h'
       by_cases hr:((c % 8 * 64 + a % 64) * 64 + b % 64) * 64 + d % 64 < 65536
       ·rw [if_pos hr] at h'
        obtain ⟨rfl,rfl⟩:=Prod.mk.inj h'
        exact dec4low ad c0 t3.length c a b d w hc0 xc xa xb xd bc0 bc1 ba0 ba1 bb0 bb1 bd0 bd1 h4 (ne2_false g1) (ne2_false g2) (ne2_false g3) hr
       rw [if_neg hr] at h'
       by_cases hs:1114111 < ((c % 8 * 64 + a % 64) * 64 + b % 64) * 64 + d % 64
       ·rw [if_pos hs] at h'
        obtain ⟨rfl,rfl⟩:=Prod.mk.inj h'
        exact dec4no ad c0 t3.length c a b d w hc0 xc xa xb xd bc0 bc1 ba0 ba1 bb0 bb1 bd0 bd1 h4 (ne2_false g1) (ne2_false g2) (ne2_false g3) hr hs
       rw [if_neg hs] at h'
       obtain ⟨rfl,rfl⟩:=Prod.mk.inj h'
       exact dec4ok ad c0 t3.length c a b d w hc0 xc xa xb xd bc0 bc1 ba0 ba1 bb0 bb1 bd0 bd1 h4 (ne2_false g1) (ne2_false g2) (ne2_false g3) hr hs
   rw [if_neg h4] at h'
   obtain ⟨rfl,rfl⟩:=Prod.mk.inj h'
   exact dec0 ad c0 t.length c w hc0 xc bc0 bc1 h1 h2 h3 h4
end Go.Proofs.YtbaokjfhigjpdaaGreatDoor.PNsBase
end
section
namespace Go.Proofs.YtbaokjfhigjpdaaGreatDoor.PNsBase
open Go.RowKit Go.Proofs.YtbaokjfhigjpdaaGreatDoorW.PrintWords Go.Proofs.YtbaokjfhigjpdaaGreatDoorW.PrintLast Go.Proofs.YtbaokjfhigjpdaaGreatDoorW.PrintMore
attribute [local go_sem] max2_int min2_int max_two min_two max_three min_three max_four min_four   -- for this text's walks alone
set_option linter.unusedVariables false
set_option linter.unusedSimpArgs false
def char_every_char_Start_char_Part.l0:Nat → ByteArray → List Int → Int → Option (Bool)
  | 0,_,_,_=>none
  | k + 1,x0,x7,x8=>if x8 < (x7.length:Int) then (if 0 ≤ x8 then (if x8 ≤ (x7.length:Int) then ((char_Decode.f (x7.drop (x8:Int).toNat)).bind fun bt111=>(if bt111.2 = 0 then (some false) else (if x8 = 0 then ((char_Start.f k bt111.1).bind fun t113=>(if t113 = true then ((char_Part.f k bt111.1).bind fun t114=>(if t114 = true then (char_every_char_Start_char_Part.l0 k x0 x7 (wrap64 (x8 + bt111.2))) else (some false))) else (some false))) else ((char_Part.f k bt111.1).bind fun t115=>(if t115 = true then (char_every_char_Start_char_Part.l0 k x0 x7 (wrap64 (x8 + bt111.2))) else (some false)))))) else (none)) else (none)) else (some (!x0.toList.isEmpty))
def char_every_char_Start_char_Part.f (k:Nat) (a0:ByteArray):Option (Bool):=(conv_bytes.f a0).bind fun t103=>(char_every_char_Start_char_Part.l0 k a0 t103 0)
theorem char_every_char_Start_char_Part.mono_l:∀ k,(∀ y0 y1 y2,LeO (char_every_char_Start_char_Part.l0 k y0 y1 y2) (char_every_char_Start_char_Part.l0 (k + 1) y0 y1 y2))
  | 0=>fun _ _ _ r h=>by simp [char_every_char_Start_char_Part.l0] at h
  | k + 1=>by
   have ih0:=char_every_char_Start_char_Part.mono_l k
   ·intro y0 y1 y2
    unfold char_every_char_Start_char_Part.l0
    repeat' first
    | (with_reducible exact ih0 _ _ _)
    | (with_reducible exact char_Part.mono _ _)
    | (with_reducible exact char_Start.mono _ _)
    | (with_reducible exact LeO.refl _)
    | (with_reducible exact LeO.none _)
    | (with_reducible refine LeO.ite ?_ ?_)
    | (with_reducible refine LeO.bind ?_ (fun _=>?_))
    | exact ih0 _ _ _
    | exact char_Part.mono _ _
    | exact char_Start.mono _ _
    | exact LeO.none _
    | refine LeO.ite ?_ ?_
    | refine LeO.bind ?_ (fun _=>?_)
theorem char_every_char_Start_char_Part.mono:∀ a0 k,LeO (char_every_char_Start_char_Part.f k a0) (char_every_char_Start_char_Part.f (k + 1) a0):=by
 intro a0 k
 have ih0:=char_every_char_Start_char_Part.mono_l k
 unfold char_every_char_Start_char_Part.f
 repeat' first
  | (with_reducible exact ih0 _ _ _)
  | (with_reducible exact char_Part.mono _ _)
  | (with_reducible exact char_Start.mono _ _)
  | (with_reducible exact LeO.refl _)
  | (with_reducible exact LeO.none _)
  | (with_reducible refine LeO.ite ?_ ?_)
  | (with_reducible refine LeO.bind ?_ (fun _=>?_))
  | exact ih0 _ _ _
  | exact char_Part.mono _ _
  | exact char_Start.mono _ _
  | exact LeO.none _
  | refine LeO.ite ?_ ?_
  | refine LeO.bind ?_ (fun _=>?_)
set_option maxHeartbeats 8000000 in
set_option maxRecDepth 100000 in
theorem char_every_char_Start_char_Part.calls (k:Nat) (a0:ByteArray) (r:Bool) (w:World) (h:char_every_char_Start_char_Part.f k a0 = some r) :
    Calls Tryz.prog 161 #[.string a0,.func (.func 107) #[] #[],.func (.func 144) #[] #[]] w fun e w'=>e = .returned (.bool r) ∧ Below w.heap.size w w':=by
  have HB:=Aside0.mk (Below.refl w.heap.size w)
  have H:((conv_bytes.f a0).bind fun t103=>(char_every_char_Start_char_Part.l0 k a0 t103 0)) = some r:=h
  clear h
  replace H:=Option.bind_eq_some_iff.mp H
  obtain ⟨t103,A20,H⟩:=H
  replace H:(char_every_char_Start_char_Part.l0 k a0 t103 0) = some r:=H
  have A2:=Aside0.mk A20
  clear A20
  have H':=Aside0.mk H
  clear H
  go_enter Tryz.func161,Tryz.ntmps161
  go_wp2_with (first | ((with_reducible refine conv_bytes.gate (src:=9) (dst:=33) rfl ?_);refine conv_bytes.step 9 33 5 Tryz.underlying9 Tryz.underlying33 Tryz.underlying5 (some 12) rfl rfl rfl a0 t103 rfl A2.out ?_;rintro e w3 ⟨v104,rfl,ho0,hb⟩;refine ⟨_,rfl,?_⟩;have n0_:=Aside0.mk (Kd.V_lower (Kd.V_mono (ok':=fun k_=>True) ho0 (fun k_ hk_=>trivial)) (below_size (by repeat (first | (with_reducible first | exact HB.out | apply below_alloc | apply pw_below_drewN | apply below_drew1) | exact HB.out))));have n1_:=Aside0.mk (below_step (by repeat (first | (with_reducible first | exact HB.out | apply below_alloc | apply pw_below_drewN | apply below_drew1) | exact HB.out)) hb);clear HB;have HO105:=n0_;have HB:=n1_;clear n0_ n1_;(try clear hb);(try clear hb2);(try clear hk);(try clear hi);(try clear ho0)))
  go_loopg [8] k (fun kq v8 w'=>∃ (x8_1:Int),v8 = .int .i64 x8_1 ∧ Aside0 (char_every_char_Start_char_Part.l0 kq a0 t103 x8_1 = some r) ∧ Aside0 (kq ≤ k) ∧ Aside0 (Kd.V (Kd.int .u8) 5 w' w.heap.size (fun _=>True) v104 t103) ∧ Aside0 (Below w.heap.size w w'))
  case atStart=>exact ⟨(0),(by first | rfl | (simp;done) | (simp [*];done)),H',⟨Nat.le_refl _⟩,⟨by (with_reducible repeat (first | apply Kd.V_alloc | apply Kd.V_drewN | apply Kd.V_drew));exact HO105.out⟩,⟨by repeat (first | (with_reducible first | exact HB.out | apply below_alloc | apply pw_below_drewN | apply below_drew1) | exact HB.out)⟩⟩
  case round=>
   clear H'
   try clear p2
   try clear c3
   obtain ⟨x8_1,rfl,HA,HK1,HO_7,HB⟩:=hrel
   cases gk with
   | zero=>exact absurd HA.out (by simp [char_every_char_Start_char_Part.l0])
   | succ k1=>
    have H:=HA.out
    clear HA
    simp only [char_every_char_Start_char_Part.l0] at H
    by_cases c4:x8_1 < (t103.length:Int)
    ·rw [if_pos c4] at H
     have c4b0:decide (x8_1 < (t103.length:Int)) = true:=decide_eq_true c4
     clear c4
     by_cases c5:0 ≤ x8_1
     ·rw [if_pos c5] at H
      have c5b0:=eq_true c5
      have c5b1:decide (0 ≤ x8_1) = true:=decide_eq_true c5
      clear c5
      by_cases c6:x8_1 ≤ (t103.length:Int)
      ·rw [if_pos c6] at H
       have c6b0:=eq_true c6
       have c6b1:decide (x8_1 ≤ (t103.length:Int)) = true:=decide_eq_true c6
       clear c6
       obtain ⟨y106,hy106⟩:∃ y_:List Int,y_ = (t103.drop (x8_1:Int).toNat):=⟨_,rfl⟩
       replace H:((char_Decode.f y106).bind fun bt111=>(if bt111.2 = 0 then (some false) else (if x8_1 = 0 then ((char_Start.f k1 bt111.1).bind fun t113=>(if t113 = true then ((char_Part.f k1 bt111.1).bind fun t114=>(if t114 = true then (char_every_char_Start_char_Part.l0 k1 a0 t103 (wrap64 (x8_1 + bt111.2))) else (some false))) else (some false))) else ((char_Part.f k1 bt111.1).bind fun t115=>(if t115 = true then (char_every_char_Start_char_Part.l0 k1 a0 t103 (wrap64 (x8_1 + bt111.2))) else (some false)))))) = some r:=by first | (rw [hy106];with_reducible exact H) | (have H2_:=(Option.bind_some _ _).symm.trans H;rw [hy106];with_reducible exact H2_) | (have H2_:=(Option.bind_some _ _).symm.trans H;with_reducible exact H2_) | with_reducible exact H | (rw [hy106];exact H) | exact H
       have Ny106:=Aside0.mk hy106
       clear hy106
       replace H:=Option.bind_eq_some_iff.mp H
       obtain ⟨⟨t111,t112⟩,A70,H⟩:=H
       replace H:(if t112 = 0 then (some false) else (if x8_1 = 0 then ((char_Start.f k1 t111).bind fun t113=>(if t113 = true then ((char_Part.f k1 t111).bind fun t114=>(if t114 = true then (char_every_char_Start_char_Part.l0 k1 a0 t103 (wrap64 (x8_1 + t112))) else (some false))) else (some false))) else ((char_Part.f k1 t111).bind fun t115=>(if t115 = true then (char_every_char_Start_char_Part.l0 k1 a0 t103 (wrap64 (x8_1 + t112))) else (some false))))) = some r:=H
       have A7:=Aside0.mk A70
       clear A70
       by_cases c8:t112 = 0
       ·rw [if_pos c8] at H
        have c8b0:(t112 == 0) = true:=beq_iff_eq.mpr c8
        have c8b1:(t112 != 0) = false:=bne_eq_false_iff_eq.mpr c8
        clear c8
        obtain rfl:=Option.some.inj H
        obtain ⟨Ao9,co9,eo9⟩:=Kd.V_slice HO_7.out
        subst eo9
        have q10:(x8_1:Int) ≤ ((t103.length:Int):Int):=of_decide_eq_true (by first | (with_reducible assumption) | assumption)
        obtain ⟨i010,hi010,_,hsz10,_⟩:=info_parts info5
        have hroom10:t103.length ≤ co9:=(Kd.V_reads' HO_7.out).2.1
        have hC10:Kd.F (Kd.int .u8) _ _ Ao9 t103.length t103:=(Kd.V_at (base:=w.heap.size) HO_7.out).2.2
        have q010:(0:Int) ≤ (x8_1:Int):=of_decide_eq_true (by first | (with_reducible assumption) | assumption)
        have hcut10:=cut_from (P:=Tryz.prog) 33 5 .i64 Tryz.underlying33 hi010 1 hsz10 Ao9 t103.length co9 x8_1 q010 q10
        have hr10:=Kd.F_cut (m:=(x8_1:Int).toNat) (c:=co9) hC10 (by omega) hroom10
        obtain ⟨A10,hA10⟩:∃ A1,A1 = (if co9 = (x8_1:Int).toNat then Ao9 else (Ao9:Option Addr).map (·.add ((x8_1:Int).toNat * 1))):=⟨_,rfl⟩
        obtain ⟨c10,hc10⟩:∃ c1,c1 = co9 - (x8_1:Int).toNat:=⟨_,rfl⟩
        have hy10:y106.length = t103.length - (x8_1:Int).toNat:=(by rw [Ny106.out,List.length_drop] <;> omega)
        rw [show (t103).drop (x8_1:Int).toNat = y106 from Ny106.out.symm] at hr10
        replace hr10:Kd.F (Kd.int .u8) _ _ A10 y106.length y106:=(by rw [hA10];exact hr10)
        rw [← hy10,← hA10,← hc10] at hcut10
        have HO110:=Aside0.mk (show Kd.V (Kd.int .u8) 5 _ w.heap.size _ (.slice A10 y106.length c10) y106 from Kd.V_mk (by rw [hy10,hc10];exact Nat.sub_le_sub_right hroom10 _) hr10)
        have HC110:=Aside0.mk (show y106.length ≤ c10 from by rw [hy10,hc10];exact Nat.sub_le_sub_right hroom10 _)
        clear hr10 hC10 hroom10 hi010 hsz10 hc10
        have KY10:=Aside0.mk hy10
        have KA10:=Aside0.mk hA10
        clear hy10 hA10
        replace q10:=eq_true q10
        go_wp2_with (first | ((with_reducible refine gate_callee (f:=143) rfl ?_);refine goesL_ (some 21) rfl rfl Tryz.func143 (by kernel_rfl) rfl #[.slice A10 y106.length c10] rfl (by (try simp only [List.map_toArray,List.map_cons,List.map_nil]);first | done | rfl | (simp only [List.length_drop,List.length_take];rfl)) ?_;(with_reducible refine (char_Decode.calls _ _ y106 t111 t112 _ ?side1 ?side2 A7.out).mono ?_);(case side1=>repeat (first | exact (Kd.V_reads' HO110.out).2.2 | (with_reducible refine Kd.C_alloc ?_ _) | (with_reducible refine Kd.C_drewN ?_ _) | (with_reducible refine Kd.C_drew ?_)));(case side2=>exact (Kd.V_reads' HO110.out).2.1);rintro e w' ⟨rfl,⟨nd,rfl⟩⟩;refine ⟨_,rfl,?_⟩))
        go_ret
        exact ⟨by first | rfl | (simp [errW_none,errW_some] <;> rfl) | (simp [*,errW_none,errW_some] <;> rfl),by repeat (first | (with_reducible first | exact HB.out | apply below_alloc | apply pw_below_drewN | apply below_drew1) | exact HB.out)⟩
       ·rw [if_neg c8] at H
        have c8b0:(t112 == 0) = false:=beq_eq_false_iff_ne.mpr c8
        have c8b1:(t112 != 0) = true:=bne_iff_ne.mpr c8
        by_cases c11:x8_1 = 0
        ·rw [if_pos c11] at H
         have c11b0:(x8_1 == 0) = true:=beq_iff_eq.mpr c11
         have c11b1:(x8_1 != 0) = false:=bne_eq_false_iff_eq.mpr c11
         clear c11
         replace H:=Option.bind_eq_some_iff.mp H
         obtain ⟨t113,A120,H⟩:=H
         replace H:(if t113 = true then ((char_Part.f k1 t111).bind fun t114=>(if t114 = true then (char_every_char_Start_char_Part.l0 k1 a0 t103 (wrap64 (x8_1 + t112))) else (some false))) else (some false)) = some r:=H
         have A12:=Aside0.mk A120
         clear A120
         by_cases c13:t113 = true
         ·subst c13
          have H1:((char_Part.f k1 t111).bind fun t114=>(if t114 = true then (char_every_char_Start_char_Part.l0 k1 a0 t103 (wrap64 (x8_1 + t112))) else (some false))) = some r:=by rw [if_pos rfl] at H;exact H
          clear H
          have H:=H1
          clear H1
          replace H:=Option.bind_eq_some_iff.mp H
          obtain ⟨t114,A140,H⟩:=H
          replace H:(if t114 = true then (char_every_char_Start_char_Part.l0 k1 a0 t103 (wrap64 (x8_1 + t112))) else (some false)) = some r:=H
          have A14:=Aside0.mk A140
          clear A140
          by_cases c15:t114 = true
          ·subst c15
           have H1:(char_every_char_Start_char_Part.l0 k1 a0 t103 (wrap64 (x8_1 + t112))) = some r:=by rw [if_pos rfl] at H;exact H
           clear H
           have H:=H1
           clear H1
           have H':=Aside0.mk H
           clear H
           obtain ⟨Ao16,co16,eo16⟩:=Kd.V_slice HO_7.out
           subst eo16
           have q17:(x8_1:Int) ≤ ((t103.length:Int):Int):=of_decide_eq_true (by first | (with_reducible assumption) | assumption)
           obtain ⟨i017,hi017,_,hsz17,_⟩:=info_parts info5
           have hroom17:t103.length ≤ co16:=(Kd.V_reads' HO_7.out).2.1
           have hC17:Kd.F (Kd.int .u8) _ _ Ao16 t103.length t103:=(Kd.V_at (base:=w.heap.size) HO_7.out).2.2
           have q017:(0:Int) ≤ (x8_1:Int):=of_decide_eq_true (by first | (with_reducible assumption) | assumption)
           have hcut17:=cut_from (P:=Tryz.prog) 33 5 .i64 Tryz.underlying33 hi017 1 hsz17 Ao16 t103.length co16 x8_1 q017 q17
           have hr17:=Kd.F_cut (m:=(x8_1:Int).toNat) (c:=co16) hC17 (by omega) hroom17
           obtain ⟨A17,hA17⟩:∃ A1,A1 = (if co16 = (x8_1:Int).toNat then Ao16 else (Ao16:Option Addr).map (·.add ((x8_1:Int).toNat * 1))):=⟨_,rfl⟩
           obtain ⟨c17,hc17⟩:∃ c1,c1 = co16 - (x8_1:Int).toNat:=⟨_,rfl⟩
           have hy17:y106.length = t103.length - (x8_1:Int).toNat:=(by rw [Ny106.out,List.length_drop] <;> omega)
           rw [show (t103).drop (x8_1:Int).toNat = y106 from Ny106.out.symm] at hr17
           replace hr17:Kd.F (Kd.int .u8) _ _ A17 y106.length y106:=(by rw [hA17];exact hr17)
           rw [← hy17,← hA17,← hc17] at hcut17
           have HO110:=Aside0.mk (show Kd.V (Kd.int .u8) 5 _ w.heap.size _ (.slice A17 y106.length c17) y106 from Kd.V_mk (by rw [hy17,hc17];exact Nat.sub_le_sub_right hroom17 _) hr17)
           have HC110:=Aside0.mk (show y106.length ≤ c17 from by rw [hy17,hc17];exact Nat.sub_le_sub_right hroom17 _)
           clear hr17 hC17 hroom17 hi017 hsz17 hc17
           have KY17:=Aside0.mk hy17
           have KA17:=Aside0.mk hA17
           clear hy17 hA17
           replace q17:=eq_true q17
           go_wp2_with (first | ((with_reducible refine gate_callee (f:=143) rfl ?_);refine goesL_ (some 21) rfl rfl Tryz.func143 (by kernel_rfl) rfl #[.slice A17 y106.length c17] rfl (by (try simp only [List.map_toArray,List.map_cons,List.map_nil]);first | done | rfl | (simp only [List.length_drop,List.length_take];rfl)) ?_;(with_reducible refine (char_Decode.calls _ _ y106 t111 t112 _ ?side1 ?side2 A7.out).mono ?_);(case side1=>repeat (first | exact (Kd.V_reads' HO110.out).2.2 | (with_reducible refine Kd.C_alloc ?_ _) | (with_reducible refine Kd.C_drewN ?_ _) | (with_reducible refine Kd.C_drew ?_)));(case side2=>exact (Kd.V_reads' HO110.out).2.1);rintro e w' ⟨rfl,⟨nd,rfl⟩⟩;refine ⟨_,rfl,?_⟩) | (go_at_call 107;(with_reducible refine (char_Start.calls k1 t111 true _ A12.out).mono ?_);rintro e w' ⟨rfl,⟨nd,rfl⟩⟩) | (go_at_call 144;(with_reducible refine (char_Part.calls k1 t111 true _ A14.out).mono ?_);rintro e w' ⟨rfl,⟨nd,rfl⟩⟩))
           go_roundg k1
           case measure=>have:=HK1.out;omega
           case rel=>exact ⟨(wrap64 (x8_1 + t112)),(by first | rfl | (simp;done) | (simp [*];done)),H',⟨by have:=HK1.out;omega⟩,⟨by (with_reducible repeat (first | apply Kd.V_alloc | apply Kd.V_drewN | apply Kd.V_drew));exact HO_7.out⟩,⟨by repeat (first | (with_reducible first | exact HB.out | apply below_alloc | apply pw_below_drewN | apply below_drew1) | exact HB.out)⟩⟩
          ·replace c15:=Bool.eq_false_iff.mpr c15
           subst c15
           have H1:(some false) = some r:=by rw [if_neg (show ¬ (false = true) by decide)] at H;exact H
           clear H
           have H:=H1
           clear H1
           obtain rfl:=Option.some.inj H
           obtain ⟨Ao18,co18,eo18⟩:=Kd.V_slice HO_7.out
           subst eo18
           have q19:(x8_1:Int) ≤ ((t103.length:Int):Int):=of_decide_eq_true (by first | (with_reducible assumption) | assumption)
           obtain ⟨i019,hi019,_,hsz19,_⟩:=info_parts info5
           have hroom19:t103.length ≤ co18:=(Kd.V_reads' HO_7.out).2.1
           have hC19:Kd.F (Kd.int .u8) _ _ Ao18 t103.length t103:=(Kd.V_at (base:=w.heap.size) HO_7.out).2.2
           have q019:(0:Int) ≤ (x8_1:Int):=of_decide_eq_true (by first | (with_reducible assumption) | assumption)
           have hcut19:=cut_from (P:=Tryz.prog) 33 5 .i64 Tryz.underlying33 hi019 1 hsz19 Ao18 t103.length co18 x8_1 q019 q19
           have hr19:=Kd.F_cut (m:=(x8_1:Int).toNat) (c:=co18) hC19 (by omega) hroom19
           obtain ⟨A19,hA19⟩:∃ A1,A1 = (if co18 = (x8_1:Int).toNat then Ao18 else (Ao18:Option Addr).map (·.add ((x8_1:Int).toNat * 1))):=⟨_,rfl⟩
           obtain ⟨c19,hc19⟩:∃ c1,c1 = co18 - (x8_1:Int).toNat:=⟨_,rfl⟩
           have hy19:y106.length = t103.length - (x8_1:Int).toNat:=(by rw [Ny106.out,List.length_drop] <;> omega)
           rw [show (t103).drop (x8_1:Int).toNat = y106 from Ny106.out.symm] at hr19
           replace hr19:Kd.F (Kd.int .u8) _ _ A19 y106.length y106:=(by rw [hA19];exact hr19)
           rw [← hy19,← hA19,← hc19] at hcut19
           have HO110:=Aside0.mk (show Kd.V (Kd.int .u8) 5 _ w.heap.size _ (.slice A19 y106.length c19) y106 from Kd.V_mk (by rw [hy19,hc19];exact Nat.sub_le_sub_right hroom19 _) hr19)
           have HC110:=Aside0.mk (show y106.length ≤ c19 from by rw [hy19,hc19];exact Nat.sub_le_sub_right hroom19 _)
           clear hr19 hC19 hroom19 hi019 hsz19 hc19
           have KY19:=Aside0.mk hy19
           have KA19:=Aside0.mk hA19
           clear hy19 hA19
           replace q19:=eq_true q19
           go_wp2_with (first | ((with_reducible refine gate_callee (f:=143) rfl ?_);refine goesL_ (some 21) rfl rfl Tryz.func143 (by kernel_rfl) rfl #[.slice A19 y106.length c19] rfl (by (try simp only [List.map_toArray,List.map_cons,List.map_nil]);first | done | rfl | (simp only [List.length_drop,List.length_take];rfl)) ?_;(with_reducible refine (char_Decode.calls _ _ y106 t111 t112 _ ?side1 ?side2 A7.out).mono ?_);(case side1=>repeat (first | exact (Kd.V_reads' HO110.out).2.2 | (with_reducible refine Kd.C_alloc ?_ _) | (with_reducible refine Kd.C_drewN ?_ _) | (with_reducible refine Kd.C_drew ?_)));(case side2=>exact (Kd.V_reads' HO110.out).2.1);rintro e w' ⟨rfl,⟨nd,rfl⟩⟩;refine ⟨_,rfl,?_⟩) | (go_at_call 107;(with_reducible refine (char_Start.calls k1 t111 true _ A12.out).mono ?_);rintro e w' ⟨rfl,⟨nd,rfl⟩⟩) | (go_at_call 144;(with_reducible refine (char_Part.calls k1 t111 false _ A14.out).mono ?_);rintro e w' ⟨rfl,⟨nd,rfl⟩⟩))
           go_ret
           exact ⟨by first | rfl | (simp [errW_none,errW_some] <;> rfl) | (simp [*,errW_none,errW_some] <;> rfl),by repeat (first | (with_reducible first | exact HB.out | apply below_alloc | apply pw_below_drewN | apply below_drew1) | exact HB.out)⟩
         ·replace c13:=Bool.eq_false_iff.mpr c13
          subst c13
          have H1:(some false) = some r:=by rw [if_neg (show ¬ (false = true) by decide)] at H;exact H
          clear H
          have H:=H1
          clear H1
          obtain rfl:=Option.some.inj H
          obtain ⟨Ao20,co20,eo20⟩:=Kd.V_slice HO_7.out
          subst eo20
          have q21:(x8_1:Int) ≤ ((t103.length:Int):Int):=of_decide_eq_true (by first | (with_reducible assumption) | assumption)
          obtain ⟨i021,hi021,_,hsz21,_⟩:=info_parts info5
          have hroom21:t103.length ≤ co20:=(Kd.V_reads' HO_7.out).2.1
          have hC21:Kd.F (Kd.int .u8) _ _ Ao20 t103.length t103:=(Kd.V_at (base:=w.heap.size) HO_7.out).2.2
          have q021:(0:Int) ≤ (x8_1:Int):=of_decide_eq_true (by first | (with_reducible assumption) | assumption)
          have hcut21:=cut_from (P:=Tryz.prog) 33 5 .i64 Tryz.underlying33 hi021 1 hsz21 Ao20 t103.length co20 x8_1 q021 q21
          have hr21:=Kd.F_cut (m:=(x8_1:Int).toNat) (c:=co20) hC21 (by omega) hroom21
          obtain ⟨A21,hA21⟩:∃ A1,A1 = (if co20 = (x8_1:Int).toNat then Ao20 else (Ao20:Option Addr).map (·.add ((x8_1:Int).toNat * 1))):=⟨_,rfl⟩
          obtain ⟨c21,hc21⟩:∃ c1,c1 = co20 - (x8_1:Int).toNat:=⟨_,rfl⟩
          have hy21:y106.length = t103.length - (x8_1:Int).toNat:=(by rw [Ny106.out,List.length_drop] <;> omega)
          rw [show (t103).drop (x8_1:Int).toNat = y106 from Ny106.out.symm] at hr21
          replace hr21:Kd.F (Kd.int .u8) _ _ A21 y106.length y106:=(by rw [hA21];exact hr21)
          rw [← hy21,← hA21,← hc21] at hcut21
          have HO110:=Aside0.mk (show Kd.V (Kd.int .u8) 5 _ w.heap.size _ (.slice A21 y106.length c21) y106 from Kd.V_mk (by rw [hy21,hc21];exact Nat.sub_le_sub_right hroom21 _) hr21)
          have HC110:=Aside0.mk (show y106.length ≤ c21 from by rw [hy21,hc21];exact Nat.sub_le_sub_right hroom21 _)
          clear hr21 hC21 hroom21 hi021 hsz21 hc21
          have KY21:=Aside0.mk hy21
          have KA21:=Aside0.mk hA21
          clear hy21 hA21
          replace q21:=eq_true q21
          go_wp2_with (first | ((with_reducible refine gate_callee (f:=143) rfl ?_);refine goesL_ (some 21) rfl rfl Tryz.func143 (by kernel_rfl) rfl #[.slice A21 y106.length c21] rfl (by (try simp only [List.map_toArray,List.map_cons,List.map_nil]);first | done | rfl | (simp only [List.length_drop,List.length_take];rfl)) ?_;(with_reducible refine (char_Decode.calls _ _ y106 t111 t112 _ ?side1 ?side2 A7.out).mono ?_);(case side1=>repeat (first | exact (Kd.V_reads' HO110.out).2.2 | (with_reducible refine Kd.C_alloc ?_ _) | (with_reducible refine Kd.C_drewN ?_ _) | (with_reducible refine Kd.C_drew ?_)));(case side2=>exact (Kd.V_reads' HO110.out).2.1);rintro e w' ⟨rfl,⟨nd,rfl⟩⟩;refine ⟨_,rfl,?_⟩) | (go_at_call 107;(with_reducible refine (char_Start.calls k1 t111 false _ A12.out).mono ?_);rintro e w' ⟨rfl,⟨nd,rfl⟩⟩))
          go_ret
          exact ⟨by first | rfl | (simp [errW_none,errW_some] <;> rfl) | (simp [*,errW_none,errW_some] <;> rfl),by repeat (first | (with_reducible first | exact HB.out | apply below_alloc | apply pw_below_drewN | apply below_drew1) | exact HB.out)⟩
        ·rw [if_neg c11] at H
         have c11b0:(x8_1 == 0) = false:=beq_eq_false_iff_ne.mpr c11
         have c11b1:(x8_1 != 0) = true:=bne_iff_ne.mpr c11
         replace H:=Option.bind_eq_some_iff.mp H
         obtain ⟨t115,A220,H⟩:=H
         replace H:(if t115 = true then (char_every_char_Start_char_Part.l0 k1 a0 t103 (wrap64 (x8_1 + t112))) else (some false)) = some r:=H
         have A22:=Aside0.mk A220
         clear A220
         by_cases c23:t115 = true
         ·subst c23
          have H1:(char_every_char_Start_char_Part.l0 k1 a0 t103 (wrap64 (x8_1 + t112))) = some r:=by rw [if_pos rfl] at H;exact H
          clear H
          have H:=H1
          clear H1
          have H':=Aside0.mk H
          clear H
          obtain ⟨Ao24,co24,eo24⟩:=Kd.V_slice HO_7.out
          subst eo24
          have q25:(x8_1:Int) ≤ ((t103.length:Int):Int):=of_decide_eq_true (by first | (with_reducible assumption) | assumption)
          obtain ⟨i025,hi025,_,hsz25,_⟩:=info_parts info5
          have hroom25:t103.length ≤ co24:=(Kd.V_reads' HO_7.out).2.1
          have hC25:Kd.F (Kd.int .u8) _ _ Ao24 t103.length t103:=(Kd.V_at (base:=w.heap.size) HO_7.out).2.2
          have q025:(0:Int) ≤ (x8_1:Int):=of_decide_eq_true (by first | (with_reducible assumption) | assumption)
          have hcut25:=cut_from (P:=Tryz.prog) 33 5 .i64 Tryz.underlying33 hi025 1 hsz25 Ao24 t103.length co24 x8_1 q025 q25
          have hr25:=Kd.F_cut (m:=(x8_1:Int).toNat) (c:=co24) hC25 (by omega) hroom25
          obtain ⟨A25,hA25⟩:∃ A1,A1 = (if co24 = (x8_1:Int).toNat then Ao24 else (Ao24:Option Addr).map (·.add ((x8_1:Int).toNat * 1))):=⟨_,rfl⟩
          obtain ⟨c25,hc25⟩:∃ c1,c1 = co24 - (x8_1:Int).toNat:=⟨_,rfl⟩
          have hy25:y106.length = t103.length - (x8_1:Int).toNat:=(by rw [Ny106.out,List.length_drop] <;> omega)
          rw [show (t103).drop (x8_1:Int).toNat = y106 from Ny106.out.symm] at hr25
          replace hr25:Kd.F (Kd.int .u8) _ _ A25 y106.length y106:=(by rw [hA25];exact hr25)
          rw [← hy25,← hA25,← hc25] at hcut25
          have HO110:=Aside0.mk (show Kd.V (Kd.int .u8) 5 _ w.heap.size _ (.slice A25 y106.length c25) y106 from Kd.V_mk (by rw [hy25,hc25];exact Nat.sub_le_sub_right hroom25 _) hr25)
          have HC110:=Aside0.mk (show y106.length ≤ c25 from by rw [hy25,hc25];exact Nat.sub_le_sub_right hroom25 _)
          clear hr25 hC25 hroom25 hi025 hsz25 hc25
          have KY25:=Aside0.mk hy25
          have KA25:=Aside0.mk hA25
          clear hy25 hA25
          replace q25:=eq_true q25
          go_wp2_with (first | ((with_reducible refine gate_callee (f:=143) rfl ?_);refine goesL_ (some 21) rfl rfl Tryz.func143 (by kernel_rfl) rfl #[.slice A25 y106.length c25] rfl (by (try simp only [List.map_toArray,List.map_cons,List.map_nil]);first | done | rfl | (simp only [List.length_drop,List.length_take];rfl)) ?_;(with_reducible refine (char_Decode.calls _ _ y106 t111 t112 _ ?side1 ?side2 A7.out).mono ?_);(case side1=>repeat (first | exact (Kd.V_reads' HO110.out).2.2 | (with_reducible refine Kd.C_alloc ?_ _) | (with_reducible refine Kd.C_drewN ?_ _) | (with_reducible refine Kd.C_drew ?_)));(case side2=>exact (Kd.V_reads' HO110.out).2.1);rintro e w' ⟨rfl,⟨nd,rfl⟩⟩;refine ⟨_,rfl,?_⟩) | (go_at_call 144;(with_reducible refine (char_Part.calls k1 t111 true _ A22.out).mono ?_);rintro e w' ⟨rfl,⟨nd,rfl⟩⟩))
          go_roundg k1
          case measure=>have:=HK1.out;omega
          case rel=>exact ⟨(wrap64 (x8_1 + t112)),(by first | rfl | (simp;done) | (simp [*];done)),H',⟨by have:=HK1.out;omega⟩,⟨by (with_reducible repeat (first | apply Kd.V_alloc | apply Kd.V_drewN | apply Kd.V_drew));exact HO_7.out⟩,⟨by repeat (first | (with_reducible first | exact HB.out | apply below_alloc | apply pw_below_drewN | apply below_drew1) | exact HB.out)⟩⟩
         ·replace c23:=Bool.eq_false_iff.mpr c23
          subst c23
          have H1:(some false) = some r:=by rw [if_neg (show ¬ (false = true) by decide)] at H;exact H
          clear H
          have H:=H1
          clear H1
          obtain rfl:=Option.some.inj H
          obtain ⟨Ao26,co26,eo26⟩:=Kd.V_slice HO_7.out
          subst eo26
          have q27:(x8_1:Int) ≤ ((t103.length:Int):Int):=of_decide_eq_true (by first | (with_reducible assumption) | assumption)
          obtain ⟨i027,hi027,_,hsz27,_⟩:=info_parts info5
          have hroom27:t103.length ≤ co26:=(Kd.V_reads' HO_7.out).2.1
          have hC27:Kd.F (Kd.int .u8) _ _ Ao26 t103.length t103:=(Kd.V_at (base:=w.heap.size) HO_7.out).2.2
          have q027:(0:Int) ≤ (x8_1:Int):=of_decide_eq_true (by first | (with_reducible assumption) | assumption)
          have hcut27:=cut_from (P:=Tryz.prog) 33 5 .i64 Tryz.underlying33 hi027 1 hsz27 Ao26 t103.length co26 x8_1 q027 q27
          have hr27:=Kd.F_cut (m:=(x8_1:Int).toNat) (c:=co26) hC27 (by omega) hroom27
          obtain ⟨A27,hA27⟩:∃ A1,A1 = (if co26 = (x8_1:Int).toNat then Ao26 else (Ao26:Option Addr).map (·.add ((x8_1:Int).toNat * 1))):=⟨_,rfl⟩
          obtain ⟨c27,hc27⟩:∃ c1,c1 = co26 - (x8_1:Int).toNat:=⟨_,rfl⟩
          have hy27:y106.length = t103.length - (x8_1:Int).toNat:=(by rw [Ny106.out,List.length_drop] <;> omega)
          rw [show (t103).drop (x8_1:Int).toNat = y106 from Ny106.out.symm] at hr27
          replace hr27:Kd.F (Kd.int .u8) _ _ A27 y106.length y106:=(by rw [hA27];exact hr27)
          rw [← hy27,← hA27,← hc27] at hcut27
          have HO110:=Aside0.mk (show Kd.V (Kd.int .u8) 5 _ w.heap.size _ (.slice A27 y106.length c27) y106 from Kd.V_mk (by rw [hy27,hc27];exact Nat.sub_le_sub_right hroom27 _) hr27)
          have HC110:=Aside0.mk (show y106.length ≤ c27 from by rw [hy27,hc27];exact Nat.sub_le_sub_right hroom27 _)
          clear hr27 hC27 hroom27 hi027 hsz27 hc27
          have KY27:=Aside0.mk hy27
          have KA27:=Aside0.mk hA27
          clear hy27 hA27
          replace q27:=eq_true q27
          go_wp2_with (first | ((with_reducible refine gate_callee (f:=143) rfl ?_);refine goesL_ (some 21) rfl rfl Tryz.func143 (by kernel_rfl) rfl #[.slice A27 y106.length c27] rfl (by (try simp only [List.map_toArray,List.map_cons,List.map_nil]);first | done | rfl | (simp only [List.length_drop,List.length_take];rfl)) ?_;(with_reducible refine (char_Decode.calls _ _ y106 t111 t112 _ ?side1 ?side2 A7.out).mono ?_);(case side1=>repeat (first | exact (Kd.V_reads' HO110.out).2.2 | (with_reducible refine Kd.C_alloc ?_ _) | (with_reducible refine Kd.C_drewN ?_ _) | (with_reducible refine Kd.C_drew ?_)));(case side2=>exact (Kd.V_reads' HO110.out).2.1);rintro e w' ⟨rfl,⟨nd,rfl⟩⟩;refine ⟨_,rfl,?_⟩) | (go_at_call 144;(with_reducible refine (char_Part.calls k1 t111 false _ A22.out).mono ?_);rintro e w' ⟨rfl,⟨nd,rfl⟩⟩))
          go_ret
          exact ⟨by first | rfl | (simp [errW_none,errW_some] <;> rfl) | (simp [*,errW_none,errW_some] <;> rfl),by repeat (first | (with_reducible first | exact HB.out | apply below_alloc | apply pw_below_drewN | apply below_drew1) | exact HB.out)⟩
      ·rw [if_neg c6] at H
       exact absurd H (by simp)
     ·rw [if_neg c5] at H
      exact absurd H (by simp)
    ·rw [if_neg c4] at H
     have c4b0:decide (x8_1 < (t103.length:Int)) = false:=decide_eq_false c4
     clear c4
     obtain rfl:=Option.some.inj H
     obtain ⟨Ao28,co28,eo28⟩:=Kd.V_slice HO_7.out
     subst eo28
     go_wp2
     go_ret
     exact ⟨by first | rfl | (simp [errW_none,errW_some] <;> rfl) | (simp [*,errW_none,errW_some] <;> rfl),by repeat (first | (with_reducible first | exact HB.out | apply below_alloc | apply pw_below_drewN | apply below_drew1) | exact HB.out)⟩
def char_Name.f (k:Nat) (a0:ByteArray):Option (Bool):=(char_every_char_Start_char_Part.f k a0).bind fun t116=>(some t116)
theorem char_Name.mono:∀ a0 k,LeO (char_Name.f k a0) (char_Name.f (k + 1) a0):=by
 intro a0 k
 unfold char_Name.f
 repeat' first
  | (with_reducible exact char_every_char_Start_char_Part.mono _ _)
  | (with_reducible exact LeO.refl _)
  | (with_reducible exact LeO.none _)
  | (with_reducible refine LeO.ite ?_ ?_)
  | (with_reducible refine LeO.bind ?_ (fun _=>?_))
  | exact char_every_char_Start_char_Part.mono _ _
  | exact LeO.none _
  | refine LeO.ite ?_ ?_
  | refine LeO.bind ?_ (fun _=>?_)
set_option maxHeartbeats 8000000 in
set_option maxRecDepth 100000 in
theorem char_Name.calls (k:Nat) (a0:ByteArray) (r:Bool) (w:World) (h:char_Name.f k a0 = some r) :
    Calls Tryz.prog 120 #[.string a0] w fun e w'=>e = .returned (.bool r) ∧ Below w.heap.size w w':=by
  have HB:=Aside0.mk (Below.refl w.heap.size w)
  have H:((char_every_char_Start_char_Part.f k a0).bind fun t116=>(some t116)) = some r:=h
  clear h
  replace H:=Option.bind_eq_some_iff.mp H
  obtain ⟨t116,A20,H⟩:=H
  replace H:(some t116) = some r:=H
  have A2:=Aside0.mk A20
  clear A20
  obtain rfl:=Option.some.inj H
  go_enter Tryz.func120,Tryz.ntmps120
  go_wp2_with (first | ((with_reducible refine gate_callee (f:=161) rfl ?_);refine goesL_ (some 4) rfl rfl Tryz.func161 (by kernel_rfl) rfl #[.string a0,.func (.func 107) #[] #[],.func (.func 144) #[] #[]] rfl (by (try simp only [List.map_toArray,List.map_cons,List.map_nil]);first | done | rfl | (simp only [List.length_drop,List.length_take];rfl)) ?_;(with_reducible refine (char_every_char_Start_char_Part.calls k a0 t116 _ A2.out).mono ?_);rintro e w3 ⟨rfl,hb⟩;refine ⟨_,rfl,?_⟩;have n0_:=Aside0.mk (below_step (by repeat (first | (with_reducible first | exact HB.out | apply below_alloc | apply pw_below_drewN | apply below_drew1) | exact HB.out)) hb);clear HB;have HB:=n0_;clear n0_;(try clear hb);(try clear hb2);(try clear hk);(try clear hi)))
  go_ret
  exact ⟨by first | rfl | (simp [errW_none,errW_some] <;> rfl) | (simp [*,errW_none,errW_some] <;> rfl),by repeat (first | (with_reducible first | exact HB.out | apply below_alloc | apply pw_below_drewN | apply below_drew1) | exact HB.out)⟩
def strings_IndexByte.f (a0:ByteArray) (a1:Int):Option Int:=some (Lib.indexByte a0.data.toList a1.toNat.toUInt8)
theorem strings_IndexByte.calls (a0:ByteArray) (a1:Int) (r:Int) (w:World) (h:strings_IndexByte.f a0 a1 = some r) :
    Calls Tryz.prog 121 #[.string a0,.int .u8 a1] w fun e w'=>e = .returned (.int .i64 r) ∧ Drawn0 w w':=by
  obtain rfl:=Option.some.inj h
  refine (Tryz.strings_IndexByte a0 a1 w).mono fun e w' hh=>?_
  obtain ⟨rfl,rfl⟩:=hh
  exact ⟨rfl,Drawn0.refl _⟩
def char_NCName.f (k:Nat) (a0:ByteArray):Option (Bool):=(char_Name.f k a0).bind fun t117=>(if t117 = true then ((strings_IndexByte.f a0 58).bind fun t118=>(some (decide (t118 < 0)))) else (some false))
theorem char_NCName.mono:∀ a0 k,LeO (char_NCName.f k a0) (char_NCName.f (k + 1) a0):=by
 intro a0 k
 unfold char_NCName.f
 repeat' first
  | (with_reducible exact char_Name.mono _ _)
  | (with_reducible exact LeO.refl _)
  | (with_reducible exact LeO.none _)
  | (with_reducible refine LeO.ite ?_ ?_)
  | (with_reducible refine LeO.bind ?_ (fun _=>?_))
  | exact char_Name.mono _ _
  | exact LeO.none _
  | refine LeO.ite ?_ ?_
  | refine LeO.bind ?_ (fun _=>?_)
set_option maxHeartbeats 8000000 in
set_option maxRecDepth 100000 in
theorem char_NCName.calls (k:Nat) (a0:ByteArray) (r:Bool) (w:World) (h:char_NCName.f k a0 = some r) :
    Calls Tryz.prog 84 #[.string a0] w fun e w'=>e = .returned (.bool r) ∧ Below w.heap.size w w':=by
  have HB:=Aside0.mk (Below.refl w.heap.size w)
  have H:((char_Name.f k a0).bind fun t117=>(if t117 = true then ((strings_IndexByte.f a0 58).bind fun t118=>(some (decide (t118 < 0)))) else (some false))) = some r:=h
  clear h
  replace H:=Option.bind_eq_some_iff.mp H
  obtain ⟨t117,A20,H⟩:=H
  replace H:(if t117 = true then ((strings_IndexByte.f a0 58).bind fun t118=>(some (decide (t118 < 0)))) else (some false)) = some r:=H
  have A2:=Aside0.mk A20
  clear A20
  by_cases c3:t117 = true
  ·subst c3
   have H1:((strings_IndexByte.f a0 58).bind fun t118=>(some (decide (t118 < 0)))) = some r:=by rw [if_pos rfl] at H;exact H
   clear H
   have H:=H1
   clear H1
   replace H:=Option.bind_eq_some_iff.mp H
   obtain ⟨t118,A40,H⟩:=H
   replace H:(some (decide (t118 < 0))) = some r:=H
   have A4:=Aside0.mk A40
   clear A40
   obtain rfl:=Option.some.inj H
   go_enter Tryz.func84,Tryz.ntmps84
   go_wp2_with (first | ((with_reducible refine gate_callee (f:=120) rfl ?_);refine goesL_ (some 4) rfl rfl Tryz.func120 (by kernel_rfl) rfl #[.string a0] rfl (by (try simp only [List.map_toArray,List.map_cons,List.map_nil]);first | done | rfl | (simp only [List.length_drop,List.length_take];rfl)) ?_;(with_reducible refine (char_Name.calls k a0 true _ A2.out).mono ?_);rintro e w5 ⟨rfl,hb⟩;refine ⟨_,rfl,?_⟩;have n0_:=Aside0.mk (below_step (by repeat (first | (with_reducible first | exact HB.out | apply below_alloc | apply pw_below_drewN | apply below_drew1) | exact HB.out)) hb);clear HB;have HB:=n0_;clear n0_;(try clear hb);(try clear hb2);(try clear hk);(try clear hi)) | (go_at_call 121;(with_reducible refine (strings_IndexByte.calls a0 58 t118 _ A4.out).mono ?_);rintro e w' ⟨rfl,⟨nd,rfl⟩⟩))
   go_ret
   exact ⟨by first | rfl | (simp [errW_none,errW_some] <;> rfl) | (simp [*,errW_none,errW_some] <;> rfl),by repeat (first | (with_reducible first | exact HB.out | apply below_alloc | apply pw_below_drewN | apply below_drew1) | exact HB.out)⟩
  ·replace c3:=Bool.eq_false_iff.mpr c3
   subst c3
   have H1:(some false) = some r:=by rw [if_neg (show ¬ (false = true) by decide)] at H;exact H
   clear H
   have H:=H1
   clear H1
   obtain rfl:=Option.some.inj H
   go_enter Tryz.func84,Tryz.ntmps84
   go_wp2_with (first | ((with_reducible refine gate_callee (f:=120) rfl ?_);refine goesL_ (some 4) rfl rfl Tryz.func120 (by kernel_rfl) rfl #[.string a0] rfl (by (try simp only [List.map_toArray,List.map_cons,List.map_nil]);first | done | rfl | (simp only [List.length_drop,List.length_take];rfl)) ?_;(with_reducible refine (char_Name.calls k a0 false _ A2.out).mono ?_);rintro e w6 ⟨rfl,hb⟩;refine ⟨_,rfl,?_⟩;have n0_:=Aside0.mk (below_step (by repeat (first | (with_reducible first | exact HB.out | apply below_alloc | apply pw_below_drewN | apply below_drew1) | exact HB.out)) hb);clear HB;have HB:=n0_;clear n0_;(try clear hb);(try clear hb2);(try clear hk);(try clear hi)))
   go_ret
   exact ⟨by first | rfl | (simp [errW_none,errW_some] <;> rfl) | (simp [*,errW_none,errW_some] <;> rfl),by repeat (first | (with_reducible first | exact HB.out | apply below_alloc | apply pw_below_drewN | apply below_drew1) | exact HB.out)⟩
def ns_wrong.j0:Nat → ByteArray → ByteArray → Bool → Option (Bool)
  | 0,_,_,_=>none
  | k + 1,x1,x2,x7=>if x7 = true then (some true) else (if ((x1.toList == ([120,109,108]:List UInt8)) != (x2.toList == ([104,116,116,112,58,47,47,119,119,119,46,119,51,46,111,114,103,47,88,77,76,47,49,57,57,56,47,110,97,109,101,115,112,97,99,101]:List UInt8))) = true then (some true) else (if x2.toList = ([104,116,116,112,58,47,47,119,119,119,46,119,51,46,111,114,103,47,50,48,48,48,47,120,109,108,110,115,47]:List UInt8) then (some true) else (if x2.toList = ([]:List UInt8) then (some (!x1.toList.isEmpty)) else (some false))))
def ns_wrong.f (k:Nat) (a0:ByteArray) (a1:ByteArray) (a2:ByteArray):Option (Bool):=if a0.toList = ([120,109,108,110,115]:List UInt8) then (ns_wrong.j0 k a1 a2 false) else ((char_NCName.f k a1).bind fun t119=>(if t119 = true then (ns_wrong.j0 k a1 a2 (a1.toList == ([120,109,108,110,115]:List UInt8))) else (ns_wrong.j0 k a1 a2 true)))
theorem ns_wrong.mono_l:∀ k,(∀ y0 y1 y2,LeO (ns_wrong.j0 k y0 y1 y2) (ns_wrong.j0 (k + 1) y0 y1 y2))
  | 0=>fun _ _ _ r h=>by simp [ns_wrong.j0] at h
  | k + 1=>by
   have ih0:=ns_wrong.mono_l k
   ·intro y0 y1 y2
    unfold ns_wrong.j0
    repeat' first
    | (with_reducible exact ih0 _ _ _)
    | (with_reducible exact char_NCName.mono _ _)
    | (with_reducible exact LeO.refl _)
    | (with_reducible exact LeO.none _)
    | (with_reducible refine LeO.ite ?_ ?_)
    | (with_reducible refine LeO.bind ?_ (fun _=>?_))
    | exact ih0 _ _ _
    | exact char_NCName.mono _ _
    | exact LeO.none _
    | refine LeO.ite ?_ ?_
    | refine LeO.bind ?_ (fun _=>?_)
theorem ns_wrong.mono:∀ a0 a1 a2 k,LeO (ns_wrong.f k a0 a1 a2) (ns_wrong.f (k + 1) a0 a1 a2):=by
 intro a0 a1 a2 k
 have ih0:=ns_wrong.mono_l k
 unfold ns_wrong.f
 repeat' first
  | (with_reducible exact ih0 _ _ _)
  | (with_reducible exact char_NCName.mono _ _)
  | (with_reducible exact LeO.refl _)
  | (with_reducible exact LeO.none _)
  | (with_reducible refine LeO.ite ?_ ?_)
  | (with_reducible refine LeO.bind ?_ (fun _=>?_))
  | exact ih0 _ _ _
  | exact char_NCName.mono _ _
  | exact LeO.none _
  | refine LeO.ite ?_ ?_
  | refine LeO.bind ?_ (fun _=>?_)
set_option maxHeartbeats 8000000 in
set_option maxRecDepth 100000 in
theorem ns_wrong.calls (k:Nat) (a0:ByteArray) (a1:ByteArray) (a2:ByteArray) (r:Bool) (w:World) (h:ns_wrong.f k a0 a1 a2 = some r) :
    Calls Tryz.prog 64 #[.string a0,.string a1,.string a2] w fun e w'=>e = .returned (.bool r) ∧ Below w.heap.size w w':=by
  have HB:=Aside0.mk (Below.refl w.heap.size w)
  have H:(if a0.toList = ([120,109,108,110,115]:List UInt8) then (ns_wrong.j0 k a1 a2 false) else ((char_NCName.f k a1).bind fun t119=>(if t119 = true then (ns_wrong.j0 k a1 a2 (a1.toList == ([120,109,108,110,115]:List UInt8))) else (ns_wrong.j0 k a1 a2 true)))) = some r:=h
  clear h
  have HC4:=Aside0.mk H
  clear H
  go_enter Tryz.func64,Tryz.ntmps64
  go_upto_region 1 with (fail)
  go_cut [7] (fun v7 wc=>∃ (kq:Nat) (x7_3:Bool),v7 = .bool x7_3 ∧ Aside0 (ns_wrong.j0 kq a1 a2 x7_3 = some r) ∧ Aside0 (kq ≤ k) ∧ Aside0 (Below w.heap.size w wc))
  case first=>
   have H:=HC4.out
   clear HC4
   by_cases c5:a0.toList = ([120,109,108,110,115]:List UInt8)
   ·rw [if_pos c5] at H
    have c5b0:(a0.toList == ([120,109,108,110,115]:List UInt8)) = true:=beq_iff_eq.mpr c5
    have c5b1:(a0.toList != ([120,109,108,110,115]:List UInt8)) = false:=bne_eq_false_iff_eq.mpr c5
    clear c5
    (first | rw [c5b0] | (simp only [i64_w,i32_w];rw [c5b0]) | skip)
    have H':=Aside0.mk H
    clear H
    go_wp2
    go_meet
    case rel=>exact ⟨_,(false),(by first | rfl | (simp;done) | (simp [*];done)),H',⟨by first | omega | exact Nat.le_refl _⟩,⟨by repeat (first | (with_reducible first | exact HB.out | apply below_alloc | apply pw_below_drewN | apply below_drew1) | exact HB.out)⟩⟩
   ·rw [if_neg c5] at H
    have c5b0:(a0.toList == ([120,109,108,110,115]:List UInt8)) = false:=beq_eq_false_iff_ne.mpr c5
    have c5b1:(a0.toList != ([120,109,108,110,115]:List UInt8)) = true:=bne_iff_ne.mpr c5
    (first | rw [c5b0] | (simp only [i64_w,i32_w];rw [c5b0]) | skip)
    replace H:=Option.bind_eq_some_iff.mp H
    obtain ⟨t119,A60,H⟩:=H
    replace H:(if t119 = true then (ns_wrong.j0 k a1 a2 (a1.toList == ([120,109,108,110,115]:List UInt8))) else (ns_wrong.j0 k a1 a2 true)) = some r:=H
    have A6:=Aside0.mk A60
    clear A60
    by_cases c7:t119 = true
    ·subst c7
     have H1:(ns_wrong.j0 k a1 a2 (a1.toList == ([120,109,108,110,115]:List UInt8))) = some r:=by rw [if_pos rfl] at H;exact H
     clear H
     have H:=H1
     clear H1
     have H':=Aside0.mk H
     clear H
     go_wp2_with (first | (go_at_call 84;(with_reducible refine (char_NCName.calls k a1 true _ A6.out).mono ?_);rintro e w8 ⟨rfl,hb⟩;have n0_:=Aside0.mk (below_step (by repeat (first | (with_reducible first | exact HB.out | apply below_alloc | apply pw_below_drewN | apply below_drew1) | exact HB.out)) hb);clear HB;have HB:=n0_;clear n0_;(try clear hb);(try clear hb2);(try clear hk);(try clear hi)))
     go_meet
     case rel=>exact ⟨_,((a1.toList == ([120,109,108,110,115]:List UInt8))),(by first | rfl | (simp;done) | (simp [*];done)),H',⟨by first | omega | exact Nat.le_refl _⟩,⟨by repeat (first | (with_reducible first | exact HB.out | apply below_alloc | apply pw_below_drewN | apply below_drew1) | exact HB.out)⟩⟩
    ·replace c7:=Bool.eq_false_iff.mpr c7
     subst c7
     have H1:(ns_wrong.j0 k a1 a2 true) = some r:=by rw [if_neg (show ¬ (false = true) by decide)] at H;exact H
     clear H
     have H:=H1
     clear H1
     have H':=Aside0.mk H
     clear H
     go_wp2_with (first | (go_at_call 84;(with_reducible refine (char_NCName.calls k a1 false _ A6.out).mono ?_);rintro e w9 ⟨rfl,hb⟩;have n0_:=Aside0.mk (below_step (by repeat (first | (with_reducible first | exact HB.out | apply below_alloc | apply pw_below_drewN | apply below_drew1) | exact HB.out)) hb);clear HB;have HB:=n0_;clear n0_;(try clear hb);(try clear hb2);(try clear hk);(try clear hi)))
     go_meet
     case rel=>exact ⟨_,(true),(by first | rfl | (simp;done) | (simp [*];done)),H',⟨by first | omega | exact Nat.le_refl _⟩,⟨by repeat (first | (with_reducible first | exact HB.out | apply below_alloc | apply pw_below_drewN | apply below_drew1) | exact HB.out)⟩⟩
  case rest=>
   clear HC4
   try clear p2
   try clear c5
   try clear c5b0
   try clear c5b1
   try clear c6
   try clear c7
   obtain ⟨kq,x7_3,rfl,HA,HJ3,HB⟩:=hcut
   cases kq with
   | zero=>exact absurd HA.out (by simp [ns_wrong.j0])
   | succ kj3=>
    have H:=HA.out
    clear HA
    simp only [ns_wrong.j0] at H
    by_cases c10:x7_3 = true
    ·subst c10
     have H1:(some true) = some r:=by rw [if_pos rfl] at H;exact H
     clear H
     have H:=H1
     clear H1
     obtain rfl:=Option.some.inj H
     go_wp2
     go_ret
     exact ⟨by first | rfl | (simp [errW_none,errW_some] <;> rfl) | (simp [*,errW_none,errW_some] <;> rfl),by repeat (first | (with_reducible first | exact HB.out | apply below_alloc | apply pw_below_drewN | apply below_drew1) | exact HB.out)⟩
    ·replace c10:=Bool.eq_false_iff.mpr c10
     subst c10
     have H1:(if ((a1.toList == ([120,109,108]:List UInt8)) != (a2.toList == ([104,116,116,112,58,47,47,119,119,119,46,119,51,46,111,114,103,47,88,77,76,47,49,57,57,56,47,110,97,109,101,115,112,97,99,101]:List UInt8))) = true then (some true) else (if a2.toList = ([104,116,116,112,58,47,47,119,119,119,46,119,51,46,111,114,103,47,50,48,48,48,47,120,109,108,110,115,47]:List UInt8) then (some true) else (if a2.toList = ([]:List UInt8) then (some (!a1.toList.isEmpty)) else (some false)))) = some r:=by rw [if_neg (show ¬ (false = true) by decide)] at H;exact H
     clear H
     have H:=H1
     clear H1
     by_cases c11:((a1.toList == ([120,109,108]:List UInt8)) != (a2.toList == ([104,116,116,112,58,47,47,119,119,119,46,119,51,46,111,114,103,47,88,77,76,47,49,57,57,56,47,110,97,109,101,115,112,97,99,101]:List UInt8))) = true
     ·rw [if_pos c11] at H
      have c11b0:((a1.toList == ([120,109,108]:List UInt8)) != (a2.toList == ([104,116,116,112,58,47,47,119,119,119,46,119,51,46,111,114,103,47,88,77,76,47,49,57,57,56,47,110,97,109,101,115,112,97,99,101]:List UInt8))) = true:=c11
      (try (have c11b1:decide ((a1.toList == ([120,109,108]:List UInt8)) = (a2.toList == ([104,116,116,112,58,47,47,119,119,119,46,119,51,46,111,114,103,47,88,77,76,47,49,57,57,56,47,110,97,109,101,115,112,97,99,101]:List UInt8))) = false:=by simpa using c11))
      (try (have c11b2:((a1.toList == ([120,109,108]:List UInt8)) == (a2.toList == ([104,116,116,112,58,47,47,119,119,119,46,119,51,46,111,114,103,47,88,77,76,47,49,57,57,56,47,110,97,109,101,115,112,97,99,101]:List UInt8))) = false:=by simpa using c11))
      (try (have c11b3:¬ ((a1.toList == ([120,109,108]:List UInt8)) = (a2.toList == ([104,116,116,112,58,47,47,119,119,119,46,119,51,46,111,114,103,47,88,77,76,47,49,57,57,56,47,110,97,109,101,115,112,97,99,101]:List UInt8))):=by simpa using c11))
      clear c11
      obtain rfl:=Option.some.inj H
      go_wp2
      go_ret
      exact ⟨by first | rfl | (simp [errW_none,errW_some] <;> rfl) | (simp [*,errW_none,errW_some] <;> rfl),by repeat (first | (with_reducible first | exact HB.out | apply below_alloc | apply pw_below_drewN | apply below_drew1) | exact HB.out)⟩
     ·rw [if_neg c11] at H
      have c11b0:((a1.toList == ([120,109,108]:List UInt8)) != (a2.toList == ([104,116,116,112,58,47,47,119,119,119,46,119,51,46,111,114,103,47,88,77,76,47,49,57,57,56,47,110,97,109,101,115,112,97,99,101]:List UInt8))) = false:=by simpa using c11
      (try (have c11b1:decide ((a1.toList == ([120,109,108]:List UInt8)) = (a2.toList == ([104,116,116,112,58,47,47,119,119,119,46,119,51,46,111,114,103,47,88,77,76,47,49,57,57,56,47,110,97,109,101,115,112,97,99,101]:List UInt8))) = true:=by simpa using c11))
      (try (have c11b2:((a1.toList == ([120,109,108]:List UInt8)) == (a2.toList == ([104,116,116,112,58,47,47,119,119,119,46,119,51,46,111,114,103,47,88,77,76,47,49,57,57,56,47,110,97,109,101,115,112,97,99,101]:List UInt8))) = true:=by simpa using c11))
      clear c11
      by_cases c12:a2.toList = ([104,116,116,112,58,47,47,119,119,119,46,119,51,46,111,114,103,47,50,48,48,48,47,120,109,108,110,115,47]:List UInt8)
      ·rw [if_pos c12] at H
       have c12b0:(a2.toList == ([104,116,116,112,58,47,47,119,119,119,46,119,51,46,111,114,103,47,50,48,48,48,47,120,109,108,110,115,47]:List UInt8)) = true:=beq_iff_eq.mpr c12
       have c12b1:(a2.toList != ([104,116,116,112,58,47,47,119,119,119,46,119,51,46,111,114,103,47,50,48,48,48,47,120,109,108,110,115,47]:List UInt8)) = false:=bne_eq_false_iff_eq.mpr c12
       clear c12
       obtain rfl:=Option.some.inj H
       go_wp2
       go_ret
       exact ⟨by first | rfl | (simp [errW_none,errW_some] <;> rfl) | (simp [*,errW_none,errW_some] <;> rfl),by repeat (first | (with_reducible first | exact HB.out | apply below_alloc | apply pw_below_drewN | apply below_drew1) | exact HB.out)⟩
      ·rw [if_neg c12] at H
       have c12b0:(a2.toList == ([104,116,116,112,58,47,47,119,119,119,46,119,51,46,111,114,103,47,50,48,48,48,47,120,109,108,110,115,47]:List UInt8)) = false:=beq_eq_false_iff_ne.mpr c12
       have c12b1:(a2.toList != ([104,116,116,112,58,47,47,119,119,119,46,119,51,46,111,114,103,47,50,48,48,48,47,120,109,108,110,115,47]:List UInt8)) = true:=bne_iff_ne.mpr c12
       by_cases c13:a2.toList = ([]:List UInt8)
       ·rw [if_pos c13] at H
        have c13b0:(a2.toList == ([]:List UInt8)) = true:=beq_iff_eq.mpr c13
        have c13b1:(a2.toList != ([]:List UInt8)) = false:=bne_eq_false_iff_eq.mpr c13
        have c13b2:a2.toList.isEmpty = true:=by simpa using c13
        clear c13
        obtain rfl:=Option.some.inj H
        go_wp2
        go_ret
        exact ⟨by first | rfl | (simp [errW_none,errW_some] <;> rfl) | (simp [*,errW_none,errW_some] <;> rfl),by repeat (first | (with_reducible first | exact HB.out | apply below_alloc | apply pw_below_drewN | apply below_drew1) | exact HB.out)⟩
       ·rw [if_neg c13] at H
        have c13b0:(a2.toList == ([]:List UInt8)) = false:=beq_eq_false_iff_ne.mpr c13
        have c13b1:(a2.toList != ([]:List UInt8)) = true:=bne_iff_ne.mpr c13
        have c13b2:a2.toList.isEmpty = false:=by simpa using c13
        obtain rfl:=Option.some.inj H
        go_wp2
        go_ret
        exact ⟨by first | rfl | (simp [errW_none,errW_some] <;> rfl) | (simp [*,errW_none,errW_some] <;> rfl),by repeat (first | (with_reducible first | exact HB.out | apply below_alloc | apply pw_below_drewN | apply below_drew1) | exact HB.out)⟩
def strings_CutPrefix.f (a0 a1:ByteArray):Option (ByteArray × Bool):=some (⟨(Lib.trimPrefix a0.data.toList a1.data.toList).toArray⟩,Lib.hasPrefix a0.data.toList a1.data.toList)
theorem strings_CutPrefix.calls (a0:ByteArray) (a1:ByteArray) (r1:ByteArray) (r2:Bool) (w:World) (h:strings_CutPrefix.f a0 a1 = some (r1,r2)) :
    Calls Tryz.prog 83 #[.string a0,.string a1] w fun e w'=>e = .returned (.tuple #[.string r1,.bool r2]) ∧ Drawn0 w w':=by
  unfold strings_CutPrefix.f at h
  simp only [Option.some.injEq,Prod.mk.injEq] at h
  obtain ⟨rfl,rfl⟩:=h
  refine (Tryz.strings_CutPrefix a0 a1 w).mono fun e w' hh=>?_
  obtain ⟨rfl,rfl⟩:=hh
  exact ⟨rfl,Drawn0.refl _⟩
def ns_binds.f (a0:ByteArray):Option (ByteArray × Bool):=if a0.toList = ([120,109,108,110,115]:List UInt8) then (some ((⟨#[]⟩:ByteArray),true)) else ((strings_CutPrefix.f a0 (⟨#[120,109,108,110,115,58]⟩:ByteArray)).bind fun bt120=>(some (bt120.1,bt120.2)))
set_option maxHeartbeats 8000000 in
set_option maxRecDepth 100000 in
theorem ns_binds.calls (a0:ByteArray) (r1:ByteArray) (r2:Bool) (w:World) (h:ns_binds.f a0 = some (r1,r2)) :
    Calls Tryz.prog 63 #[.string a0] w fun e w'=>e = .returned (.tuple #[.string r1,.bool r2]) ∧ Drawn0 w w':=by
  have H:(if a0.toList = ([120,109,108,110,115]:List UInt8) then (some ((⟨#[]⟩:ByteArray),true)) else ((strings_CutPrefix.f a0 (⟨#[120,109,108,110,115,58]⟩:ByteArray)).bind fun bt120=>(some (bt120.1,bt120.2)))) = some (r1,r2):=h
  clear h
  by_cases c2:a0.toList = ([120,109,108,110,115]:List UInt8)
  ·rw [if_pos c2] at H
   have c2b0:(a0.toList == ([120,109,108,110,115]:List UInt8)) = true:=beq_iff_eq.mpr c2
   have c2b1:(a0.toList != ([120,109,108,110,115]:List UInt8)) = false:=bne_eq_false_iff_eq.mpr c2
   clear c2
   simp only [Option.some.injEq,Prod.mk.injEq] at H
   obtain ⟨rfl,rfl⟩:=H
   go_enter Tryz.func63,Tryz.ntmps63
   go_wp2
   go_ret2
   exact ⟨by first | rfl | (simp;done) | (simp [*];done),by repeat (first | exact Drawn0.refl _ | apply Drawn0.step)⟩
  ·rw [if_neg c2] at H
   have c2b0:(a0.toList == ([120,109,108,110,115]:List UInt8)) = false:=beq_eq_false_iff_ne.mpr c2
   have c2b1:(a0.toList != ([120,109,108,110,115]:List UInt8)) = true:=bne_iff_ne.mpr c2
   replace H:=Option.bind_eq_some_iff.mp H
   obtain ⟨⟨t120,t121⟩,A30,H⟩:=H
   replace H:(some (t120,t121)) = some (r1,r2):=H
   have A3:=Aside0.mk A30
   clear A30
   simp only [Option.some.injEq,Prod.mk.injEq] at H
   obtain ⟨rfl,rfl⟩:=H
   go_enter Tryz.func63,Tryz.ntmps63
   go_wp2_with (first | ((with_reducible refine gate_callee (f:=83) rfl ?_);refine goesL_ (some 7) rfl rfl Tryz.func83 (by kernel_rfl) rfl #[.string a0,.string (⟨#[120,109,108,110,115,58]⟩:ByteArray)] rfl (by (try simp only [List.map_toArray,List.map_cons,List.map_nil]);first | done | rfl | (simp only [List.length_drop,List.length_take];rfl)) ?_;(with_reducible refine (strings_CutPrefix.calls a0 (⟨#[120,109,108,110,115,58]⟩:ByteArray) t120 t121 _ A3.out).mono ?_);rintro e w' ⟨rfl,⟨nd,rfl⟩⟩;refine ⟨_,rfl,?_⟩))
   go_ret2
   exact ⟨by first | rfl | (simp;done) | (simp [*];done),by repeat (first | exact Drawn0.refl _ | apply Drawn0.step)⟩
def strings_Cut.f (a0 a1:ByteArray):Option (ByteArray × ByteArray × Bool) :=
  if a0.size < 140737488355328 then match a1.data.toList with
  | [c]=>if Lib.indexByte a0.data.toList c < 0 then some (a0,⟨#[]⟩,false) else some (a0.extract 0 (Lib.indexByte a0.data.toList c).toNat,a0.extract ((Lib.indexByte a0.data.toList c).toNat + 1) a0.size,true)
  | _=>none
  else none
theorem indexByte_range (l:List UInt8) (c:UInt8):-1 ≤ Lib.indexByte l c ∧ Lib.indexByte l c < l.length:=by
 induction l with
 | nil=>simp [Lib.indexByte]
 | cons b l ih=>
  unfold Lib.indexByte
  simp only [List.length_cons]
  split
  · omega
  ·split
   · omega
   · omega
set_option maxHeartbeats 1600000 in
set_option maxRecDepth 100000 in
theorem cut_no (a0:ByteArray) (c:UInt8) (w:World) (hi:Lib.indexByte a0.data.toList c < 0) :
    Calls Tryz.prog 207 #[.string a0,.string ⟨#[c]⟩] w fun e w'=>e = .returned (.tuple #[.string a0,.string ⟨#[]⟩,.bool false]) ∧ Drawn0 w w':=by
  have hd:decide (Lib.indexByte a0.data.toList c ≥ 0) = false:=by rw [decide_eq_false_iff_not];omega
  go_enter Tryz.func207,Tryz.ntmps207
  go_wp2_with (go_at_call 234;(with_reducible refine (Tryz.stringslite_Index_one a0 c _).mono ?_);rintro e w' ⟨rfl,rfl⟩)
  go_ret3
  exact ⟨by first | rfl | (simp;done) | (simp [*];done),by repeat (first | exact Drawn0.refl _ | apply Drawn0.step)⟩
set_option maxHeartbeats 1600000 in
set_option maxRecDepth 100000 in
theorem cut_yes (a0:ByteArray) (c:UInt8) (i:Nat) (w:World) (hi:Lib.indexByte a0.data.toList c = i) (hs:i < a0.size) (hz:a0.size < 140737488355328) :
    Calls Tryz.prog 207 #[.string a0,.string ⟨#[c]⟩] w fun e w'=>e = .returned (.tuple #[.string (a0.extract 0 i),.string (a0.extract (i + 1) a0.size),.bool true]) ∧ Drawn0 w w':=by
  have HI:=Aside0.mk hi
  clear hi
  have c1:(0:Int) ≤ ↑i:=by omega
  have c0:IntKind.i64.wrap ((i:Int) + 1) = (i:Int) + 1:=IntWalk.i64_in _ (by omega)
  have c5:((i:Int) + 1).toNat = i + 1:=by omega
  have c2:(↑i:Int) ≤ ↑a0.size:=by omega
  have c3:(0:Int) ≤ ↑i + 1:=by omega
  have c4:(↑i + 1:Int) ≤ ↑a0.size:=by omega
  go_enter Tryz.func207,Tryz.ntmps207
  go_wp2_with (go_at_call 234;(with_reducible refine (Tryz.stringslite_Index_one a0 c _).mono ?_);rintro e w' ⟨rfl,rfl⟩;rw [HI.out])
  go_region
  all_goals
   go_wp2
   go_ret3
   exact ⟨by first | rfl | (simp;done) | (simp [*];done),⟨⟨1,rfl⟩⟩⟩
theorem strings_Cut.calls (a0:ByteArray) (a1:ByteArray) (r1:ByteArray) (r2:ByteArray) (r3:Bool) (w:World) (h:strings_Cut.f a0 a1 = some (r1,r2,r3)) :
    Calls Tryz.prog 163 #[.string a0,.string a1] w fun e w'=>e = .returned (.tuple #[.string r1,.string r2,.bool r3]) ∧ Drawn0 w w':=by
  have key:Calls Tryz.prog 207 #[.string a0,.string a1] w fun e w'=>e = .returned (.tuple #[.string r1,.string r2,.bool r3]) ∧ Drawn0 w w':=by
   unfold strings_Cut.f at h
   obtain ⟨⟨l1⟩⟩:=a1
   by_cases hz:a0.size < 140737488355328
   rotate_left
   · rw [if_neg hz] at h;exact absurd h (by simp)
   rw [if_pos hz] at h
   match l1,h with
   | [c],h=>
    simp only [] at h
    have hr:=indexByte_range a0.data.toList c
    by_cases hi:Lib.indexByte a0.data.toList c < 0
    ·rw [if_pos hi] at h
     simp only [Option.some.injEq,Prod.mk.injEq] at h
     obtain ⟨rfl,rfl,rfl⟩:=h
     exact cut_no a0 c w hi
    ·rw [if_neg hi] at h
     simp only [Option.some.injEq,Prod.mk.injEq] at h
     obtain ⟨rfl,rfl,rfl⟩:=h
     obtain ⟨i,hi'⟩:∃ i:Nat,Lib.indexByte a0.data.toList c = i:=⟨(Lib.indexByte a0.data.toList c).toNat,by omega⟩
     rw [hi',Int.toNat_natCast]
     have hs:i < a0.size:=by
      have:=hr.2
      rw [hi',data_length] at this
      omega
     exact cut_yes a0 c i w hi' hs hz
  go_enter Tryz.func163,Tryz.ntmps163
  go_wp2_with fail
  refine key.mono ?_
  rintro e w' ⟨rfl,⟨nd,rfl⟩⟩
  go_wp2
  go_ret3
  exact ⟨by first | rfl | (simp;done) | (simp [*];done),by repeat (first | exact Drawn0.refl _ | apply Drawn0.step)⟩
end Go.Proofs.YtbaokjfhigjpdaaGreatDoor.PNsBase
end
