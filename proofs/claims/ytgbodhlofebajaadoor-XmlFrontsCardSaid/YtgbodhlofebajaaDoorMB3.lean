/- What is proved: what the claims of this seat share, part 3: a program of ours merged it out of our own texts, the print's words and the laid shelf. Conditions: those of each. -/
import Derived.Test.YtgbodhlofebajaaDoorMB2
set_option linter.unusedVariables false
set_option linter.unusedSimpArgs false
section
namespace Go.Proofs.YtgbodhlofebajaaDoor.PXmlBase
open Go.RowKit Go.Proofs.YtgbodhlofebajaaDoorW.PrintWords Go.Proofs.YtgbodhlofebajaaDoorW.PrintLast Go.Proofs.YtgbodhlofebajaaDoorW.PrintMore
attribute [local go_sem] max2_int min2_int max_two min_two max_three min_three max_four min_four   -- for this text's walks alone
set_option linter.unusedVariables false
set_option linter.unusedSimpArgs false
mutual
def xml_digit.j0 : Nat → Int → Int → Int → Bool → Option (Int)
  | 0, _, _, _, _ => none
  | k + 1, x0, x1, x5, x6 => if x6 = true then (if (wrap64 (wrap32 (x0 - 48))) ≥ x1 then (some (-1)) else (some (wrap64 (wrap32 (x0 - 48))))) else (if x0 ≥ 97 then (xml_digit.j1 k x0 x1 x5 (decide (x0 ≤ 102))) else (xml_digit.j1 k x0 x1 x5 false))
def xml_digit.j1 : Nat → Int → Int → Int → Bool → Option (Int)
  | 0, _, _, _, _ => none
  | k + 1, x0, x1, x5, x16 => if x16 = true then (xml_digit.j2 k x0 x1 x5 x16) else (if x0 ≥ 65 then (xml_digit.j2 k x0 x1 x5 (decide (x0 ≤ 70))) else (xml_digit.j2 k x0 x1 x5 false))
def xml_digit.j2 : Nat → Int → Int → Int → Bool → Option (Int)
  | 0, _, _, _, _ => none
  | k + 1, x0, x1, x5, x16 => if x16 = true then (if (wrap64 ((wrap64 (wrap32 ((Go.bits .or .i32 x0 32) - 97))) + 10)) ≥ x1 then (some (-1)) else (some (wrap64 ((wrap64 (wrap32 ((Go.bits .or .i32 x0 32) - 97))) + 10)))) else (if x5 ≥ x1 then (some (-1)) else (some x5))
end
def xml_digit.f (k : Nat) (a0 : Int) (a1 : Int) : Option (Int) := if a0 ≥ 48 then (xml_digit.j0 k a0 a1 (-1) (decide (a0 ≤ 57))) else (xml_digit.j0 k a0 a1 (-1) false)
theorem xml_digit.mono_l : ∀ k, (∀ y0 y1 y2 y3, LeO (xml_digit.j0 k y0 y1 y2 y3) (xml_digit.j0 (k + 1) y0 y1 y2 y3)) ∧ (∀ y0 y1 y2 y3, LeO (xml_digit.j1 k y0 y1 y2 y3) (xml_digit.j1 (k + 1) y0 y1 y2 y3)) ∧ (∀ y0 y1 y2 y3, LeO (xml_digit.j2 k y0 y1 y2 y3) (xml_digit.j2 (k + 1) y0 y1 y2 y3))
  | 0 => ⟨fun _ _ _ _ r h => by simp [xml_digit.j0] at h, fun _ _ _ _ r h => by simp [xml_digit.j1] at h, fun _ _ _ _ r h => by simp [xml_digit.j2] at h⟩
  | k + 1 => by
    obtain ⟨ih0, ih1, ih2⟩ := xml_digit.mono_l k
    refine ⟨?_, ?_, ?_⟩
    · intro y0 y1 y2 y3
      unfold xml_digit.j0
      repeat' first
      | (with_reducible exact ih0 _ _ _ _)
      | (with_reducible exact ih1 _ _ _ _)
      | (with_reducible exact ih2 _ _ _ _)
      | (with_reducible exact LeO.refl _)
      | (with_reducible exact LeO.none _)
      | (with_reducible refine LeO.ite ?_ ?_)
      | (with_reducible refine LeO.bind ?_ (fun _ => ?_))
      | exact ih0 _ _ _ _
      | exact ih1 _ _ _ _
      | exact ih2 _ _ _ _
      | exact LeO.none _
      | refine LeO.ite ?_ ?_
      | refine LeO.bind ?_ (fun _ => ?_)
    · intro y0 y1 y2 y3
      unfold xml_digit.j1
      repeat' first
      | (with_reducible exact ih0 _ _ _ _)
      | (with_reducible exact ih1 _ _ _ _)
      | (with_reducible exact ih2 _ _ _ _)
      | (with_reducible exact LeO.refl _)
      | (with_reducible exact LeO.none _)
      | (with_reducible refine LeO.ite ?_ ?_)
      | (with_reducible refine LeO.bind ?_ (fun _ => ?_))
      | exact ih0 _ _ _ _
      | exact ih1 _ _ _ _
      | exact ih2 _ _ _ _
      | exact LeO.none _
      | refine LeO.ite ?_ ?_
      | refine LeO.bind ?_ (fun _ => ?_)
    · intro y0 y1 y2 y3
      unfold xml_digit.j2
      repeat' first
      | (with_reducible exact ih0 _ _ _ _)
      | (with_reducible exact ih1 _ _ _ _)
      | (with_reducible exact ih2 _ _ _ _)
      | (with_reducible exact LeO.refl _)
      | (with_reducible exact LeO.none _)
      | (with_reducible refine LeO.ite ?_ ?_)
      | (with_reducible refine LeO.bind ?_ (fun _ => ?_))
      | exact ih0 _ _ _ _
      | exact ih1 _ _ _ _
      | exact ih2 _ _ _ _
      | exact LeO.none _
      | refine LeO.ite ?_ ?_
      | refine LeO.bind ?_ (fun _ => ?_)
theorem xml_digit.mono : ∀ a0 a1 k, LeO (xml_digit.f k a0 a1) (xml_digit.f (k + 1) a0 a1) := by
  intro a0 a1 k
  obtain ⟨ih0, ih1, ih2⟩ := xml_digit.mono_l k
  unfold xml_digit.f
  repeat' first
      | (with_reducible exact ih0 _ _ _ _)
      | (with_reducible exact ih1 _ _ _ _)
      | (with_reducible exact ih2 _ _ _ _)
      | (with_reducible exact LeO.refl _)
      | (with_reducible exact LeO.none _)
      | (with_reducible refine LeO.ite ?_ ?_)
      | (with_reducible refine LeO.bind ?_ (fun _ => ?_))
      | exact ih0 _ _ _ _
      | exact ih1 _ _ _ _
      | exact ih2 _ _ _ _
      | exact LeO.none _
      | refine LeO.ite ?_ ?_
      | refine LeO.bind ?_ (fun _ => ?_)
set_option maxHeartbeats 8000000 in
set_option maxRecDepth 100000 in
theorem xml_digit.calls (k : Nat) (a0 : Int) (a1 : Int) (r : Int) (w : World) (h : xml_digit.f k a0 a1 = some r) :
    Calls Tryd.prog 84 #[.int .i32 a0, .int .i64 a1] w fun e w' => e = .returned (.int .i64 r) ∧ Drawn0 w w' := by
  have H : (if a0 ≥ 48 then (xml_digit.j0 k a0 a1 (-1) (decide (a0 ≤ 57))) else (xml_digit.j0 k a0 a1 (-1) false)) = some r := h
  clear h
  have HC3 := Aside0.mk H
  clear H
  go_enter Tryd.func84, Tryd.ntmps84
  go_upto_region 2 with (fail)
  go_cut [6] (fun v6 wc => ∃ (kq : Nat) (x6_2 : Bool), v6 = .bool x6_2 ∧ Aside0 (xml_digit.j0 kq a0 a1 (-1) x6_2 = some r) ∧ Aside0 (kq ≤ k) ∧ Drawn0 w wc)
  case first =>
    have H := HC3.out
    clear HC3
    by_cases c4 : a0 ≥ 48
    · rw [if_pos c4] at H
      have c4b0 : decide (48 ≤ a0) = true := decide_eq_true c4
      clear c4
      (first | rw [c4b0] | (simp only [i64_w, i32_w]; rw [c4b0]) | skip)
      have H' := Aside0.mk H
      clear H
      go_wp2
      go_meet
      case rel => exact ⟨_, (decide (a0 ≤ 57)), (by first | rfl | (simp; done) | (simp [*]; done)), H', ⟨by first | omega | exact Nat.le_refl _⟩, by repeat (first | exact Drawn0.refl _ | apply Drawn0.step)⟩
    · rw [if_neg c4] at H
      have c4b0 : decide (48 ≤ a0) = false := decide_eq_false c4
      clear c4
      (first | rw [c4b0] | (simp only [i64_w, i32_w]; rw [c4b0]) | skip)
      have H' := Aside0.mk H
      clear H
      go_wp2
      go_meet
      case rel => exact ⟨_, (false), (by first | rfl | (simp; done) | (simp [*]; done)), H', ⟨by first | omega | exact Nat.le_refl _⟩, by repeat (first | exact Drawn0.refl _ | apply Drawn0.step)⟩
  case rest =>
    clear HC3
    try clear p2
    try clear c4
    try clear c4b0
    obtain ⟨kq, x6_2, rfl, HA, HJ2, ⟨mc2, rfl⟩⟩ := hcut
    cases kq with
    | zero => exact absurd HA.out (by simp [xml_digit.j0])
    | succ kj2 =>
      have H := HA.out
      clear HA
      simp only [xml_digit.j0] at H
      by_cases c5 : x6_2 = true
      · subst c5
        have H1 : (if (wrap64 (wrap32 (a0 - 48))) ≥ a1 then (some (-1)) else (some (wrap64 (wrap32 (a0 - 48))))) = some r := by rw [if_pos rfl] at H; exact H
        clear H
        have H := H1
        clear H1
        by_cases c6 : (wrap64 (wrap32 (a0 - 48))) ≥ a1
        · rw [if_pos c6] at H
          have c6b0 : decide (a1 ≤ (wrap64 (wrap32 (a0 - 48)))) = true := decide_eq_true c6
          clear c6
          obtain rfl := Option.some.inj H
          go_wp2
          go_ret
          exact ⟨by first | rfl | (simp; done) | (simp [*]; done), by repeat (first | exact Drawn0.refl _ | apply Drawn0.step)⟩
        · rw [if_neg c6] at H
          have c6b0 : decide (a1 ≤ (wrap64 (wrap32 (a0 - 48)))) = false := decide_eq_false c6
          clear c6
          obtain rfl := Option.some.inj H
          go_wp2
          go_ret
          exact ⟨by first | rfl | (simp; done) | (simp [*]; done), by repeat (first | exact Drawn0.refl _ | apply Drawn0.step)⟩
      · replace c5 := Bool.eq_false_iff.mpr c5
        subst c5
        have H1 : (if a0 ≥ 97 then (xml_digit.j1 kj2 a0 a1 (-1) (decide (a0 ≤ 102))) else (xml_digit.j1 kj2 a0 a1 (-1) false)) = some r := by rw [if_neg (show ¬ (false = true) by decide)] at H; exact H
        clear H
        have H := H1
        clear H1
        have HC7 := Aside0.mk H
        clear H
        go_upto_region 4 with (fail)
        go_cut [16] (fun v16 wc => ∃ (kq : Nat) (x16_6 : Bool), v16 = .bool x16_6 ∧ Aside0 (xml_digit.j1 kq a0 a1 (-1) x16_6 = some r) ∧ Aside0 (kq ≤ kj2) ∧ Drawn0 w wc)
        case first =>
          have H := HC7.out
          clear HC7
          by_cases c8 : a0 ≥ 97
          · rw [if_pos c8] at H
            have c8b0 : decide (97 ≤ a0) = true := decide_eq_true c8
            clear c8
            (first | rw [c8b0] | (simp only [i64_w, i32_w]; rw [c8b0]) | skip)
            have H' := Aside0.mk H
            clear H
            go_wp2
            go_meet
            case rel => exact ⟨_, (decide (a0 ≤ 102)), (by first | rfl | (simp; done) | (simp [*]; done)), H', ⟨by have := HJ2.out; first | omega | exact Nat.le_refl _⟩, by repeat (first | exact Drawn0.refl _ | apply Drawn0.step)⟩
          · rw [if_neg c8] at H
            have c8b0 : decide (97 ≤ a0) = false := decide_eq_false c8
            clear c8
            (first | rw [c8b0] | (simp only [i64_w, i32_w]; rw [c8b0]) | skip)
            have H' := Aside0.mk H
            clear H
            go_wp2
            go_meet
            case rel => exact ⟨_, (false), (by first | rfl | (simp; done) | (simp [*]; done)), H', ⟨by have := HJ2.out; first | omega | exact Nat.le_refl _⟩, by repeat (first | exact Drawn0.refl _ | apply Drawn0.step)⟩
        case rest =>
          clear HC7
          try clear c2
          try clear p2
          try clear p3
          try clear c4
          try clear c4b0
          try clear c5
          try clear c6
          try clear c6b0
          try clear p6
          try clear c8
          try clear c8b0
          try clear p2
          obtain ⟨kq, x16_6, rfl, HA, HJ6, ⟨mc6, rfl⟩⟩ := hcut
          cases kq with
          | zero => exact absurd HA.out (by simp [xml_digit.j1])
          | succ kj6 =>
            have H := HA.out
            clear HA
            simp only [xml_digit.j1] at H
            have HC9 := Aside0.mk H
            clear H
            go_upto_if 16 with (fail)
            go_cut [16] (fun v16 wc => ∃ (kq : Nat) (x16_8 : Bool), v16 = .bool x16_8 ∧ Aside0 (xml_digit.j2 kq a0 a1 (-1) x16_8 = some r) ∧ Aside0 (kq ≤ kj6) ∧ Drawn0 w wc)
            case first =>
              have H := HC9.out
              clear HC9
              by_cases c10 : x16_6 = true
              · subst c10
                have H1 : (xml_digit.j2 kj6 a0 a1 (-1) true) = some r := by rw [if_pos rfl] at H; exact H
                clear H
                have H := H1
                clear H1
                have H' := Aside0.mk H
                clear H
                go_wp2
                go_meet
                case rel => exact ⟨_, (true), (by first | rfl | (simp; done) | (simp [*]; done)), H', ⟨by have := HJ2.out; have := HJ6.out; first | omega | exact Nat.le_refl _⟩, by repeat (first | exact Drawn0.refl _ | apply Drawn0.step)⟩
              · replace c10 := Bool.eq_false_iff.mpr c10
                subst c10
                have H1 : (if a0 ≥ 65 then (xml_digit.j2 kj6 a0 a1 (-1) (decide (a0 ≤ 70))) else (xml_digit.j2 kj6 a0 a1 (-1) false)) = some r := by rw [if_neg (show ¬ (false = true) by decide)] at H; exact H
                clear H
                have H := H1
                clear H1
                by_cases c11 : a0 ≥ 65
                · rw [if_pos c11] at H
                  have c11b0 : decide (65 ≤ a0) = true := decide_eq_true c11
                  clear c11
                  (first | rw [c11b0] | (simp only [i64_w, i32_w]; rw [c11b0]) | skip)
                  have H' := Aside0.mk H
                  clear H
                  go_wp2
                  go_meet
                  case rel => exact ⟨_, (decide (a0 ≤ 70)), (by first | rfl | (simp; done) | (simp [*]; done)), H', ⟨by have := HJ2.out; have := HJ6.out; first | omega | exact Nat.le_refl _⟩, by repeat (first | exact Drawn0.refl _ | apply Drawn0.step)⟩
                · rw [if_neg c11] at H
                  have c11b0 : decide (65 ≤ a0) = false := decide_eq_false c11
                  clear c11
                  (first | rw [c11b0] | (simp only [i64_w, i32_w]; rw [c11b0]) | skip)
                  have H' := Aside0.mk H
                  clear H
                  go_wp2
                  go_meet
                  case rel => exact ⟨_, (false), (by first | rfl | (simp; done) | (simp [*]; done)), H', ⟨by have := HJ2.out; have := HJ6.out; first | omega | exact Nat.le_refl _⟩, by repeat (first | exact Drawn0.refl _ | apply Drawn0.step)⟩
            case rest =>
              clear HC9
              try clear c1
              try clear c2
              try clear p2
              try clear p3
              try clear c4
              try clear c4b0
              try clear c5
              try clear c6
              try clear c6b0
              try clear p6
              try clear c8
              try clear c8b0
              try clear c10
              try clear c11
              try clear c11b0
              try clear p2
              try clear p3
              try clear p6
              obtain ⟨kq, x16_8, rfl, HA, HJ8, ⟨mc8, rfl⟩⟩ := hcut
              cases kq with
              | zero => exact absurd HA.out (by simp [xml_digit.j2])
              | succ kj8 =>
                have H := HA.out
                clear HA
                simp only [xml_digit.j2] at H
                by_cases c12 : x16_8 = true
                · subst c12
                  have H1 : (if (wrap64 ((wrap64 (wrap32 ((Go.bits .or .i32 a0 32) - 97))) + 10)) ≥ a1 then (some (-1)) else (some (wrap64 ((wrap64 (wrap32 ((Go.bits .or .i32 a0 32) - 97))) + 10)))) = some r := by rw [if_pos rfl] at H; exact H
                  clear H
                  have H := H1
                  clear H1
                  by_cases c13 : (wrap64 ((wrap64 (wrap32 ((Go.bits .or .i32 a0 32) - 97))) + 10)) ≥ a1
                  · rw [if_pos c13] at H
                    have c13b0 : decide (a1 ≤ (wrap64 ((wrap64 (wrap32 ((Go.bits .or .i32 a0 32) - 97))) + 10))) = true := decide_eq_true c13
                    clear c13
                    obtain rfl := Option.some.inj H
                    go_wp2
                    go_ret
                    exact ⟨by first | rfl | (simp; done) | (simp [*]; done), by repeat (first | exact Drawn0.refl _ | apply Drawn0.step)⟩
                  · rw [if_neg c13] at H
                    have c13b0 : decide (a1 ≤ (wrap64 ((wrap64 (wrap32 ((Go.bits .or .i32 a0 32) - 97))) + 10))) = false := decide_eq_false c13
                    clear c13
                    obtain rfl := Option.some.inj H
                    go_wp2
                    go_ret
                    exact ⟨by first | rfl | (simp; done) | (simp [*]; done), by repeat (first | exact Drawn0.refl _ | apply Drawn0.step)⟩
                · replace c12 := Bool.eq_false_iff.mpr c12
                  subst c12
                  have H1 : (if (-1) ≥ a1 then (some (-1)) else (some (-1))) = some r := by rw [if_neg (show ¬ (false = true) by decide)] at H; exact H
                  clear H
                  have H := H1
                  clear H1
                  by_cases c14 : (-1) ≥ a1
                  · rw [if_pos c14] at H
                    have c14b0 : decide (a1 ≤ (-1)) = true := decide_eq_true c14
                    clear c14
                    obtain rfl := Option.some.inj H
                    go_wp2
                    go_ret
                    exact ⟨by first | rfl | (simp; done) | (simp [*]; done), by repeat (first | exact Drawn0.refl _ | apply Drawn0.step)⟩
                  · rw [if_neg c14] at H
                    have c14b0 : decide (a1 ≤ (-1)) = false := decide_eq_false c14
                    clear c14
                    obtain rfl := Option.some.inj H
                    go_wp2
                    go_ret
                    exact ⟨by first | rfl | (simp; done) | (simp [*]; done), by repeat (first | exact Drawn0.refl _ | apply Drawn0.step)⟩
def xml_limit.f (a0 : Int) (a1 : Int) : Option (Int) := if a0 < 1 then (some a1) else (if a0 > a1 then (some a1) else (some a0))
set_option maxHeartbeats 8000000 in
set_option maxRecDepth 100000 in
theorem xml_limit.calls (a0 : Int) (a1 : Int) (r : Int) (w : World) (h : xml_limit.f a0 a1 = some r) :
    Calls Tryd.prog 28 #[.int .i64 a0, .int .i64 a1] w fun e w' => e = .returned (.int .i64 r) ∧ Drawn0 w w' := by
  have H : (if a0 < 1 then (some a1) else (if a0 > a1 then (some a1) else (some a0))) = some r := h
  clear h
  by_cases c3 : a0 < 1
  · rw [if_pos c3] at H
    have c3b0 : decide (a0 < 1) = true := decide_eq_true c3
    clear c3
    obtain rfl := Option.some.inj H
    go_enter Tryd.func28, Tryd.ntmps28
    go_wp2
    go_ret
    exact ⟨by first | rfl | (simp; done) | (simp [*]; done), by repeat (first | exact Drawn0.refl _ | apply Drawn0.step)⟩
  · rw [if_neg c3] at H
    have c3b0 : decide (a0 < 1) = false := decide_eq_false c3
    clear c3
    by_cases c4 : a0 > a1
    · rw [if_pos c4] at H
      have c4b0 : decide (a1 < a0) = true := decide_eq_true c4
      clear c4
      obtain rfl := Option.some.inj H
      go_enter Tryd.func28, Tryd.ntmps28
      go_wp2
      go_ret
      exact ⟨by first | rfl | (simp; done) | (simp [*]; done), by repeat (first | exact Drawn0.refl _ | apply Drawn0.step)⟩
    · rw [if_neg c4] at H
      have c4b0 : decide (a1 < a0) = false := decide_eq_false c4
      clear c4
      obtain rfl := Option.some.inj H
      go_enter Tryd.func28, Tryd.ntmps28
      go_wp2
      go_ret
      exact ⟨by first | rfl | (simp; done) | (simp [*]; done), by repeat (first | exact Drawn0.refl _ | apply Drawn0.step)⟩
def strings_HasPrefix.f (a0 a1 : ByteArray) : Option Bool := some (Lib.hasPrefix a0.data.toList a1.data.toList)
theorem strings_HasPrefix.calls (a0 : ByteArray) (a1 : ByteArray) (r : Bool) (w : World) (h : strings_HasPrefix.f a0 a1 = some r) :
    Calls Tryd.prog 56 #[.string a0, .string a1] w fun e w' => e = .returned (.bool r) ∧ Drawn0 w w' := by
  obtain rfl := Option.some.inj h
  refine (Tryd.strings_HasPrefix a0 a1 w).mono fun e w' hh => ?_
  obtain ⟨rfl, rfl⟩ := hh
  exact ⟨rfl, Drawn0.refl _⟩
end Go.Proofs.YtgbodhlofebajaaDoor.PXmlBase
end
section
namespace Go.Proofs.YtgbodhlofebajaaDoor.PXmlBase
open Go.RowKit Go.Proofs.YtgbodhlofebajaaDoorW.PrintWords Go.Proofs.YtgbodhlofebajaaDoorW.PrintLast Go.Proofs.YtgbodhlofebajaaDoorW.PrintMore
attribute [local go_sem] max2_int min2_int max_two min_two max_three min_three max_four min_four   -- for this text's walks alone
set_option linter.unusedVariables false
set_option linter.unusedSimpArgs false
def char_White.f (a0 : Int) : Option (Bool) := if a0 = 32 then (some true) else (if a0 = 9 then (some true) else (if a0 = 10 then (some true) else (some (a0 == 13))))
set_option maxHeartbeats 8000000 in
set_option maxRecDepth 100000 in
theorem char_White.calls (a0 : Int) (r : Bool) (w : World) (h : char_White.f a0 = some r) :
    Calls Tryd.prog 40 #[.int .i32 a0] w fun e w' => e = .returned (.bool r) ∧ Drawn0 w w' := by
  have H : (if a0 = 32 then (some true) else (if a0 = 9 then (some true) else (if a0 = 10 then (some true) else (some (a0 == 13))))) = some r := h
  clear h
  by_cases c2 : a0 = 32
  · rw [if_pos c2] at H
    have c2b0 : (a0 == 32) = true := beq_iff_eq.mpr c2
    have c2b1 : (a0 != 32) = false := bne_eq_false_iff_eq.mpr c2
    clear c2
    obtain rfl := Option.some.inj H
    go_enter Tryd.func40, Tryd.ntmps40
    go_wp2
    go_ret
    exact ⟨by first | rfl | (simp; done) | (simp [*]; done), by repeat (first | exact Drawn0.refl _ | apply Drawn0.step)⟩
  · rw [if_neg c2] at H
    have c2b0 : (a0 == 32) = false := beq_eq_false_iff_ne.mpr c2
    have c2b1 : (a0 != 32) = true := bne_iff_ne.mpr c2
    by_cases c3 : a0 = 9
    · rw [if_pos c3] at H
      have c3b0 : (a0 == 9) = true := beq_iff_eq.mpr c3
      have c3b1 : (a0 != 9) = false := bne_eq_false_iff_eq.mpr c3
      clear c3
      obtain rfl := Option.some.inj H
      go_enter Tryd.func40, Tryd.ntmps40
      go_wp2
      go_ret
      exact ⟨by first | rfl | (simp; done) | (simp [*]; done), by repeat (first | exact Drawn0.refl _ | apply Drawn0.step)⟩
    · rw [if_neg c3] at H
      have c3b0 : (a0 == 9) = false := beq_eq_false_iff_ne.mpr c3
      have c3b1 : (a0 != 9) = true := bne_iff_ne.mpr c3
      by_cases c4 : a0 = 10
      · rw [if_pos c4] at H
        have c4b0 : (a0 == 10) = true := beq_iff_eq.mpr c4
        have c4b1 : (a0 != 10) = false := bne_eq_false_iff_eq.mpr c4
        clear c4
        obtain rfl := Option.some.inj H
        go_enter Tryd.func40, Tryd.ntmps40
        go_wp2
        go_ret
        exact ⟨by first | rfl | (simp; done) | (simp [*]; done), by repeat (first | exact Drawn0.refl _ | apply Drawn0.step)⟩
      · rw [if_neg c4] at H
        have c4b0 : (a0 == 10) = false := beq_eq_false_iff_ne.mpr c4
        have c4b1 : (a0 != 10) = true := bne_iff_ne.mpr c4
        obtain rfl := Option.some.inj H
        go_enter Tryd.func40, Tryd.ntmps40
        go_wp2
        go_ret
        exact ⟨by first | rfl | (simp; done) | (simp [*]; done), by repeat (first | exact Drawn0.refl _ | apply Drawn0.step)⟩
def char_Char.f (a0 : Int) : Option (Bool) := if a0 < 32 then (if a0 = 9 then (some true) else (if a0 = 10 then (some true) else (some (a0 == 13)))) else (if a0 ≥ 55296 then (if a0 ≤ 57343 then (some false) else (if a0 ≤ 65533 then (some true) else (if a0 ≥ 65536 then (some (decide (a0 ≤ 1114111))) else (some false)))) else (if a0 ≤ 65533 then (some true) else (if a0 ≥ 65536 then (some (decide (a0 ≤ 1114111))) else (some false))))
set_option maxHeartbeats 8000000 in
set_option maxRecDepth 100000 in
theorem char_Char.calls (a0 : Int) (r : Bool) (w : World) (h : char_Char.f a0 = some r) :
    Calls Tryd.prog 63 #[.int .i32 a0] w fun e w' => e = .returned (.bool r) ∧ Drawn0 w w' := by
  have H : (if a0 < 32 then (if a0 = 9 then (some true) else (if a0 = 10 then (some true) else (some (a0 == 13)))) else (if a0 ≥ 55296 then (if a0 ≤ 57343 then (some false) else (if a0 ≤ 65533 then (some true) else (if a0 ≥ 65536 then (some (decide (a0 ≤ 1114111))) else (some false)))) else (if a0 ≤ 65533 then (some true) else (if a0 ≥ 65536 then (some (decide (a0 ≤ 1114111))) else (some false))))) = some r := h
  clear h
  by_cases c2 : a0 < 32
  · rw [if_pos c2] at H
    have c2b0 : decide (a0 < 32) = true := decide_eq_true c2
    clear c2
    by_cases c3 : a0 = 9
    · rw [if_pos c3] at H
      have c3b0 : (a0 == 9) = true := beq_iff_eq.mpr c3
      have c3b1 : (a0 != 9) = false := bne_eq_false_iff_eq.mpr c3
      clear c3
      obtain rfl := Option.some.inj H
      go_enter Tryd.func63, Tryd.ntmps63
      go_wp2
      go_ret
      exact ⟨by first | rfl | (simp; done) | (simp [*]; done), by repeat (first | exact Drawn0.refl _ | apply Drawn0.step)⟩
    · rw [if_neg c3] at H
      have c3b0 : (a0 == 9) = false := beq_eq_false_iff_ne.mpr c3
      have c3b1 : (a0 != 9) = true := bne_iff_ne.mpr c3
      by_cases c4 : a0 = 10
      · rw [if_pos c4] at H
        have c4b0 : (a0 == 10) = true := beq_iff_eq.mpr c4
        have c4b1 : (a0 != 10) = false := bne_eq_false_iff_eq.mpr c4
        clear c4
        obtain rfl := Option.some.inj H
        go_enter Tryd.func63, Tryd.ntmps63
        go_wp2
        go_ret
        exact ⟨by first | rfl | (simp; done) | (simp [*]; done), by repeat (first | exact Drawn0.refl _ | apply Drawn0.step)⟩
      · rw [if_neg c4] at H
        have c4b0 : (a0 == 10) = false := beq_eq_false_iff_ne.mpr c4
        have c4b1 : (a0 != 10) = true := bne_iff_ne.mpr c4
        obtain rfl := Option.some.inj H
        go_enter Tryd.func63, Tryd.ntmps63
        go_wp2
        go_ret
        exact ⟨by first | rfl | (simp; done) | (simp [*]; done), by repeat (first | exact Drawn0.refl _ | apply Drawn0.step)⟩
  · rw [if_neg c2] at H
    have c2b0 : decide (a0 < 32) = false := decide_eq_false c2
    clear c2
    by_cases c5 : a0 ≥ 55296
    · rw [if_pos c5] at H
      have c5b0 : decide (55296 ≤ a0) = true := decide_eq_true c5
      clear c5
      by_cases c6 : a0 ≤ 57343
      · rw [if_pos c6] at H
        have c6b0 : decide (a0 ≤ 57343) = true := decide_eq_true c6
        clear c6
        obtain rfl := Option.some.inj H
        go_enter Tryd.func63, Tryd.ntmps63
        go_wp2
        go_ret
        exact ⟨by first | rfl | (simp; done) | (simp [*]; done), by repeat (first | exact Drawn0.refl _ | apply Drawn0.step)⟩
      · rw [if_neg c6] at H
        have c6b0 : decide (a0 ≤ 57343) = false := decide_eq_false c6
        clear c6
        by_cases c7 : a0 ≤ 65533
        · rw [if_pos c7] at H
          have c7b0 : decide (a0 ≤ 65533) = true := decide_eq_true c7
          clear c7
          obtain rfl := Option.some.inj H
          go_enter Tryd.func63, Tryd.ntmps63
          go_wp2
          go_ret
          exact ⟨by first | rfl | (simp; done) | (simp [*]; done), by repeat (first | exact Drawn0.refl _ | apply Drawn0.step)⟩
        · rw [if_neg c7] at H
          have c7b0 : decide (a0 ≤ 65533) = false := decide_eq_false c7
          clear c7
          by_cases c8 : a0 ≥ 65536
          · rw [if_pos c8] at H
            have c8b0 : decide (65536 ≤ a0) = true := decide_eq_true c8
            clear c8
            obtain rfl := Option.some.inj H
            go_enter Tryd.func63, Tryd.ntmps63
            go_wp2
            go_ret
            exact ⟨by first | rfl | (simp; done) | (simp [*]; done), by repeat (first | exact Drawn0.refl _ | apply Drawn0.step)⟩
          · rw [if_neg c8] at H
            have c8b0 : decide (65536 ≤ a0) = false := decide_eq_false c8
            clear c8
            obtain rfl := Option.some.inj H
            go_enter Tryd.func63, Tryd.ntmps63
            go_wp2
            go_ret
            exact ⟨by first | rfl | (simp; done) | (simp [*]; done), by repeat (first | exact Drawn0.refl _ | apply Drawn0.step)⟩
    · rw [if_neg c5] at H
      have c5b0 : decide (55296 ≤ a0) = false := decide_eq_false c5
      clear c5
      by_cases c9 : a0 ≤ 65533
      · rw [if_pos c9] at H
        have c9b0 : decide (a0 ≤ 65533) = true := decide_eq_true c9
        clear c9
        obtain rfl := Option.some.inj H
        go_enter Tryd.func63, Tryd.ntmps63
        go_wp2
        go_ret
        exact ⟨by first | rfl | (simp; done) | (simp [*]; done), by repeat (first | exact Drawn0.refl _ | apply Drawn0.step)⟩
      · rw [if_neg c9] at H
        have c9b0 : decide (a0 ≤ 65533) = false := decide_eq_false c9
        clear c9
        by_cases c10 : a0 ≥ 65536
        · rw [if_pos c10] at H
          have c10b0 : decide (65536 ≤ a0) = true := decide_eq_true c10
          clear c10
          obtain rfl := Option.some.inj H
          go_enter Tryd.func63, Tryd.ntmps63
          go_wp2
          go_ret
          exact ⟨by first | rfl | (simp; done) | (simp [*]; done), by repeat (first | exact Drawn0.refl _ | apply Drawn0.step)⟩
        · rw [if_neg c10] at H
          have c10b0 : decide (65536 ≤ a0) = false := decide_eq_false c10
          clear c10
          obtain rfl := Option.some.inj H
          go_enter Tryd.func63, Tryd.ntmps63
          go_wp2
          go_ret
          exact ⟨by first | rfl | (simp; done) | (simp [*]; done), by repeat (first | exact Drawn0.refl _ | apply Drawn0.step)⟩
mutual
def char_Start.j0 : Nat → Int → Bool → Option (Bool)
  | 0, _, _ => none
  | k + 1, x0, x3 => if x3 = true then (some true) else (if x0 ≥ 97 then (char_Start.j1 k x0 (decide (x0 ≤ 122))) else (char_Start.j1 k x0 false))
def char_Start.j1 : Nat → Int → Bool → Option (Bool)
  | 0, _, _ => none
  | k + 1, x0, x3 => if x3 = true then (some true) else (if x0 = 95 then (some true) else (if x0 = 58 then (some true) else (if x0 ≥ 192 then (if x0 = 215 then (some false) else (if x0 = 247 then (some false) else ((char_Char.f x0).bind fun t101 => (some t101)))) else (some false))))
end
def char_Start.f (k : Nat) (a0 : Int) : Option (Bool) := if a0 ≥ 65 then (char_Start.j0 k a0 (decide (a0 ≤ 90))) else (char_Start.j0 k a0 false)
theorem char_Start.mono_l : ∀ k, (∀ y0 y1, LeO (char_Start.j0 k y0 y1) (char_Start.j0 (k + 1) y0 y1)) ∧ (∀ y0 y1, LeO (char_Start.j1 k y0 y1) (char_Start.j1 (k + 1) y0 y1))
  | 0 => ⟨fun _ _ r h => by simp [char_Start.j0] at h, fun _ _ r h => by simp [char_Start.j1] at h⟩
  | k + 1 => by
    obtain ⟨ih0, ih1⟩ := char_Start.mono_l k
    refine ⟨?_, ?_⟩
    · intro y0 y1
      unfold char_Start.j0
      repeat' first
      | (with_reducible exact ih0 _ _)
      | (with_reducible exact ih1 _ _)
      | (with_reducible exact LeO.refl _)
      | (with_reducible exact LeO.none _)
      | (with_reducible refine LeO.ite ?_ ?_)
      | (with_reducible refine LeO.bind ?_ (fun _ => ?_))
      | exact ih0 _ _
      | exact ih1 _ _
      | exact LeO.none _
      | refine LeO.ite ?_ ?_
      | refine LeO.bind ?_ (fun _ => ?_)
    · intro y0 y1
      unfold char_Start.j1
      repeat' first
      | (with_reducible exact ih0 _ _)
      | (with_reducible exact ih1 _ _)
      | (with_reducible exact LeO.refl _)
      | (with_reducible exact LeO.none _)
      | (with_reducible refine LeO.ite ?_ ?_)
      | (with_reducible refine LeO.bind ?_ (fun _ => ?_))
      | exact ih0 _ _
      | exact ih1 _ _
      | exact LeO.none _
      | refine LeO.ite ?_ ?_
      | refine LeO.bind ?_ (fun _ => ?_)
theorem char_Start.mono : ∀ a0 k, LeO (char_Start.f k a0) (char_Start.f (k + 1) a0) := by
  intro a0 k
  obtain ⟨ih0, ih1⟩ := char_Start.mono_l k
  unfold char_Start.f
  repeat' first
      | (with_reducible exact ih0 _ _)
      | (with_reducible exact ih1 _ _)
      | (with_reducible exact LeO.refl _)
      | (with_reducible exact LeO.none _)
      | (with_reducible refine LeO.ite ?_ ?_)
      | (with_reducible refine LeO.bind ?_ (fun _ => ?_))
      | exact ih0 _ _
      | exact ih1 _ _
      | exact LeO.none _
      | refine LeO.ite ?_ ?_
      | refine LeO.bind ?_ (fun _ => ?_)
set_option maxHeartbeats 8000000 in
set_option maxRecDepth 100000 in
theorem char_Start.calls (k : Nat) (a0 : Int) (r : Bool) (w : World) (h : char_Start.f k a0 = some r) :
    Calls Tryd.prog 44 #[.int .i32 a0] w fun e w' => e = .returned (.bool r) ∧ Drawn0 w w' := by
  have H : (if a0 ≥ 65 then (char_Start.j0 k a0 (decide (a0 ≤ 90))) else (char_Start.j0 k a0 false)) = some r := h
  clear h
  have HC2 := Aside0.mk H
  clear H
  go_enter Tryd.func44, Tryd.ntmps44
  go_upto_region 1 with (fail)
  go_cut [3] (fun v3 wc => ∃ (kq : Nat) (x3_1 : Bool), v3 = .bool x3_1 ∧ Aside0 (char_Start.j0 kq a0 x3_1 = some r) ∧ Aside0 (kq ≤ k) ∧ Drawn0 w wc)
  case first =>
    have H := HC2.out
    clear HC2
    by_cases c3 : a0 ≥ 65
    · rw [if_pos c3] at H
      have c3b0 : decide (65 ≤ a0) = true := decide_eq_true c3
      clear c3
      (first | rw [c3b0] | (simp only [i64_w, i32_w]; rw [c3b0]) | skip)
      have H' := Aside0.mk H
      clear H
      go_wp2
      go_meet
      case rel => exact ⟨_, (decide (a0 ≤ 90)), (by first | rfl | (simp; done) | (simp [*]; done)), H', ⟨by first | omega | exact Nat.le_refl _⟩, by repeat (first | exact Drawn0.refl _ | apply Drawn0.step)⟩
    · rw [if_neg c3] at H
      have c3b0 : decide (65 ≤ a0) = false := decide_eq_false c3
      clear c3
      (first | rw [c3b0] | (simp only [i64_w, i32_w]; rw [c3b0]) | skip)
      have H' := Aside0.mk H
      clear H
      go_wp2
      go_meet
      case rel => exact ⟨_, (false), (by first | rfl | (simp; done) | (simp [*]; done)), H', ⟨by first | omega | exact Nat.le_refl _⟩, by repeat (first | exact Drawn0.refl _ | apply Drawn0.step)⟩
  case rest =>
    clear HC2
    try clear p2
    try clear c3
    try clear c3b0
    obtain ⟨kq, x3_1, rfl, HA, HJ1, ⟨mc1, rfl⟩⟩ := hcut
    cases kq with
    | zero => exact absurd HA.out (by simp [char_Start.j0])
    | succ kj1 =>
      have H := HA.out
      clear HA
      simp only [char_Start.j0] at H
      by_cases c4 : x3_1 = true
      · subst c4
        have H1 : (some true) = some r := by rw [if_pos rfl] at H; exact H
        clear H
        have H := H1
        clear H1
        obtain rfl := Option.some.inj H
        go_wp2
        go_ret
        exact ⟨by first | rfl | (simp; done) | (simp [*]; done), by repeat (first | exact Drawn0.refl _ | apply Drawn0.step)⟩
      · replace c4 := Bool.eq_false_iff.mpr c4
        subst c4
        have H1 : (if a0 ≥ 97 then (char_Start.j1 kj1 a0 (decide (a0 ≤ 122))) else (char_Start.j1 kj1 a0 false)) = some r := by rw [if_neg (show ¬ (false = true) by decide)] at H; exact H
        clear H
        have H := H1
        clear H1
        have HC5 := Aside0.mk H
        clear H
        go_upto_region 2 with (fail)
        go_cut [3] (fun v3 wc => ∃ (kq : Nat) (x3_4 : Bool), v3 = .bool x3_4 ∧ Aside0 (char_Start.j1 kq a0 x3_4 = some r) ∧ Aside0 (kq ≤ kj1) ∧ Drawn0 w wc)
        case first =>
          have H := HC5.out
          clear HC5
          by_cases c6 : a0 ≥ 97
          · rw [if_pos c6] at H
            have c6b0 : decide (97 ≤ a0) = true := decide_eq_true c6
            clear c6
            (first | rw [c6b0] | (simp only [i64_w, i32_w]; rw [c6b0]) | skip)
            have H' := Aside0.mk H
            clear H
            go_wp2
            go_meet
            case rel => exact ⟨_, (decide (a0 ≤ 122)), (by first | rfl | (simp; done) | (simp [*]; done)), H', ⟨by have := HJ1.out; first | omega | exact Nat.le_refl _⟩, by repeat (first | exact Drawn0.refl _ | apply Drawn0.step)⟩
          · rw [if_neg c6] at H
            have c6b0 : decide (97 ≤ a0) = false := decide_eq_false c6
            clear c6
            (first | rw [c6b0] | (simp only [i64_w, i32_w]; rw [c6b0]) | skip)
            have H' := Aside0.mk H
            clear H
            go_wp2
            go_meet
            case rel => exact ⟨_, (false), (by first | rfl | (simp; done) | (simp [*]; done)), H', ⟨by have := HJ1.out; first | omega | exact Nat.le_refl _⟩, by repeat (first | exact Drawn0.refl _ | apply Drawn0.step)⟩
        case rest =>
          clear HC5
          try clear c1
          try clear p2
          try clear c3
          try clear c3b0
          try clear c4
          try clear c6
          try clear c6b0
          try clear p2
          obtain ⟨kq, x3_4, rfl, HA, HJ4, ⟨mc4, rfl⟩⟩ := hcut
          cases kq with
          | zero => exact absurd HA.out (by simp [char_Start.j1])
          | succ kj4 =>
            have H := HA.out
            clear HA
            simp only [char_Start.j1] at H
            by_cases c7 : x3_4 = true
            · subst c7
              have H1 : (some true) = some r := by rw [if_pos rfl] at H; exact H
              clear H
              have H := H1
              clear H1
              obtain rfl := Option.some.inj H
              go_wp2
              go_ret
              exact ⟨by first | rfl | (simp; done) | (simp [*]; done), by repeat (first | exact Drawn0.refl _ | apply Drawn0.step)⟩
            · replace c7 := Bool.eq_false_iff.mpr c7
              subst c7
              have H1 : (if a0 = 95 then (some true) else (if a0 = 58 then (some true) else (if a0 ≥ 192 then (if a0 = 215 then (some false) else (if a0 = 247 then (some false) else ((char_Char.f a0).bind fun t101 => (some t101)))) else (some false)))) = some r := by rw [if_neg (show ¬ (false = true) by decide)] at H; exact H
              clear H
              have H := H1
              clear H1
              by_cases c8 : a0 = 95
              · rw [if_pos c8] at H
                have c8b0 : (a0 == 95) = true := beq_iff_eq.mpr c8
                have c8b1 : (a0 != 95) = false := bne_eq_false_iff_eq.mpr c8
                clear c8
                obtain rfl := Option.some.inj H
                go_wp2
                go_ret
                exact ⟨by first | rfl | (simp; done) | (simp [*]; done), by repeat (first | exact Drawn0.refl _ | apply Drawn0.step)⟩
              · rw [if_neg c8] at H
                have c8b0 : (a0 == 95) = false := beq_eq_false_iff_ne.mpr c8
                have c8b1 : (a0 != 95) = true := bne_iff_ne.mpr c8
                by_cases c9 : a0 = 58
                · rw [if_pos c9] at H
                  have c9b0 : (a0 == 58) = true := beq_iff_eq.mpr c9
                  have c9b1 : (a0 != 58) = false := bne_eq_false_iff_eq.mpr c9
                  clear c9
                  obtain rfl := Option.some.inj H
                  go_wp2
                  go_ret
                  exact ⟨by first | rfl | (simp; done) | (simp [*]; done), by repeat (first | exact Drawn0.refl _ | apply Drawn0.step)⟩
                · rw [if_neg c9] at H
                  have c9b0 : (a0 == 58) = false := beq_eq_false_iff_ne.mpr c9
                  have c9b1 : (a0 != 58) = true := bne_iff_ne.mpr c9
                  by_cases c10 : a0 ≥ 192
                  · rw [if_pos c10] at H
                    have c10b0 : decide (192 ≤ a0) = true := decide_eq_true c10
                    clear c10
                    by_cases c11 : a0 = 215
                    · rw [if_pos c11] at H
                      have c11b0 : (a0 == 215) = true := beq_iff_eq.mpr c11
                      have c11b1 : (a0 != 215) = false := bne_eq_false_iff_eq.mpr c11
                      clear c11
                      obtain rfl := Option.some.inj H
                      go_wp2
                      go_ret
                      exact ⟨by first | rfl | (simp; done) | (simp [*]; done), by repeat (first | exact Drawn0.refl _ | apply Drawn0.step)⟩
                    · rw [if_neg c11] at H
                      have c11b0 : (a0 == 215) = false := beq_eq_false_iff_ne.mpr c11
                      have c11b1 : (a0 != 215) = true := bne_iff_ne.mpr c11
                      by_cases c12 : a0 = 247
                      · rw [if_pos c12] at H
                        have c12b0 : (a0 == 247) = true := beq_iff_eq.mpr c12
                        have c12b1 : (a0 != 247) = false := bne_eq_false_iff_eq.mpr c12
                        clear c12
                        obtain rfl := Option.some.inj H
                        go_wp2
                        go_ret
                        exact ⟨by first | rfl | (simp; done) | (simp [*]; done), by repeat (first | exact Drawn0.refl _ | apply Drawn0.step)⟩
                      · rw [if_neg c12] at H
                        have c12b0 : (a0 == 247) = false := beq_eq_false_iff_ne.mpr c12
                        have c12b1 : (a0 != 247) = true := bne_iff_ne.mpr c12
                        replace H := Option.bind_eq_some_iff.mp H
                        obtain ⟨t101, A130, H⟩ := H
                        replace H : (some t101) = some r := H
                        have A13 := Aside0.mk A130
                        clear A130
                        obtain rfl := Option.some.inj H
                        go_wp2_with (first | (go_at_call 63; (with_reducible refine (char_Char.calls a0 t101 _ A13.out).mono ?_); rintro e w' ⟨rfl, ⟨nd, rfl⟩⟩))
                        go_ret
                        exact ⟨by first | rfl | (simp; done) | (simp [*]; done), by repeat (first | exact Drawn0.refl _ | apply Drawn0.step)⟩
                  · rw [if_neg c10] at H
                    have c10b0 : decide (192 ≤ a0) = false := decide_eq_false c10
                    clear c10
                    obtain rfl := Option.some.inj H
                    go_wp2
                    go_ret
                    exact ⟨by first | rfl | (simp; done) | (simp [*]; done), by repeat (first | exact Drawn0.refl _ | apply Drawn0.step)⟩
def char_Part.f (k : Nat) (a0 : Int) : Option (Bool) := (char_Start.f k a0).bind fun t102 => (if t102 = true then (some true) else (if a0 ≥ 48 then (if a0 ≤ 57 then (some true) else (if a0 = 45 then (some true) else (if a0 = 46 then (some true) else (some (a0 == 183))))) else (if a0 = 45 then (some true) else (if a0 = 46 then (some true) else (some (a0 == 183))))))
theorem char_Part.mono : ∀ a0 k, LeO (char_Part.f k a0) (char_Part.f (k + 1) a0) := by
  intro a0 k
  unfold char_Part.f
  repeat' first
      | (with_reducible exact char_Start.mono _ _)
      | (with_reducible exact LeO.refl _)
      | (with_reducible exact LeO.none _)
      | (with_reducible refine LeO.ite ?_ ?_)
      | (with_reducible refine LeO.bind ?_ (fun _ => ?_))
      | exact char_Start.mono _ _
      | exact LeO.none _
      | refine LeO.ite ?_ ?_
      | refine LeO.bind ?_ (fun _ => ?_)
set_option maxHeartbeats 8000000 in
set_option maxRecDepth 100000 in
theorem char_Part.calls (k : Nat) (a0 : Int) (r : Bool) (w : World) (h : char_Part.f k a0 = some r) :
    Calls Tryd.prog 78 #[.int .i32 a0] w fun e w' => e = .returned (.bool r) ∧ Drawn0 w w' := by
  have H : ((char_Start.f k a0).bind fun t102 => (if t102 = true then (some true) else (if a0 ≥ 48 then (if a0 ≤ 57 then (some true) else (if a0 = 45 then (some true) else (if a0 = 46 then (some true) else (some (a0 == 183))))) else (if a0 = 45 then (some true) else (if a0 = 46 then (some true) else (some (a0 == 183))))))) = some r := h
  clear h
  replace H := Option.bind_eq_some_iff.mp H
  obtain ⟨t102, A20, H⟩ := H
  replace H : (if t102 = true then (some true) else (if a0 ≥ 48 then (if a0 ≤ 57 then (some true) else (if a0 = 45 then (some true) else (if a0 = 46 then (some true) else (some (a0 == 183))))) else (if a0 = 45 then (some true) else (if a0 = 46 then (some true) else (some (a0 == 183)))))) = some r := H
  have A2 := Aside0.mk A20
  clear A20
  by_cases c3 : t102 = true
  · subst c3
    have H1 : (some true) = some r := by rw [if_pos rfl] at H; exact H
    clear H
    have H := H1
    clear H1
    obtain rfl := Option.some.inj H
    go_enter Tryd.func78, Tryd.ntmps78
    go_wp2_with (first | ((with_reducible refine gate_callee (f := 44) rfl ?_); refine goesL_ (some 4) rfl rfl Tryd.func44 (by kernel_rfl) rfl #[.int .i32 a0] rfl (by (try simp only [List.map_toArray, List.map_cons, List.map_nil]); first | done | rfl | (simp only [List.length_drop, List.length_take]; rfl)) ?_; (with_reducible refine (char_Start.calls k a0 true _ A2.out).mono ?_); rintro e w' ⟨rfl, ⟨nd, rfl⟩⟩; refine ⟨_, rfl, ?_⟩))
    go_ret
    exact ⟨by first | rfl | (simp; done) | (simp [*]; done), by repeat (first | exact Drawn0.refl _ | apply Drawn0.step)⟩
  · replace c3 := Bool.eq_false_iff.mpr c3
    subst c3
    have H1 : (if a0 ≥ 48 then (if a0 ≤ 57 then (some true) else (if a0 = 45 then (some true) else (if a0 = 46 then (some true) else (some (a0 == 183))))) else (if a0 = 45 then (some true) else (if a0 = 46 then (some true) else (some (a0 == 183))))) = some r := by rw [if_neg (show ¬ (false = true) by decide)] at H; exact H
    clear H
    have H := H1
    clear H1
    by_cases c4 : a0 ≥ 48
    · rw [if_pos c4] at H
      have c4b0 : decide (48 ≤ a0) = true := decide_eq_true c4
      clear c4
      by_cases c5 : a0 ≤ 57
      · rw [if_pos c5] at H
        have c5b0 : decide (a0 ≤ 57) = true := decide_eq_true c5
        clear c5
        obtain rfl := Option.some.inj H
        go_enter Tryd.func78, Tryd.ntmps78
        go_wp2_with (first | ((with_reducible refine gate_callee (f := 44) rfl ?_); refine goesL_ (some 4) rfl rfl Tryd.func44 (by kernel_rfl) rfl #[.int .i32 a0] rfl (by (try simp only [List.map_toArray, List.map_cons, List.map_nil]); first | done | rfl | (simp only [List.length_drop, List.length_take]; rfl)) ?_; (with_reducible refine (char_Start.calls k a0 false _ A2.out).mono ?_); rintro e w' ⟨rfl, ⟨nd, rfl⟩⟩; refine ⟨_, rfl, ?_⟩))
        go_ret
        exact ⟨by first | rfl | (simp; done) | (simp [*]; done), by repeat (first | exact Drawn0.refl _ | apply Drawn0.step)⟩
      · rw [if_neg c5] at H
        have c5b0 : decide (a0 ≤ 57) = false := decide_eq_false c5
        clear c5
        by_cases c6 : a0 = 45
        · rw [if_pos c6] at H
          have c6b0 : (a0 == 45) = true := beq_iff_eq.mpr c6
          have c6b1 : (a0 != 45) = false := bne_eq_false_iff_eq.mpr c6
          clear c6
          obtain rfl := Option.some.inj H
          go_enter Tryd.func78, Tryd.ntmps78
          go_wp2_with (first | ((with_reducible refine gate_callee (f := 44) rfl ?_); refine goesL_ (some 4) rfl rfl Tryd.func44 (by kernel_rfl) rfl #[.int .i32 a0] rfl (by (try simp only [List.map_toArray, List.map_cons, List.map_nil]); first | done | rfl | (simp only [List.length_drop, List.length_take]; rfl)) ?_; (with_reducible refine (char_Start.calls k a0 false _ A2.out).mono ?_); rintro e w' ⟨rfl, ⟨nd, rfl⟩⟩; refine ⟨_, rfl, ?_⟩))
          go_ret
          exact ⟨by first | rfl | (simp; done) | (simp [*]; done), by repeat (first | exact Drawn0.refl _ | apply Drawn0.step)⟩
        · rw [if_neg c6] at H
          have c6b0 : (a0 == 45) = false := beq_eq_false_iff_ne.mpr c6
          have c6b1 : (a0 != 45) = true := bne_iff_ne.mpr c6
          by_cases c7 : a0 = 46
          · rw [if_pos c7] at H
            have c7b0 : (a0 == 46) = true := beq_iff_eq.mpr c7
            have c7b1 : (a0 != 46) = false := bne_eq_false_iff_eq.mpr c7
            clear c7
            obtain rfl := Option.some.inj H
            go_enter Tryd.func78, Tryd.ntmps78
            go_wp2_with (first | ((with_reducible refine gate_callee (f := 44) rfl ?_); refine goesL_ (some 4) rfl rfl Tryd.func44 (by kernel_rfl) rfl #[.int .i32 a0] rfl (by (try simp only [List.map_toArray, List.map_cons, List.map_nil]); first | done | rfl | (simp only [List.length_drop, List.length_take]; rfl)) ?_; (with_reducible refine (char_Start.calls k a0 false _ A2.out).mono ?_); rintro e w' ⟨rfl, ⟨nd, rfl⟩⟩; refine ⟨_, rfl, ?_⟩))
            go_ret
            exact ⟨by first | rfl | (simp; done) | (simp [*]; done), by repeat (first | exact Drawn0.refl _ | apply Drawn0.step)⟩
          · rw [if_neg c7] at H
            have c7b0 : (a0 == 46) = false := beq_eq_false_iff_ne.mpr c7
            have c7b1 : (a0 != 46) = true := bne_iff_ne.mpr c7
            obtain rfl := Option.some.inj H
            go_enter Tryd.func78, Tryd.ntmps78
            go_wp2_with (first | ((with_reducible refine gate_callee (f := 44) rfl ?_); refine goesL_ (some 4) rfl rfl Tryd.func44 (by kernel_rfl) rfl #[.int .i32 a0] rfl (by (try simp only [List.map_toArray, List.map_cons, List.map_nil]); first | done | rfl | (simp only [List.length_drop, List.length_take]; rfl)) ?_; (with_reducible refine (char_Start.calls k a0 false _ A2.out).mono ?_); rintro e w' ⟨rfl, ⟨nd, rfl⟩⟩; refine ⟨_, rfl, ?_⟩))
            go_ret
            exact ⟨by first | rfl | (simp; done) | (simp [*]; done), by repeat (first | exact Drawn0.refl _ | apply Drawn0.step)⟩
    · rw [if_neg c4] at H
      have c4b0 : decide (48 ≤ a0) = false := decide_eq_false c4
      clear c4
      by_cases c8 : a0 = 45
      · rw [if_pos c8] at H
        have c8b0 : (a0 == 45) = true := beq_iff_eq.mpr c8
        have c8b1 : (a0 != 45) = false := bne_eq_false_iff_eq.mpr c8
        clear c8
        obtain rfl := Option.some.inj H
        go_enter Tryd.func78, Tryd.ntmps78
        go_wp2_with (first | ((with_reducible refine gate_callee (f := 44) rfl ?_); refine goesL_ (some 4) rfl rfl Tryd.func44 (by kernel_rfl) rfl #[.int .i32 a0] rfl (by (try simp only [List.map_toArray, List.map_cons, List.map_nil]); first | done | rfl | (simp only [List.length_drop, List.length_take]; rfl)) ?_; (with_reducible refine (char_Start.calls k a0 false _ A2.out).mono ?_); rintro e w' ⟨rfl, ⟨nd, rfl⟩⟩; refine ⟨_, rfl, ?_⟩))
        go_ret
        exact ⟨by first | rfl | (simp; done) | (simp [*]; done), by repeat (first | exact Drawn0.refl _ | apply Drawn0.step)⟩
      · rw [if_neg c8] at H
        have c8b0 : (a0 == 45) = false := beq_eq_false_iff_ne.mpr c8
        have c8b1 : (a0 != 45) = true := bne_iff_ne.mpr c8
        by_cases c9 : a0 = 46
        · rw [if_pos c9] at H
          have c9b0 : (a0 == 46) = true := beq_iff_eq.mpr c9
          have c9b1 : (a0 != 46) = false := bne_eq_false_iff_eq.mpr c9
          clear c9
          obtain rfl := Option.some.inj H
          go_enter Tryd.func78, Tryd.ntmps78
          go_wp2_with (first | ((with_reducible refine gate_callee (f := 44) rfl ?_); refine goesL_ (some 4) rfl rfl Tryd.func44 (by kernel_rfl) rfl #[.int .i32 a0] rfl (by (try simp only [List.map_toArray, List.map_cons, List.map_nil]); first | done | rfl | (simp only [List.length_drop, List.length_take]; rfl)) ?_; (with_reducible refine (char_Start.calls k a0 false _ A2.out).mono ?_); rintro e w' ⟨rfl, ⟨nd, rfl⟩⟩; refine ⟨_, rfl, ?_⟩))
          go_ret
          exact ⟨by first | rfl | (simp; done) | (simp [*]; done), by repeat (first | exact Drawn0.refl _ | apply Drawn0.step)⟩
        · rw [if_neg c9] at H
          have c9b0 : (a0 == 46) = false := beq_eq_false_iff_ne.mpr c9
          have c9b1 : (a0 != 46) = true := bne_iff_ne.mpr c9
          obtain rfl := Option.some.inj H
          go_enter Tryd.func78, Tryd.ntmps78
          go_wp2_with (first | ((with_reducible refine gate_callee (f := 44) rfl ?_); refine goesL_ (some 4) rfl rfl Tryd.func44 (by kernel_rfl) rfl #[.int .i32 a0] rfl (by (try simp only [List.map_toArray, List.map_cons, List.map_nil]); first | done | rfl | (simp only [List.length_drop, List.length_take]; rfl)) ?_; (with_reducible refine (char_Start.calls k a0 false _ A2.out).mono ?_); rintro e w' ⟨rfl, ⟨nd, rfl⟩⟩; refine ⟨_, rfl, ?_⟩))
          go_ret
          exact ⟨by first | rfl | (simp; done) | (simp [*]; done), by repeat (first | exact Drawn0.refl _ | apply Drawn0.step)⟩
def char_may.f (a0 : Int) : Option (Bool) := if a0 ≥ 0 then (if a0 ≤ 1114111 then (if a0 < 55296 then (some true) else (some (decide (a0 > 57343)))) else (some false)) else (some false)
set_option maxHeartbeats 8000000 in
set_option maxRecDepth 100000 in
theorem char_may.calls (a0 : Int) (r : Bool) (w : World) (h : char_may.f a0 = some r) :
    Calls Tryd.prog 77 #[.int .i32 a0] w fun e w' => e = .returned (.bool r) ∧ Drawn0 w w' := by
  have H : (if a0 ≥ 0 then (if a0 ≤ 1114111 then (if a0 < 55296 then (some true) else (some (decide (a0 > 57343)))) else (some false)) else (some false)) = some r := h
  clear h
  by_cases c2 : a0 ≥ 0
  · rw [if_pos c2] at H
    have c2b0 : decide (0 ≤ a0) = true := decide_eq_true c2
    clear c2
    by_cases c3 : a0 ≤ 1114111
    · rw [if_pos c3] at H
      have c3b0 : decide (a0 ≤ 1114111) = true := decide_eq_true c3
      clear c3
      by_cases c4 : a0 < 55296
      · rw [if_pos c4] at H
        have c4b0 : decide (a0 < 55296) = true := decide_eq_true c4
        clear c4
        obtain rfl := Option.some.inj H
        go_enter Tryd.func77, Tryd.ntmps77
        go_wp2
        go_ret
        exact ⟨by first | rfl | (simp; done) | (simp [*]; done), by repeat (first | exact Drawn0.refl _ | apply Drawn0.step)⟩
      · rw [if_neg c4] at H
        have c4b0 : decide (a0 < 55296) = false := decide_eq_false c4
        clear c4
        obtain rfl := Option.some.inj H
        go_enter Tryd.func77, Tryd.ntmps77
        go_wp2
        go_ret
        exact ⟨by first | rfl | (simp; done) | (simp [*]; done), by repeat (first | exact Drawn0.refl _ | apply Drawn0.step)⟩
    · rw [if_neg c3] at H
      have c3b0 : decide (a0 ≤ 1114111) = false := decide_eq_false c3
      clear c3
      obtain rfl := Option.some.inj H
      go_enter Tryd.func77, Tryd.ntmps77
      go_wp2
      go_ret
      exact ⟨by first | rfl | (simp; done) | (simp [*]; done), by repeat (first | exact Drawn0.refl _ | apply Drawn0.step)⟩
  · rw [if_neg c2] at H
    have c2b0 : decide (0 ≤ a0) = false := decide_eq_false c2
    clear c2
    obtain rfl := Option.some.inj H
    go_enter Tryd.func77, Tryd.ntmps77
    go_wp2
    go_ret
    exact ⟨by first | rfl | (simp; done) | (simp [*]; done), by repeat (first | exact Drawn0.refl _ | apply Drawn0.step)⟩
def char_lead.f (a0 : Int) : Option (Int × Int × Int) := if a0 < 128 then (some (1, wrap32 (a0), 0)) else (if (a0 / 32) = 6 then (some (2, wrap32 (Go.bits .and .u8 a0 31), 128)) else (if (a0 / 16) = 14 then (some (3, wrap32 (Go.bits .and .u8 a0 15), 2048)) else (if (a0 / 8) = 30 then (some (4, wrap32 (Go.bits .and .u8 a0 7), 65536)) else (some (0, 0, 0)))))
set_option maxHeartbeats 8000000 in
set_option maxRecDepth 100000 in
theorem char_lead.calls (a0 : Int) (r1 : Int) (r2 : Int) (r3 : Int) (w : World) (h : char_lead.f a0 = some (r1, r2, r3)) :
    Calls Tryd.prog 90 #[.int .u8 a0] w fun e w' => e = .returned (.tuple #[.int .i64 r1, .int .i32 r2, .int .i32 r3]) ∧ Drawn0 w w' := by
  have H : (if a0 < 128 then (some (1, wrap32 (a0), 0)) else (if (a0 / 32) = 6 then (some (2, wrap32 (Go.bits .and .u8 a0 31), 128)) else (if (a0 / 16) = 14 then (some (3, wrap32 (Go.bits .and .u8 a0 15), 2048)) else (if (a0 / 8) = 30 then (some (4, wrap32 (Go.bits .and .u8 a0 7), 65536)) else (some (0, 0, 0)))))) = some (r1, r2, r3) := h
  clear h
  by_cases c2 : a0 < 128
  · rw [if_pos c2] at H
    have c2b0 : decide (a0 < 128) = true := decide_eq_true c2
    clear c2
    simp only [Option.some.injEq, Prod.mk.injEq] at H
    obtain ⟨rfl, rfl, rfl⟩ := H
    go_enter Tryd.func90, Tryd.ntmps90
    go_wp2
    go_ret3
    exact ⟨by first | rfl | (simp; done) | (simp [*]; done), by repeat (first | exact Drawn0.refl _ | apply Drawn0.step)⟩
  · rw [if_neg c2] at H
    have c2b0 : decide (a0 < 128) = false := decide_eq_false c2
    clear c2
    by_cases c3 : (a0 / 32) = 6
    · rw [if_pos c3] at H
      have c3b0 : ((a0 / 32) == 6) = true := beq_iff_eq.mpr c3
      have c3b1 : ((a0 / 32) != 6) = false := bne_eq_false_iff_eq.mpr c3
      clear c3
      simp only [Option.some.injEq, Prod.mk.injEq] at H
      obtain ⟨rfl, rfl, rfl⟩ := H
      go_enter Tryd.func90, Tryd.ntmps90
      go_wp2
      go_ret3
      exact ⟨by first | rfl | (simp; done) | (simp [*]; done), by repeat (first | exact Drawn0.refl _ | apply Drawn0.step)⟩
    · rw [if_neg c3] at H
      have c3b0 : ((a0 / 32) == 6) = false := beq_eq_false_iff_ne.mpr c3
      have c3b1 : ((a0 / 32) != 6) = true := bne_iff_ne.mpr c3
      by_cases c4 : (a0 / 16) = 14
      · rw [if_pos c4] at H
        have c4b0 : ((a0 / 16) == 14) = true := beq_iff_eq.mpr c4
        have c4b1 : ((a0 / 16) != 14) = false := bne_eq_false_iff_eq.mpr c4
        clear c4
        simp only [Option.some.injEq, Prod.mk.injEq] at H
        obtain ⟨rfl, rfl, rfl⟩ := H
        go_enter Tryd.func90, Tryd.ntmps90
        go_wp2
        go_ret3
        exact ⟨by first | rfl | (simp; done) | (simp [*]; done), by repeat (first | exact Drawn0.refl _ | apply Drawn0.step)⟩
      · rw [if_neg c4] at H
        have c4b0 : ((a0 / 16) == 14) = false := beq_eq_false_iff_ne.mpr c4
        have c4b1 : ((a0 / 16) != 14) = true := bne_iff_ne.mpr c4
        by_cases c5 : (a0 / 8) = 30
        · rw [if_pos c5] at H
          have c5b0 : ((a0 / 8) == 30) = true := beq_iff_eq.mpr c5
          have c5b1 : ((a0 / 8) != 30) = false := bne_eq_false_iff_eq.mpr c5
          clear c5
          simp only [Option.some.injEq, Prod.mk.injEq] at H
          obtain ⟨rfl, rfl, rfl⟩ := H
          go_enter Tryd.func90, Tryd.ntmps90
          go_wp2
          go_ret3
          exact ⟨by first | rfl | (simp; done) | (simp [*]; done), by repeat (first | exact Drawn0.refl _ | apply Drawn0.step)⟩
        · rw [if_neg c5] at H
          have c5b0 : ((a0 / 8) == 30) = false := beq_eq_false_iff_ne.mpr c5
          have c5b1 : ((a0 / 8) != 30) = true := bne_iff_ne.mpr c5
          simp only [Option.some.injEq, Prod.mk.injEq] at H
          obtain ⟨rfl, rfl, rfl⟩ := H
          go_enter Tryd.func90, Tryd.ntmps90
          go_wp2
          go_ret3
          exact ⟨by first | rfl | (simp; done) | (simp [*]; done), by repeat (first | exact Drawn0.refl _ | apply Drawn0.step)⟩
end Go.Proofs.YtgbodhlofebajaaDoor.PXmlBase
end
section
namespace Go.Proofs.YtgbodhlofebajaaDoor.PXmlBase
open Go.RowKit Go.Proofs.YtgbodhlofebajaaDoorW.PrintWords Go.Proofs.YtgbodhlofebajaaDoorW.PrintLast Go.Proofs.YtgbodhlofebajaaDoorW.PrintMore
attribute [local go_sem] max2_int min2_int max_two min_two max_three min_three max_four min_four   -- for this text's walks alone
set_option linter.unusedVariables false
set_option linter.unusedSimpArgs false
/-- The first letter and its bytes, over bytes as numbers. -/
def decS : List Int → Int × Int
  | [] => (-1, 0)
  | c :: t =>
    if c < 128 then (c, 1)
    else if c / 32 = 6 then (match t with
      | a :: _ => if a / 64 = 2 then (if c % 32 * 64 + a % 64 < 128 then (-1, 0) else (c % 32 * 64 + a % 64, 2)) else (-1, 0)
      | [] => (-1, 0))
    else if c / 16 = 14 then (match t with
      | a :: b :: _ => if a / 64 = 2 then (if b / 64 = 2 then (if (c % 16 * 64 + a % 64) * 64 + b % 64 < 2048 then (-1, 0) else if 55296 ≤ (c % 16 * 64 + a % 64) * 64 + b % 64 ∧ (c % 16 * 64 + a % 64) * 64 + b % 64 ≤ 57343 then (-1, 0) else ((c % 16 * 64 + a % 64) * 64 + b % 64, 3)) else (-1, 0)) else (-1, 0)
      | _ => (-1, 0))
    else if c / 8 = 30 then (match t with
      | a :: b :: d :: _ => if a / 64 = 2 then (if b / 64 = 2 then (if d / 64 = 2 then (if ((c % 8 * 64 + a % 64) * 64 + b % 64) * 64 + d % 64 < 65536 then (-1, 0) else if 1114111 < ((c % 8 * 64 + a % 64) * 64 + b % 64) * 64 + d % 64 then (-1, 0) else (((c % 8 * 64 + a % 64) * 64 + b % 64) * 64 + d % 64, 4)) else (-1, 0)) else (-1, 0)) else (-1, 0)
      | _ => (-1, 0))
    else (-1, 0)
def isByte (x : Int) : Bool := decide (0 ≤ x) && decide (x < 256)
def char_Decode.f (l : List Int) : Option (Int × Int) := if (l.take 4).all isByte then some (decS l) else none
theorem isByte_iff {x : Int} (h : isByte x = true) : 0 ≤ x ∧ x < 256 := by
  unfold isByte at h
  simpa using h
set_option maxHeartbeats 1600000 in
set_option maxRecDepth 100000 in
theorem dec0 (ad : Addr) (c0 m : Nat) (c : Int) (w : World) (hcap : m + 1 ≤ c0) (x0 : w.cell? ad = some (.int .u8 c)) (b1 : 0 ≤ c) (b2 : c < 256) (h1 : ¬ c < 128) (h2 : ¬ c / 32 = 6) (h3 : ¬ c / 16 = 14) (h4 : ¬ c / 8 = 30) :
    Calls Tryd.prog 75 #[.slice (some ad) (m + 1) c0] w fun e w' => e = .returned (.tuple #[.int .i32 (-1), .int .i64 0]) ∧ Drawn0 w w' := by
  have hl : char_lead.f c = some (0, 0, 0) := by
    unfold char_lead.f
    rw [if_neg h1, if_neg h2, if_neg h3, if_neg h4]
  have HL := Aside0.mk hl
  clear hl
  have h0 : ((m : Int) + 1 == 0) = false := by rw [beq_eq_false_iff_ne]; omega
  go_enter Tryd.func75, Tryd.ntmps75
  go_wp2_with (first | (go_at_call 90; (with_reducible refine (char_lead.calls _ _ _ _ _ HL.out).mono ?_); rintro e w' ⟨rfl, ⟨nd, rfl⟩⟩))
  go_ret2
  exact ⟨by first | rfl | (simp; done) | (simp [*]; done), by repeat (first | exact Drawn0.refl _ | apply Drawn0.step)⟩
set_option maxHeartbeats 1600000 in
set_option maxRecDepth 100000 in
theorem dec1 (ad : Addr) (c0 m : Nat) (c : Int) (w : World) (hcap : m + 1 ≤ c0) (x0 : w.cell? ad = some (.int .u8 c)) (b1 : 0 ≤ c) (b2 : c < 256) (h1 : c < 128) :
    Calls Tryd.prog 75 #[.slice (some ad) (m + 1) c0] w fun e w' => e = .returned (.tuple #[.int .i32 (c), .int .i64 1]) ∧ Drawn0 w w' := by
  have hl : char_lead.f c = some (1, c, 0) := by
    unfold char_lead.f
    rw [if_pos h1]
    simp [wrap32]; omega
  have HL := Aside0.mk hl
  clear hl
  have HM : Aside0 (char_may.f c = some true) := ⟨by unfold char_may.f; rw [if_pos (by omega), if_pos (by omega), if_pos (by omega)]⟩
  have h0 : ((m : Int) + 1 == 0) = false := by rw [beq_eq_false_iff_ne]; omega
  go_enter Tryd.func75, Tryd.ntmps75
  go_wp2_with (first | (go_at_call 90; (with_reducible refine (char_lead.calls _ _ _ _ _ HL.out).mono ?_); rintro e w' ⟨rfl, ⟨nd, rfl⟩⟩) | (go_at_call 77; (with_reducible refine (char_may.calls _ true _ HM.out).mono ?_); rintro e w' ⟨rfl, ⟨nd2, rfl⟩⟩))
  all_goals
    refine wp_loop_rounds 1 ?_
    rw [rounds_succ]
    go_wp2_with (first | (go_at_call 90; (with_reducible refine (char_lead.calls _ _ _ _ _ HL.out).mono ?_); rintro e w' ⟨rfl, ⟨nd, rfl⟩⟩) | (go_at_call 77; (with_reducible refine (char_may.calls _ true _ HM.out).mono ?_); rintro e w' ⟨rfl, ⟨nd2, rfl⟩⟩))
    go_ret2
    exact ⟨by first | rfl | (simp; done) | (simp [*]; done), by repeat (first | exact Drawn0.refl _ | apply Drawn0.step)⟩
set_option maxHeartbeats 1600000 in
set_option maxRecDepth 100000 in
theorem dec2s1 (ad : Addr) (c0 : Nat) (c : Int) (w : World) (hcap : 1 ≤ c0) (x0 : w.cell? ad = some (.int .u8 c)) (b1 : 0 ≤ c) (b2 : c < 256) (hn : c / 32 = 6) :
    Calls Tryd.prog 75 #[.slice (some ad) 1 c0] w fun e w' => e = .returned (.tuple #[.int .i32 (-1), .int .i64 0]) ∧ Drawn0 w w' := by
  have hl : char_lead.f c = some (2, c % 32, 128) := by
    unfold char_lead.f
    rw [if_neg (by omega), if_pos hn, u8_and31 _ b1 b2]
    simp [wrap32]; omega
  have HL := Aside0.mk hl
  clear hl hn
  go_enter Tryd.func75, Tryd.ntmps75
  go_wp2_with (go_at_call 90; (with_reducible refine (char_lead.calls _ _ _ _ _ HL.out).mono ?_); rintro e w' ⟨rfl, ⟨nd, rfl⟩⟩)
  go_ret2
  exact ⟨by first | rfl | (simp; done) | (simp [*]; done), by repeat (first | exact Drawn0.refl _ | apply Drawn0.step)⟩
set_option maxHeartbeats 1600000 in
set_option maxRecDepth 100000 in
theorem dec2b1 (ad : Addr) (c0 m : Nat) (c a : Int) (w : World) (hcap : m + 2 ≤ c0) (x0 : w.cell? ad = some (.int .u8 c)) (x1 : w.cell? ⟨ad.block, ad.off + 1, none⟩ = some (.int .u8 a)) (b1 : 0 ≤ c) (b2 : c < 256) (b3 : 0 ≤ a) (b4 : a < 256) (hn : c / 32 = 6) (g1 : (a / 64 != 2) = true) :
    Calls Tryd.prog 75 #[.slice (some ad) (m + 2) c0] w fun e w' => e = .returned (.tuple #[.int .i32 (-1), .int .i64 0]) ∧ Drawn0 w w' := by
  have hl : char_lead.f c = some (2, c % 32, 128) := by
    unfold char_lead.f
    rw [if_neg (by omega), if_pos hn, u8_and31 _ b1 b2]
    simp [wrap32]; omega
  have HL := Aside0.mk hl
  clear hl
  clear hn
  have h0 : ((m : Int) + 2 == 0) = false := by rw [beq_eq_false_iff_ne]; omega
  go_enter Tryd.func75, Tryd.ntmps75
  go_wp2_with (first | (go_at_call 90; (with_reducible refine (char_lead.calls _ _ _ _ _ HL.out).mono ?_); rintro e w' ⟨rfl, ⟨nd, rfl⟩⟩))
  refine wp_loop_rounds 1 ?_
  rw [rounds_succ]
  go_wp2_with (first | (go_at_call 90; (with_reducible refine (char_lead.calls _ _ _ _ _ HL.out).mono ?_); rintro e w' ⟨rfl, ⟨nd, rfl⟩⟩))
  go_ret2
  exact ⟨by first | rfl | (simp; done) | (simp [*]; done), by repeat (first | exact Drawn0.refl _ | apply Drawn0.step)⟩
set_option maxHeartbeats 1600000 in
set_option maxRecDepth 100000 in
theorem dec2low (ad : Addr) (c0 m : Nat) (c a : Int) (w : World) (hcap : m + 2 ≤ c0) (x0 : w.cell? ad = some (.int .u8 c)) (x1 : w.cell? ⟨ad.block, ad.off + 1, none⟩ = some (.int .u8 a)) (b1 : 0 ≤ c) (b2 : c < 256) (b3 : 0 ≤ a) (b4 : a < 256) (hn : c / 32 = 6) (g1 : (a / 64 != 2) = false) (hr : c % 32 * 64 + a % 64 < 128) :
    Calls Tryd.prog 75 #[.slice (some ad) (m + 2) c0] w fun e w' => e = .returned (.tuple #[.int .i32 (-1), .int .i64 0]) ∧ Drawn0 w w' := by
  have hl : char_lead.f c = some (2, c % 32, 128) := by
    unfold char_lead.f
    rw [if_neg (by omega), if_pos hn, u8_and31 _ b1 b2]
    simp [wrap32]; omega
  have HL := Aside0.mk hl
  clear hl
  clear hn
  have h0 : ((m : Int) + 2 == 0) = false := by rw [beq_eq_false_iff_ne]; omega
  go_enter Tryd.func75, Tryd.ntmps75
  go_wp2_with (first | (go_at_call 90; (with_reducible refine (char_lead.calls _ _ _ _ _ HL.out).mono ?_); rintro e w' ⟨rfl, ⟨nd, rfl⟩⟩))
  refine wp_loop_rounds 2 ?_
  rw [rounds_succ]
  go_wp2_with (first | (go_at_call 90; (with_reducible refine (char_lead.calls _ _ _ _ _ HL.out).mono ?_); rintro e w' ⟨rfl, ⟨nd, rfl⟩⟩))
  rw [rounds_succ]
  go_wp2_with (first | (go_at_call 90; (with_reducible refine (char_lead.calls _ _ _ _ _ HL.out).mono ?_); rintro e w' ⟨rfl, ⟨nd, rfl⟩⟩))
  go_ret2
  exact ⟨by first | rfl | (simp; done) | (simp [*]; done), by repeat (first | exact Drawn0.refl _ | apply Drawn0.step)⟩
set_option maxHeartbeats 1600000 in
set_option maxRecDepth 100000 in
theorem dec2ok (ad : Addr) (c0 m : Nat) (c a : Int) (w : World) (hcap : m + 2 ≤ c0) (x0 : w.cell? ad = some (.int .u8 c)) (x1 : w.cell? ⟨ad.block, ad.off + 1, none⟩ = some (.int .u8 a)) (b1 : 0 ≤ c) (b2 : c < 256) (b3 : 0 ≤ a) (b4 : a < 256) (hn : c / 32 = 6) (g1 : (a / 64 != 2) = false) (hr : ¬ c % 32 * 64 + a % 64 < 128) :
    Calls Tryd.prog 75 #[.slice (some ad) (m + 2) c0] w fun e w' => e = .returned (.tuple #[.int .i32 (c % 32 * 64 + a % 64), .int .i64 2]) ∧ Drawn0 w w' := by
  have hl : char_lead.f c = some (2, c % 32, 128) := by
    unfold char_lead.f
    rw [if_neg (by omega), if_pos hn, u8_and31 _ b1 b2]
    simp [wrap32]; omega
  have HL := Aside0.mk hl
  clear hl
  have HM : Aside0 (char_may.f (c % 32 * 64 + a % 64) = some true) := ⟨by unfold char_may.f; rw [if_pos (by omega), if_pos (by omega), if_pos (by omega)]⟩
  clear hn
  have h0 : ((m : Int) + 2 == 0) = false := by rw [beq_eq_false_iff_ne]; omega
  go_enter Tryd.func75, Tryd.ntmps75
  go_wp2_with (first | (go_at_call 90; (with_reducible refine (char_lead.calls _ _ _ _ _ HL.out).mono ?_); rintro e w' ⟨rfl, ⟨nd, rfl⟩⟩) | (go_at_call 77; (with_reducible refine (char_may.calls _ true _ HM.out).mono ?_); rintro e w' ⟨rfl, ⟨nd2, rfl⟩⟩))
  refine wp_loop_rounds 2 ?_
  rw [rounds_succ]
  go_wp2_with (first | (go_at_call 90; (with_reducible refine (char_lead.calls _ _ _ _ _ HL.out).mono ?_); rintro e w' ⟨rfl, ⟨nd, rfl⟩⟩) | (go_at_call 77; (with_reducible refine (char_may.calls _ true _ HM.out).mono ?_); rintro e w' ⟨rfl, ⟨nd2, rfl⟩⟩))
  rw [rounds_succ]
  go_wp2_with (first | (go_at_call 90; (with_reducible refine (char_lead.calls _ _ _ _ _ HL.out).mono ?_); rintro e w' ⟨rfl, ⟨nd, rfl⟩⟩) | (go_at_call 77; (with_reducible refine (char_may.calls _ true _ HM.out).mono ?_); rintro e w' ⟨rfl, ⟨nd2, rfl⟩⟩))
  go_ret2
  exact ⟨by first | rfl | (simp; done) | (simp [*]; done), by repeat (first | exact Drawn0.refl _ | apply Drawn0.step)⟩
set_option maxHeartbeats 1600000 in
set_option maxRecDepth 100000 in
theorem dec3s1 (ad : Addr) (c0 : Nat) (c : Int) (w : World) (hcap : 1 ≤ c0) (x0 : w.cell? ad = some (.int .u8 c)) (b1 : 0 ≤ c) (b2 : c < 256) (hn : c / 16 = 14) :
    Calls Tryd.prog 75 #[.slice (some ad) 1 c0] w fun e w' => e = .returned (.tuple #[.int .i32 (-1), .int .i64 0]) ∧ Drawn0 w w' := by
  have hl : char_lead.f c = some (3, c % 16, 2048) := by
    unfold char_lead.f
    rw [if_neg (by omega), if_neg (by omega), if_pos hn, u8_and15 _ b1 b2]
    simp [wrap32]; omega
  have HL := Aside0.mk hl
  clear hl hn
  go_enter Tryd.func75, Tryd.ntmps75
  go_wp2_with (go_at_call 90; (with_reducible refine (char_lead.calls _ _ _ _ _ HL.out).mono ?_); rintro e w' ⟨rfl, ⟨nd, rfl⟩⟩)
  go_ret2
  exact ⟨by first | rfl | (simp; done) | (simp [*]; done), by repeat (first | exact Drawn0.refl _ | apply Drawn0.step)⟩
set_option maxHeartbeats 1600000 in
set_option maxRecDepth 100000 in
theorem dec3s2 (ad : Addr) (c0 : Nat) (c : Int) (w : World) (hcap : 2 ≤ c0) (x0 : w.cell? ad = some (.int .u8 c)) (b1 : 0 ≤ c) (b2 : c < 256) (hn : c / 16 = 14) :
    Calls Tryd.prog 75 #[.slice (some ad) 2 c0] w fun e w' => e = .returned (.tuple #[.int .i32 (-1), .int .i64 0]) ∧ Drawn0 w w' := by
  have hl : char_lead.f c = some (3, c % 16, 2048) := by
    unfold char_lead.f
    rw [if_neg (by omega), if_neg (by omega), if_pos hn, u8_and15 _ b1 b2]
    simp [wrap32]; omega
  have HL := Aside0.mk hl
  clear hl hn
  go_enter Tryd.func75, Tryd.ntmps75
  go_wp2_with (go_at_call 90; (with_reducible refine (char_lead.calls _ _ _ _ _ HL.out).mono ?_); rintro e w' ⟨rfl, ⟨nd, rfl⟩⟩)
  go_ret2
  exact ⟨by first | rfl | (simp; done) | (simp [*]; done), by repeat (first | exact Drawn0.refl _ | apply Drawn0.step)⟩
set_option maxHeartbeats 1600000 in
set_option maxRecDepth 100000 in
theorem dec3b1 (ad : Addr) (c0 m : Nat) (c a : Int) (w : World) (hcap : m + 3 ≤ c0) (x0 : w.cell? ad = some (.int .u8 c)) (x1 : w.cell? ⟨ad.block, ad.off + 1, none⟩ = some (.int .u8 a)) (b1 : 0 ≤ c) (b2 : c < 256) (b3 : 0 ≤ a) (b4 : a < 256) (hn : c / 16 = 14) (g1 : (a / 64 != 2) = true) :
    Calls Tryd.prog 75 #[.slice (some ad) (m + 3) c0] w fun e w' => e = .returned (.tuple #[.int .i32 (-1), .int .i64 0]) ∧ Drawn0 w w' := by
  have hl : char_lead.f c = some (3, c % 16, 2048) := by
    unfold char_lead.f
    rw [if_neg (by omega), if_neg (by omega), if_pos hn, u8_and15 _ b1 b2]
    simp [wrap32]; omega
  have HL := Aside0.mk hl
  clear hl
  clear hn
  have h0 : ((m : Int) + 3 == 0) = false := by rw [beq_eq_false_iff_ne]; omega
  go_enter Tryd.func75, Tryd.ntmps75
  go_wp2_with (first | (go_at_call 90; (with_reducible refine (char_lead.calls _ _ _ _ _ HL.out).mono ?_); rintro e w' ⟨rfl, ⟨nd, rfl⟩⟩))
  refine wp_loop_rounds 1 ?_
  rw [rounds_succ]
  go_wp2_with (first | (go_at_call 90; (with_reducible refine (char_lead.calls _ _ _ _ _ HL.out).mono ?_); rintro e w' ⟨rfl, ⟨nd, rfl⟩⟩))
  go_ret2
  exact ⟨by first | rfl | (simp; done) | (simp [*]; done), by repeat (first | exact Drawn0.refl _ | apply Drawn0.step)⟩
set_option maxHeartbeats 1600000 in
set_option maxRecDepth 100000 in
theorem dec3b2 (ad : Addr) (c0 m : Nat) (c a b : Int) (w : World) (hcap : m + 3 ≤ c0) (x0 : w.cell? ad = some (.int .u8 c)) (x1 : w.cell? ⟨ad.block, ad.off + 1, none⟩ = some (.int .u8 a)) (x2 : w.cell? ⟨ad.block, ad.off + 1 + 1, none⟩ = some (.int .u8 b)) (b1 : 0 ≤ c) (b2 : c < 256) (b3 : 0 ≤ a) (b4 : a < 256) (b5 : 0 ≤ b) (b6 : b < 256) (hn : c / 16 = 14) (g1 : (a / 64 != 2) = false) (g2 : (b / 64 != 2) = true) :
    Calls Tryd.prog 75 #[.slice (some ad) (m + 3) c0] w fun e w' => e = .returned (.tuple #[.int .i32 (-1), .int .i64 0]) ∧ Drawn0 w w' := by
  have hl : char_lead.f c = some (3, c % 16, 2048) := by
    unfold char_lead.f
    rw [if_neg (by omega), if_neg (by omega), if_pos hn, u8_and15 _ b1 b2]
    simp [wrap32]; omega
  have HL := Aside0.mk hl
  clear hl
  clear hn
  have h0 : ((m : Int) + 3 == 0) = false := by rw [beq_eq_false_iff_ne]; omega
  go_enter Tryd.func75, Tryd.ntmps75
  go_wp2_with (first | (go_at_call 90; (with_reducible refine (char_lead.calls _ _ _ _ _ HL.out).mono ?_); rintro e w' ⟨rfl, ⟨nd, rfl⟩⟩))
  refine wp_loop_rounds 2 ?_
  rw [rounds_succ]
  go_wp2_with (first | (go_at_call 90; (with_reducible refine (char_lead.calls _ _ _ _ _ HL.out).mono ?_); rintro e w' ⟨rfl, ⟨nd, rfl⟩⟩))
  rw [rounds_succ]
  go_wp2_with (first | (go_at_call 90; (with_reducible refine (char_lead.calls _ _ _ _ _ HL.out).mono ?_); rintro e w' ⟨rfl, ⟨nd, rfl⟩⟩))
  go_ret2
  exact ⟨by first | rfl | (simp; done) | (simp [*]; done), by repeat (first | exact Drawn0.refl _ | apply Drawn0.step)⟩
set_option maxHeartbeats 1600000 in
set_option maxRecDepth 100000 in
theorem dec3low (ad : Addr) (c0 m : Nat) (c a b : Int) (w : World) (hcap : m + 3 ≤ c0) (x0 : w.cell? ad = some (.int .u8 c)) (x1 : w.cell? ⟨ad.block, ad.off + 1, none⟩ = some (.int .u8 a)) (x2 : w.cell? ⟨ad.block, ad.off + 1 + 1, none⟩ = some (.int .u8 b)) (b1 : 0 ≤ c) (b2 : c < 256) (b3 : 0 ≤ a) (b4 : a < 256) (b5 : 0 ≤ b) (b6 : b < 256) (hn : c / 16 = 14) (g1 : (a / 64 != 2) = false) (g2 : (b / 64 != 2) = false) (hr : (c % 16 * 64 + a % 64) * 64 + b % 64 < 2048) :
    Calls Tryd.prog 75 #[.slice (some ad) (m + 3) c0] w fun e w' => e = .returned (.tuple #[.int .i32 (-1), .int .i64 0]) ∧ Drawn0 w w' := by
  have hl : char_lead.f c = some (3, c % 16, 2048) := by
    unfold char_lead.f
    rw [if_neg (by omega), if_neg (by omega), if_pos hn, u8_and15 _ b1 b2]
    simp [wrap32]; omega
  have HL := Aside0.mk hl
  clear hl
  clear hn
  have h0 : ((m : Int) + 3 == 0) = false := by rw [beq_eq_false_iff_ne]; omega
  go_enter Tryd.func75, Tryd.ntmps75
  go_wp2_with (first | (go_at_call 90; (with_reducible refine (char_lead.calls _ _ _ _ _ HL.out).mono ?_); rintro e w' ⟨rfl, ⟨nd, rfl⟩⟩))
  refine wp_loop_rounds 3 ?_
  rw [rounds_succ]
  go_wp2_with (first | (go_at_call 90; (with_reducible refine (char_lead.calls _ _ _ _ _ HL.out).mono ?_); rintro e w' ⟨rfl, ⟨nd, rfl⟩⟩))
  rw [rounds_succ]
  go_wp2_with (first | (go_at_call 90; (with_reducible refine (char_lead.calls _ _ _ _ _ HL.out).mono ?_); rintro e w' ⟨rfl, ⟨nd, rfl⟩⟩))
  rw [rounds_succ]
  go_wp2_with (first | (go_at_call 90; (with_reducible refine (char_lead.calls _ _ _ _ _ HL.out).mono ?_); rintro e w' ⟨rfl, ⟨nd, rfl⟩⟩))
  go_ret2
  exact ⟨by first | rfl | (simp; done) | (simp [*]; done), by repeat (first | exact Drawn0.refl _ | apply Drawn0.step)⟩
set_option maxHeartbeats 1600000 in
set_option maxRecDepth 100000 in
theorem dec3no (ad : Addr) (c0 m : Nat) (c a b : Int) (w : World) (hcap : m + 3 ≤ c0) (x0 : w.cell? ad = some (.int .u8 c)) (x1 : w.cell? ⟨ad.block, ad.off + 1, none⟩ = some (.int .u8 a)) (x2 : w.cell? ⟨ad.block, ad.off + 1 + 1, none⟩ = some (.int .u8 b)) (b1 : 0 ≤ c) (b2 : c < 256) (b3 : 0 ≤ a) (b4 : a < 256) (b5 : 0 ≤ b) (b6 : b < 256) (hn : c / 16 = 14) (g1 : (a / 64 != 2) = false) (g2 : (b / 64 != 2) = false) (hr : ¬ (c % 16 * 64 + a % 64) * 64 + b % 64 < 2048) (hs : 55296 ≤ (c % 16 * 64 + a % 64) * 64 + b % 64 ∧ (c % 16 * 64 + a % 64) * 64 + b % 64 ≤ 57343) :
    Calls Tryd.prog 75 #[.slice (some ad) (m + 3) c0] w fun e w' => e = .returned (.tuple #[.int .i32 (-1), .int .i64 0]) ∧ Drawn0 w w' := by
  have hl : char_lead.f c = some (3, c % 16, 2048) := by
    unfold char_lead.f
    rw [if_neg (by omega), if_neg (by omega), if_pos hn, u8_and15 _ b1 b2]
    simp [wrap32]; omega
  have HL := Aside0.mk hl
  clear hl
  have HM : Aside0 (char_may.f ((c % 16 * 64 + a % 64) * 64 + b % 64) = some false) := ⟨by unfold char_may.f; rw [if_pos (by omega), if_pos (by omega), if_neg (by omega)]; simp; omega⟩
  clear hn hs
  have h0 : ((m : Int) + 3 == 0) = false := by rw [beq_eq_false_iff_ne]; omega
  go_enter Tryd.func75, Tryd.ntmps75
  go_wp2_with (first | (go_at_call 90; (with_reducible refine (char_lead.calls _ _ _ _ _ HL.out).mono ?_); rintro e w' ⟨rfl, ⟨nd, rfl⟩⟩) | (go_at_call 77; (with_reducible refine (char_may.calls _ false _ HM.out).mono ?_); rintro e w' ⟨rfl, ⟨nd2, rfl⟩⟩))
  refine wp_loop_rounds 3 ?_
  rw [rounds_succ]
  go_wp2_with (first | (go_at_call 90; (with_reducible refine (char_lead.calls _ _ _ _ _ HL.out).mono ?_); rintro e w' ⟨rfl, ⟨nd, rfl⟩⟩) | (go_at_call 77; (with_reducible refine (char_may.calls _ false _ HM.out).mono ?_); rintro e w' ⟨rfl, ⟨nd2, rfl⟩⟩))
  rw [rounds_succ]
  go_wp2_with (first | (go_at_call 90; (with_reducible refine (char_lead.calls _ _ _ _ _ HL.out).mono ?_); rintro e w' ⟨rfl, ⟨nd, rfl⟩⟩) | (go_at_call 77; (with_reducible refine (char_may.calls _ false _ HM.out).mono ?_); rintro e w' ⟨rfl, ⟨nd2, rfl⟩⟩))
  rw [rounds_succ]
  go_wp2_with (first | (go_at_call 90; (with_reducible refine (char_lead.calls _ _ _ _ _ HL.out).mono ?_); rintro e w' ⟨rfl, ⟨nd, rfl⟩⟩) | (go_at_call 77; (with_reducible refine (char_may.calls _ false _ HM.out).mono ?_); rintro e w' ⟨rfl, ⟨nd2, rfl⟩⟩))
  go_ret2
  exact ⟨by first | rfl | (simp; done) | (simp [*]; done), by repeat (first | exact Drawn0.refl _ | apply Drawn0.step)⟩
set_option maxHeartbeats 1600000 in
set_option maxRecDepth 100000 in
theorem dec3ok (ad : Addr) (c0 m : Nat) (c a b : Int) (w : World) (hcap : m + 3 ≤ c0) (x0 : w.cell? ad = some (.int .u8 c)) (x1 : w.cell? ⟨ad.block, ad.off + 1, none⟩ = some (.int .u8 a)) (x2 : w.cell? ⟨ad.block, ad.off + 1 + 1, none⟩ = some (.int .u8 b)) (b1 : 0 ≤ c) (b2 : c < 256) (b3 : 0 ≤ a) (b4 : a < 256) (b5 : 0 ≤ b) (b6 : b < 256) (hn : c / 16 = 14) (g1 : (a / 64 != 2) = false) (g2 : (b / 64 != 2) = false) (hr : ¬ (c % 16 * 64 + a % 64) * 64 + b % 64 < 2048) (hs : ¬ (55296 ≤ (c % 16 * 64 + a % 64) * 64 + b % 64 ∧ (c % 16 * 64 + a % 64) * 64 + b % 64 ≤ 57343)) :
    Calls Tryd.prog 75 #[.slice (some ad) (m + 3) c0] w fun e w' => e = .returned (.tuple #[.int .i32 ((c % 16 * 64 + a % 64) * 64 + b % 64), .int .i64 3]) ∧ Drawn0 w w' := by
  have hl : char_lead.f c = some (3, c % 16, 2048) := by
    unfold char_lead.f
    rw [if_neg (by omega), if_neg (by omega), if_pos hn, u8_and15 _ b1 b2]
    simp [wrap32]; omega
  have HL := Aside0.mk hl
  clear hl
  have HM : Aside0 (char_may.f ((c % 16 * 64 + a % 64) * 64 + b % 64) = some true) := ⟨by
    unfold char_may.f
    rw [if_pos (by omega), if_pos (by omega)]
    split
    · rfl
    · simp; omega⟩
  clear hn hs
  have h0 : ((m : Int) + 3 == 0) = false := by rw [beq_eq_false_iff_ne]; omega
  go_enter Tryd.func75, Tryd.ntmps75
  go_wp2_with (first | (go_at_call 90; (with_reducible refine (char_lead.calls _ _ _ _ _ HL.out).mono ?_); rintro e w' ⟨rfl, ⟨nd, rfl⟩⟩) | (go_at_call 77; (with_reducible refine (char_may.calls _ true _ HM.out).mono ?_); rintro e w' ⟨rfl, ⟨nd2, rfl⟩⟩))
  refine wp_loop_rounds 3 ?_
  rw [rounds_succ]
  go_wp2_with (first | (go_at_call 90; (with_reducible refine (char_lead.calls _ _ _ _ _ HL.out).mono ?_); rintro e w' ⟨rfl, ⟨nd, rfl⟩⟩) | (go_at_call 77; (with_reducible refine (char_may.calls _ true _ HM.out).mono ?_); rintro e w' ⟨rfl, ⟨nd2, rfl⟩⟩))
  rw [rounds_succ]
  go_wp2_with (first | (go_at_call 90; (with_reducible refine (char_lead.calls _ _ _ _ _ HL.out).mono ?_); rintro e w' ⟨rfl, ⟨nd, rfl⟩⟩) | (go_at_call 77; (with_reducible refine (char_may.calls _ true _ HM.out).mono ?_); rintro e w' ⟨rfl, ⟨nd2, rfl⟩⟩))
  rw [rounds_succ]
  go_wp2_with (first | (go_at_call 90; (with_reducible refine (char_lead.calls _ _ _ _ _ HL.out).mono ?_); rintro e w' ⟨rfl, ⟨nd, rfl⟩⟩) | (go_at_call 77; (with_reducible refine (char_may.calls _ true _ HM.out).mono ?_); rintro e w' ⟨rfl, ⟨nd2, rfl⟩⟩))
  go_ret2
  exact ⟨by first | rfl | (simp; done) | (simp [*]; done), by repeat (first | exact Drawn0.refl _ | apply Drawn0.step)⟩
set_option maxHeartbeats 1600000 in
set_option maxRecDepth 100000 in
theorem dec4s1 (ad : Addr) (c0 : Nat) (c : Int) (w : World) (hcap : 1 ≤ c0) (x0 : w.cell? ad = some (.int .u8 c)) (b1 : 0 ≤ c) (b2 : c < 256) (hn : c / 8 = 30) :
    Calls Tryd.prog 75 #[.slice (some ad) 1 c0] w fun e w' => e = .returned (.tuple #[.int .i32 (-1), .int .i64 0]) ∧ Drawn0 w w' := by
  have hl : char_lead.f c = some (4, c % 8, 65536) := by
    unfold char_lead.f
    rw [if_neg (by omega), if_neg (by omega), if_neg (by omega), if_pos hn, u8_and7 _ b1 b2]
    simp [wrap32]; omega
  have HL := Aside0.mk hl
  clear hl hn
  go_enter Tryd.func75, Tryd.ntmps75
  go_wp2_with (go_at_call 90; (with_reducible refine (char_lead.calls _ _ _ _ _ HL.out).mono ?_); rintro e w' ⟨rfl, ⟨nd, rfl⟩⟩)
  go_ret2
  exact ⟨by first | rfl | (simp; done) | (simp [*]; done), by repeat (first | exact Drawn0.refl _ | apply Drawn0.step)⟩
set_option maxHeartbeats 1600000 in
set_option maxRecDepth 100000 in
theorem dec4s2 (ad : Addr) (c0 : Nat) (c : Int) (w : World) (hcap : 2 ≤ c0) (x0 : w.cell? ad = some (.int .u8 c)) (b1 : 0 ≤ c) (b2 : c < 256) (hn : c / 8 = 30) :
    Calls Tryd.prog 75 #[.slice (some ad) 2 c0] w fun e w' => e = .returned (.tuple #[.int .i32 (-1), .int .i64 0]) ∧ Drawn0 w w' := by
  have hl : char_lead.f c = some (4, c % 8, 65536) := by
    unfold char_lead.f
    rw [if_neg (by omega), if_neg (by omega), if_neg (by omega), if_pos hn, u8_and7 _ b1 b2]
    simp [wrap32]; omega
  have HL := Aside0.mk hl
  clear hl hn
  go_enter Tryd.func75, Tryd.ntmps75
  go_wp2_with (go_at_call 90; (with_reducible refine (char_lead.calls _ _ _ _ _ HL.out).mono ?_); rintro e w' ⟨rfl, ⟨nd, rfl⟩⟩)
  go_ret2
  exact ⟨by first | rfl | (simp; done) | (simp [*]; done), by repeat (first | exact Drawn0.refl _ | apply Drawn0.step)⟩
set_option maxHeartbeats 1600000 in
set_option maxRecDepth 100000 in
theorem dec4s3 (ad : Addr) (c0 : Nat) (c : Int) (w : World) (hcap : 3 ≤ c0) (x0 : w.cell? ad = some (.int .u8 c)) (b1 : 0 ≤ c) (b2 : c < 256) (hn : c / 8 = 30) :
    Calls Tryd.prog 75 #[.slice (some ad) 3 c0] w fun e w' => e = .returned (.tuple #[.int .i32 (-1), .int .i64 0]) ∧ Drawn0 w w' := by
  have hl : char_lead.f c = some (4, c % 8, 65536) := by
    unfold char_lead.f
    rw [if_neg (by omega), if_neg (by omega), if_neg (by omega), if_pos hn, u8_and7 _ b1 b2]
    simp [wrap32]; omega
  have HL := Aside0.mk hl
  clear hl hn
  go_enter Tryd.func75, Tryd.ntmps75
  go_wp2_with (go_at_call 90; (with_reducible refine (char_lead.calls _ _ _ _ _ HL.out).mono ?_); rintro e w' ⟨rfl, ⟨nd, rfl⟩⟩)
  go_ret2
  exact ⟨by first | rfl | (simp; done) | (simp [*]; done), by repeat (first | exact Drawn0.refl _ | apply Drawn0.step)⟩
set_option maxHeartbeats 1600000 in
set_option maxRecDepth 100000 in
theorem dec4b1 (ad : Addr) (c0 m : Nat) (c a : Int) (w : World) (hcap : m + 4 ≤ c0) (x0 : w.cell? ad = some (.int .u8 c)) (x1 : w.cell? ⟨ad.block, ad.off + 1, none⟩ = some (.int .u8 a)) (b1 : 0 ≤ c) (b2 : c < 256) (b3 : 0 ≤ a) (b4 : a < 256) (hn : c / 8 = 30) (g1 : (a / 64 != 2) = true) :
    Calls Tryd.prog 75 #[.slice (some ad) (m + 4) c0] w fun e w' => e = .returned (.tuple #[.int .i32 (-1), .int .i64 0]) ∧ Drawn0 w w' := by
  have hl : char_lead.f c = some (4, c % 8, 65536) := by
    unfold char_lead.f
    rw [if_neg (by omega), if_neg (by omega), if_neg (by omega), if_pos hn, u8_and7 _ b1 b2]
    simp [wrap32]; omega
  have HL := Aside0.mk hl
  clear hl
  clear hn
  have h0 : ((m : Int) + 4 == 0) = false := by rw [beq_eq_false_iff_ne]; omega
  go_enter Tryd.func75, Tryd.ntmps75
  go_wp2_with (first | (go_at_call 90; (with_reducible refine (char_lead.calls _ _ _ _ _ HL.out).mono ?_); rintro e w' ⟨rfl, ⟨nd, rfl⟩⟩))
  refine wp_loop_rounds 1 ?_
  rw [rounds_succ]
  go_wp2_with (first | (go_at_call 90; (with_reducible refine (char_lead.calls _ _ _ _ _ HL.out).mono ?_); rintro e w' ⟨rfl, ⟨nd, rfl⟩⟩))
  go_ret2
  exact ⟨by first | rfl | (simp; done) | (simp [*]; done), by repeat (first | exact Drawn0.refl _ | apply Drawn0.step)⟩
set_option maxHeartbeats 1600000 in
set_option maxRecDepth 100000 in
theorem dec4b2 (ad : Addr) (c0 m : Nat) (c a b : Int) (w : World) (hcap : m + 4 ≤ c0) (x0 : w.cell? ad = some (.int .u8 c)) (x1 : w.cell? ⟨ad.block, ad.off + 1, none⟩ = some (.int .u8 a)) (x2 : w.cell? ⟨ad.block, ad.off + 1 + 1, none⟩ = some (.int .u8 b)) (b1 : 0 ≤ c) (b2 : c < 256) (b3 : 0 ≤ a) (b4 : a < 256) (b5 : 0 ≤ b) (b6 : b < 256) (hn : c / 8 = 30) (g1 : (a / 64 != 2) = false) (g2 : (b / 64 != 2) = true) :
    Calls Tryd.prog 75 #[.slice (some ad) (m + 4) c0] w fun e w' => e = .returned (.tuple #[.int .i32 (-1), .int .i64 0]) ∧ Drawn0 w w' := by
  have hl : char_lead.f c = some (4, c % 8, 65536) := by
    unfold char_lead.f
    rw [if_neg (by omega), if_neg (by omega), if_neg (by omega), if_pos hn, u8_and7 _ b1 b2]
    simp [wrap32]; omega
  have HL := Aside0.mk hl
  clear hl
  clear hn
  have h0 : ((m : Int) + 4 == 0) = false := by rw [beq_eq_false_iff_ne]; omega
  go_enter Tryd.func75, Tryd.ntmps75
  go_wp2_with (first | (go_at_call 90; (with_reducible refine (char_lead.calls _ _ _ _ _ HL.out).mono ?_); rintro e w' ⟨rfl, ⟨nd, rfl⟩⟩))
  refine wp_loop_rounds 2 ?_
  rw [rounds_succ]
  go_wp2_with (first | (go_at_call 90; (with_reducible refine (char_lead.calls _ _ _ _ _ HL.out).mono ?_); rintro e w' ⟨rfl, ⟨nd, rfl⟩⟩))
  rw [rounds_succ]
  go_wp2_with (first | (go_at_call 90; (with_reducible refine (char_lead.calls _ _ _ _ _ HL.out).mono ?_); rintro e w' ⟨rfl, ⟨nd, rfl⟩⟩))
  go_ret2
  exact ⟨by first | rfl | (simp; done) | (simp [*]; done), by repeat (first | exact Drawn0.refl _ | apply Drawn0.step)⟩
set_option maxHeartbeats 1600000 in
set_option maxRecDepth 100000 in
theorem dec4b3 (ad : Addr) (c0 m : Nat) (c a b d : Int) (w : World) (hcap : m + 4 ≤ c0) (x0 : w.cell? ad = some (.int .u8 c)) (x1 : w.cell? ⟨ad.block, ad.off + 1, none⟩ = some (.int .u8 a)) (x2 : w.cell? ⟨ad.block, ad.off + 1 + 1, none⟩ = some (.int .u8 b)) (x3 : w.cell? ⟨ad.block, ad.off + 1 + 1 + 1, none⟩ = some (.int .u8 d)) (b1 : 0 ≤ c) (b2 : c < 256) (b3 : 0 ≤ a) (b4 : a < 256) (b5 : 0 ≤ b) (b6 : b < 256) (b7 : 0 ≤ d) (b8 : d < 256) (hn : c / 8 = 30) (g1 : (a / 64 != 2) = false) (g2 : (b / 64 != 2) = false) (g3 : (d / 64 != 2) = true) :
    Calls Tryd.prog 75 #[.slice (some ad) (m + 4) c0] w fun e w' => e = .returned (.tuple #[.int .i32 (-1), .int .i64 0]) ∧ Drawn0 w w' := by
  have hl : char_lead.f c = some (4, c % 8, 65536) := by
    unfold char_lead.f
    rw [if_neg (by omega), if_neg (by omega), if_neg (by omega), if_pos hn, u8_and7 _ b1 b2]
    simp [wrap32]; omega
  have HL := Aside0.mk hl
  clear hl
  clear hn
  have h0 : ((m : Int) + 4 == 0) = false := by rw [beq_eq_false_iff_ne]; omega
  go_enter Tryd.func75, Tryd.ntmps75
  go_wp2_with (first | (go_at_call 90; (with_reducible refine (char_lead.calls _ _ _ _ _ HL.out).mono ?_); rintro e w' ⟨rfl, ⟨nd, rfl⟩⟩))
  refine wp_loop_rounds 3 ?_
  rw [rounds_succ]
  go_wp2_with (first | (go_at_call 90; (with_reducible refine (char_lead.calls _ _ _ _ _ HL.out).mono ?_); rintro e w' ⟨rfl, ⟨nd, rfl⟩⟩))
  rw [rounds_succ]
  go_wp2_with (first | (go_at_call 90; (with_reducible refine (char_lead.calls _ _ _ _ _ HL.out).mono ?_); rintro e w' ⟨rfl, ⟨nd, rfl⟩⟩))
  rw [rounds_succ]
  go_wp2_with (first | (go_at_call 90; (with_reducible refine (char_lead.calls _ _ _ _ _ HL.out).mono ?_); rintro e w' ⟨rfl, ⟨nd, rfl⟩⟩))
  go_ret2
  exact ⟨by first | rfl | (simp; done) | (simp [*]; done), by repeat (first | exact Drawn0.refl _ | apply Drawn0.step)⟩
set_option maxHeartbeats 1600000 in
set_option maxRecDepth 100000 in
theorem dec4low (ad : Addr) (c0 m : Nat) (c a b d : Int) (w : World) (hcap : m + 4 ≤ c0) (x0 : w.cell? ad = some (.int .u8 c)) (x1 : w.cell? ⟨ad.block, ad.off + 1, none⟩ = some (.int .u8 a)) (x2 : w.cell? ⟨ad.block, ad.off + 1 + 1, none⟩ = some (.int .u8 b)) (x3 : w.cell? ⟨ad.block, ad.off + 1 + 1 + 1, none⟩ = some (.int .u8 d)) (b1 : 0 ≤ c) (b2 : c < 256) (b3 : 0 ≤ a) (b4 : a < 256) (b5 : 0 ≤ b) (b6 : b < 256) (b7 : 0 ≤ d) (b8 : d < 256) (hn : c / 8 = 30) (g1 : (a / 64 != 2) = false) (g2 : (b / 64 != 2) = false) (g3 : (d / 64 != 2) = false) (hr : ((c % 8 * 64 + a % 64) * 64 + b % 64) * 64 + d % 64 < 65536) :
    Calls Tryd.prog 75 #[.slice (some ad) (m + 4) c0] w fun e w' => e = .returned (.tuple #[.int .i32 (-1), .int .i64 0]) ∧ Drawn0 w w' := by
  have hl : char_lead.f c = some (4, c % 8, 65536) := by
    unfold char_lead.f
    rw [if_neg (by omega), if_neg (by omega), if_neg (by omega), if_pos hn, u8_and7 _ b1 b2]
    simp [wrap32]; omega
  have HL := Aside0.mk hl
  clear hl
  clear hn
  have h0 : ((m : Int) + 4 == 0) = false := by rw [beq_eq_false_iff_ne]; omega
  go_enter Tryd.func75, Tryd.ntmps75
  go_wp2_with (first | (go_at_call 90; (with_reducible refine (char_lead.calls _ _ _ _ _ HL.out).mono ?_); rintro e w' ⟨rfl, ⟨nd, rfl⟩⟩))
  refine wp_loop_rounds 4 ?_
  rw [rounds_succ]
  go_wp2_with (first | (go_at_call 90; (with_reducible refine (char_lead.calls _ _ _ _ _ HL.out).mono ?_); rintro e w' ⟨rfl, ⟨nd, rfl⟩⟩))
  rw [rounds_succ]
  go_wp2_with (first | (go_at_call 90; (with_reducible refine (char_lead.calls _ _ _ _ _ HL.out).mono ?_); rintro e w' ⟨rfl, ⟨nd, rfl⟩⟩))
  rw [rounds_succ]
  go_wp2_with (first | (go_at_call 90; (with_reducible refine (char_lead.calls _ _ _ _ _ HL.out).mono ?_); rintro e w' ⟨rfl, ⟨nd, rfl⟩⟩))
  rw [rounds_succ]
  go_wp2_with (first | (go_at_call 90; (with_reducible refine (char_lead.calls _ _ _ _ _ HL.out).mono ?_); rintro e w' ⟨rfl, ⟨nd, rfl⟩⟩))
  go_ret2
  exact ⟨by first | rfl | (simp; done) | (simp [*]; done), by repeat (first | exact Drawn0.refl _ | apply Drawn0.step)⟩
set_option maxHeartbeats 1600000 in
set_option maxRecDepth 100000 in
theorem dec4no (ad : Addr) (c0 m : Nat) (c a b d : Int) (w : World) (hcap : m + 4 ≤ c0) (x0 : w.cell? ad = some (.int .u8 c)) (x1 : w.cell? ⟨ad.block, ad.off + 1, none⟩ = some (.int .u8 a)) (x2 : w.cell? ⟨ad.block, ad.off + 1 + 1, none⟩ = some (.int .u8 b)) (x3 : w.cell? ⟨ad.block, ad.off + 1 + 1 + 1, none⟩ = some (.int .u8 d)) (b1 : 0 ≤ c) (b2 : c < 256) (b3 : 0 ≤ a) (b4 : a < 256) (b5 : 0 ≤ b) (b6 : b < 256) (b7 : 0 ≤ d) (b8 : d < 256) (hn : c / 8 = 30) (g1 : (a / 64 != 2) = false) (g2 : (b / 64 != 2) = false) (g3 : (d / 64 != 2) = false) (hr : ¬ ((c % 8 * 64 + a % 64) * 64 + b % 64) * 64 + d % 64 < 65536) (hs : 1114111 < ((c % 8 * 64 + a % 64) * 64 + b % 64) * 64 + d % 64) :
    Calls Tryd.prog 75 #[.slice (some ad) (m + 4) c0] w fun e w' => e = .returned (.tuple #[.int .i32 (-1), .int .i64 0]) ∧ Drawn0 w w' := by
  have hl : char_lead.f c = some (4, c % 8, 65536) := by
    unfold char_lead.f
    rw [if_neg (by omega), if_neg (by omega), if_neg (by omega), if_pos hn, u8_and7 _ b1 b2]
    simp [wrap32]; omega
  have HL := Aside0.mk hl
  clear hl
  have HM : Aside0 (char_may.f (((c % 8 * 64 + a % 64) * 64 + b % 64) * 64 + d % 64) = some false) := ⟨by unfold char_may.f; rw [if_pos (by omega), if_neg (by omega)]⟩
  clear hn hs
  have h0 : ((m : Int) + 4 == 0) = false := by rw [beq_eq_false_iff_ne]; omega
  go_enter Tryd.func75, Tryd.ntmps75
  go_wp2_with (first | (go_at_call 90; (with_reducible refine (char_lead.calls _ _ _ _ _ HL.out).mono ?_); rintro e w' ⟨rfl, ⟨nd, rfl⟩⟩) | (go_at_call 77; (with_reducible refine (char_may.calls _ false _ HM.out).mono ?_); rintro e w' ⟨rfl, ⟨nd2, rfl⟩⟩))
  refine wp_loop_rounds 4 ?_
  rw [rounds_succ]
  go_wp2_with (first | (go_at_call 90; (with_reducible refine (char_lead.calls _ _ _ _ _ HL.out).mono ?_); rintro e w' ⟨rfl, ⟨nd, rfl⟩⟩) | (go_at_call 77; (with_reducible refine (char_may.calls _ false _ HM.out).mono ?_); rintro e w' ⟨rfl, ⟨nd2, rfl⟩⟩))
  rw [rounds_succ]
  go_wp2_with (first | (go_at_call 90; (with_reducible refine (char_lead.calls _ _ _ _ _ HL.out).mono ?_); rintro e w' ⟨rfl, ⟨nd, rfl⟩⟩) | (go_at_call 77; (with_reducible refine (char_may.calls _ false _ HM.out).mono ?_); rintro e w' ⟨rfl, ⟨nd2, rfl⟩⟩))
  rw [rounds_succ]
  go_wp2_with (first | (go_at_call 90; (with_reducible refine (char_lead.calls _ _ _ _ _ HL.out).mono ?_); rintro e w' ⟨rfl, ⟨nd, rfl⟩⟩) | (go_at_call 77; (with_reducible refine (char_may.calls _ false _ HM.out).mono ?_); rintro e w' ⟨rfl, ⟨nd2, rfl⟩⟩))
  rw [rounds_succ]
  go_wp2_with (first | (go_at_call 90; (with_reducible refine (char_lead.calls _ _ _ _ _ HL.out).mono ?_); rintro e w' ⟨rfl, ⟨nd, rfl⟩⟩) | (go_at_call 77; (with_reducible refine (char_may.calls _ false _ HM.out).mono ?_); rintro e w' ⟨rfl, ⟨nd2, rfl⟩⟩))
  go_ret2
  exact ⟨by first | rfl | (simp; done) | (simp [*]; done), by repeat (first | exact Drawn0.refl _ | apply Drawn0.step)⟩
set_option maxHeartbeats 1600000 in
set_option maxRecDepth 100000 in
theorem dec4ok (ad : Addr) (c0 m : Nat) (c a b d : Int) (w : World) (hcap : m + 4 ≤ c0) (x0 : w.cell? ad = some (.int .u8 c)) (x1 : w.cell? ⟨ad.block, ad.off + 1, none⟩ = some (.int .u8 a)) (x2 : w.cell? ⟨ad.block, ad.off + 1 + 1, none⟩ = some (.int .u8 b)) (x3 : w.cell? ⟨ad.block, ad.off + 1 + 1 + 1, none⟩ = some (.int .u8 d)) (b1 : 0 ≤ c) (b2 : c < 256) (b3 : 0 ≤ a) (b4 : a < 256) (b5 : 0 ≤ b) (b6 : b < 256) (b7 : 0 ≤ d) (b8 : d < 256) (hn : c / 8 = 30) (g1 : (a / 64 != 2) = false) (g2 : (b / 64 != 2) = false) (g3 : (d / 64 != 2) = false) (hr : ¬ ((c % 8 * 64 + a % 64) * 64 + b % 64) * 64 + d % 64 < 65536) (hs : ¬ 1114111 < ((c % 8 * 64 + a % 64) * 64 + b % 64) * 64 + d % 64) :
    Calls Tryd.prog 75 #[.slice (some ad) (m + 4) c0] w fun e w' => e = .returned (.tuple #[.int .i32 (((c % 8 * 64 + a % 64) * 64 + b % 64) * 64 + d % 64), .int .i64 4]) ∧ Drawn0 w w' := by
  have hl : char_lead.f c = some (4, c % 8, 65536) := by
    unfold char_lead.f
    rw [if_neg (by omega), if_neg (by omega), if_neg (by omega), if_pos hn, u8_and7 _ b1 b2]
    simp [wrap32]; omega
  have HL := Aside0.mk hl
  clear hl
  have HM : Aside0 (char_may.f (((c % 8 * 64 + a % 64) * 64 + b % 64) * 64 + d % 64) = some true) := ⟨by unfold char_may.f; rw [if_pos (by omega), if_pos (by omega), if_neg (by omega)]; simp; omega⟩
  clear hn hs
  have h0 : ((m : Int) + 4 == 0) = false := by rw [beq_eq_false_iff_ne]; omega
  go_enter Tryd.func75, Tryd.ntmps75
  go_wp2_with (first | (go_at_call 90; (with_reducible refine (char_lead.calls _ _ _ _ _ HL.out).mono ?_); rintro e w' ⟨rfl, ⟨nd, rfl⟩⟩) | (go_at_call 77; (with_reducible refine (char_may.calls _ true _ HM.out).mono ?_); rintro e w' ⟨rfl, ⟨nd2, rfl⟩⟩))
  refine wp_loop_rounds 4 ?_
  rw [rounds_succ]
  go_wp2_with (first | (go_at_call 90; (with_reducible refine (char_lead.calls _ _ _ _ _ HL.out).mono ?_); rintro e w' ⟨rfl, ⟨nd, rfl⟩⟩) | (go_at_call 77; (with_reducible refine (char_may.calls _ true _ HM.out).mono ?_); rintro e w' ⟨rfl, ⟨nd2, rfl⟩⟩))
  rw [rounds_succ]
  go_wp2_with (first | (go_at_call 90; (with_reducible refine (char_lead.calls _ _ _ _ _ HL.out).mono ?_); rintro e w' ⟨rfl, ⟨nd, rfl⟩⟩) | (go_at_call 77; (with_reducible refine (char_may.calls _ true _ HM.out).mono ?_); rintro e w' ⟨rfl, ⟨nd2, rfl⟩⟩))
  rw [rounds_succ]
  go_wp2_with (first | (go_at_call 90; (with_reducible refine (char_lead.calls _ _ _ _ _ HL.out).mono ?_); rintro e w' ⟨rfl, ⟨nd, rfl⟩⟩) | (go_at_call 77; (with_reducible refine (char_may.calls _ true _ HM.out).mono ?_); rintro e w' ⟨rfl, ⟨nd2, rfl⟩⟩))
  rw [rounds_succ]
  go_wp2_with (first | (go_at_call 90; (with_reducible refine (char_lead.calls _ _ _ _ _ HL.out).mono ?_); rintro e w' ⟨rfl, ⟨nd, rfl⟩⟩) | (go_at_call 77; (with_reducible refine (char_may.calls _ true _ HM.out).mono ?_); rintro e w' ⟨rfl, ⟨nd2, rfl⟩⟩))
  go_ret2
  exact ⟨by first | rfl | (simp; done) | (simp [*]; done), by repeat (first | exact Drawn0.refl _ | apply Drawn0.step)⟩
theorem isByte_at {l : List Int} (h : (l.take 4).all isByte = true) (i : Nat) (x : Int) (hi : i < 4) (hx : l[i]? = some x) : 0 ≤ x ∧ x < 256 := by
  refine isByte_iff (List.all_eq_true.1 h x ?_)
  have h1 : (l.take 4)[i]? = some x := by rw [List.getElem?_take_of_lt hi]; exact hx
  exact List.mem_of_getElem? h1
theorem cellD {w : World} {ad : Addr} {n : Nat} {l : List Int} (h : Kd.C (Kd.int .u8) w (some ad) n l) (i : Nat) (x : Int) (hx : l[i]? = some x) : w.cell? (ad.add i) = some (.int .u8 x) := by
  have hl := (List.getElem?_eq_some_iff.1 hx).1
  have hn : n = l.length := h.1.symm
  obtain ⟨ad', e, hc⟩ := Kd.at_int h (i : Int) (by omega) (by omega)
  cases e
  rw [Int.toNat_natCast] at hc
  rw [hc]
  simp [rd, hx]
theorem cellD1 {w : World} {ad : Addr} {n : Nat} {l : List Int} (h : Kd.C (Kd.int .u8) w (some ad) n l) (i : Nat) (x : Int) (hx : l[i]? = some x) (hi : i ≠ 0) : w.cell? ⟨ad.block, ad.off + i, none⟩ = some (.int .u8 x) := by
  rw [← cellD h i x hx]
  unfold Addr.add
  rw [if_neg hi]
theorem ne2_false {x : Int} (h : x / 64 = 2) : (x / 64 != 2) = false := by rw [bne_eq_false_iff_eq]; exact h
theorem ne2_true {x : Int} (h : ¬ x / 64 = 2) : (x / 64 != 2) = true := by rw [bne_iff_ne]; exact h
set_option maxHeartbeats 1600000 in
theorem char_Decode.calls (A0 : Option Addr) (c0 : Nat) (l0 : List Int) (r1 : Int) (r2 : Int) (w : World) (hr0 : Kd.C (Kd.int .u8) w A0 l0.length l0) (hc0 : l0.length ≤ c0) (h : char_Decode.f l0 = some (r1, r2)) :
    Calls Tryd.prog 75 #[.slice A0 l0.length c0] w fun e w' => e = .returned (.tuple #[.int .i32 r1, .int .i64 r2]) ∧ Drawn0 w w' := by
  unfold char_Decode.f at h
  by_cases hb : (l0.take 4).all isByte = true
  rotate_left
  · rw [if_neg hb] at h; exact absurd h (by simp)
  rw [if_pos hb] at h
  have h' := Option.some.inj h
  clear h
  match l0, hr0, hc0, hb, h' with
  | [], hr0, hc0, hb, h' =>
    obtain ⟨rfl, rfl⟩ := Prod.mk.inj h'
    go_enter Tryd.func75, Tryd.ntmps75
    go_wp2
    go_ret2
    exact ⟨by first | rfl | (simp; done) | (simp [*]; done), by repeat (first | exact Drawn0.refl _ | apply Drawn0.step)⟩
  | c :: t, hr0, hc0, hb, h' =>
    obtain ⟨ad, rfl, _⟩ := Kd.at_int hr0 0 (by omega) (by simp)
    obtain ⟨bc0, bc1⟩ := isByte_at hb 0 c (by omega) rfl
    have xc : w.cell? ad = some (.int .u8 c) := by have := cellD hr0 0 c rfl; rwa [Addr.add_zero'] at this
    simp only [decS] at h'
    simp only [List.length_cons] at hc0 ⊢
    by_cases h1 : c < 128
    · rw [if_pos h1] at h'
      obtain ⟨rfl, rfl⟩ := Prod.mk.inj h'
      exact dec1 ad c0 t.length c w hc0 xc bc0 bc1 h1
    rw [if_neg h1] at h'
    by_cases h2 : c / 32 = 6
    · rw [if_pos h2] at h'
      match t, hr0, hc0, hb, h' with
      | [], hr0, hc0, hb, h' =>
        obtain ⟨rfl, rfl⟩ := Prod.mk.inj h'
        exact dec2s1 ad c0 c w hc0 xc bc0 bc1 h2
      | a :: t1, hr0, hc0, hb, h' =>
        obtain ⟨ba0, ba1⟩ := isByte_at hb 1 a (by omega) rfl
        have xa : w.cell? ⟨ad.block, ad.off + 1, none⟩ = some (.int .u8 a) := cellD1 hr0 1 a rfl (by omega)
        simp only [List.length_cons] at hc0 ⊢
        simp only [] at h'
        by_cases g1 : a / 64 = 2
        rotate_left
        · rw [if_neg g1] at h'
          obtain ⟨rfl, rfl⟩ := Prod.mk.inj h'
          exact dec2b1 ad c0 t1.length c a w hc0 xc xa bc0 bc1 ba0 ba1 h2  (ne2_true g1)
        rw [if_pos g1] at h'
        by_cases hr : c % 32 * 64 + a % 64 < 128
        · rw [if_pos hr] at h'
          obtain ⟨rfl, rfl⟩ := Prod.mk.inj h'
          exact dec2low ad c0 t1.length c a w hc0 xc xa bc0 bc1 ba0 ba1 h2 (ne2_false g1) hr
        rw [if_neg hr] at h'
        obtain ⟨rfl, rfl⟩ := Prod.mk.inj h'
        exact dec2ok ad c0 t1.length c a w hc0 xc xa bc0 bc1 ba0 ba1 h2 (ne2_false g1) hr
    rw [if_neg h2] at h'
    by_cases h3 : c / 16 = 14
    · rw [if_pos h3] at h'
      match t, hr0, hc0, hb, h' with
      | [], hr0, hc0, hb, h' =>
        obtain ⟨rfl, rfl⟩ := Prod.mk.inj h'
        exact dec3s1 ad c0 c w hc0 xc bc0 bc1 h3
      | a :: t1, hr0, hc0, hb, h' =>
        obtain ⟨ba0, ba1⟩ := isByte_at hb 1 a (by omega) rfl
        have xa : w.cell? ⟨ad.block, ad.off + 1, none⟩ = some (.int .u8 a) := cellD1 hr0 1 a rfl (by omega)
        simp only [List.length_cons] at hc0 ⊢
        match t1, hr0, hc0, hb, h' with
        | [], hr0, hc0, hb, h' =>
          obtain ⟨rfl, rfl⟩ := Prod.mk.inj h'
          exact dec3s2 ad c0 c w hc0 xc bc0 bc1 h3
        | b :: t2, hr0, hc0, hb, h' =>
          obtain ⟨bb0, bb1⟩ := isByte_at hb 2 b (by omega) rfl
          have xb : w.cell? ⟨ad.block, ad.off + 1 + 1, none⟩ = some (.int .u8 b) := cellD1 hr0 2 b rfl (by omega)
          simp only [List.length_cons] at hc0 ⊢
          simp only [] at h'
          by_cases g1 : a / 64 = 2
          rotate_left
          · rw [if_neg g1] at h'
            obtain ⟨rfl, rfl⟩ := Prod.mk.inj h'
            exact dec3b1 ad c0 t2.length c a w hc0 xc xa bc0 bc1 ba0 ba1 h3  (ne2_true g1)
          rw [if_pos g1] at h'
          by_cases g2 : b / 64 = 2
          rotate_left
          · rw [if_neg g2] at h'
            obtain ⟨rfl, rfl⟩ := Prod.mk.inj h'
            exact dec3b2 ad c0 t2.length c a b w hc0 xc xa xb bc0 bc1 ba0 ba1 bb0 bb1 h3 (ne2_false g1) (ne2_true g2)
          rw [if_pos g2] at h'
          by_cases hr : (c % 16 * 64 + a % 64) * 64 + b % 64 < 2048
          · rw [if_pos hr] at h'
            obtain ⟨rfl, rfl⟩ := Prod.mk.inj h'
            exact dec3low ad c0 t2.length c a b w hc0 xc xa xb bc0 bc1 ba0 ba1 bb0 bb1 h3 (ne2_false g1) (ne2_false g2) hr
          rw [if_neg hr] at h'
          by_cases hs : 55296 ≤ (c % 16 * 64 + a % 64) * 64 + b % 64 ∧ (c % 16 * 64 + a % 64) * 64 + b % 64 ≤ 57343
          · rw [if_pos hs] at h'
            obtain ⟨rfl, rfl⟩ := Prod.mk.inj h'
            exact dec3no ad c0 t2.length c a b w hc0 xc xa xb bc0 bc1 ba0 ba1 bb0 bb1 h3 (ne2_false g1) (ne2_false g2) hr hs
          rw [if_neg hs] at h'
          obtain ⟨rfl, rfl⟩ := Prod.mk.inj h'
          exact dec3ok ad c0 t2.length c a b w hc0 xc xa xb bc0 bc1 ba0 ba1 bb0 bb1 h3 (ne2_false g1) (ne2_false g2) hr hs
    rw [if_neg h3] at h'
    by_cases h4 : c / 8 = 30
    · rw [if_pos h4] at h'
      match t, hr0, hc0, hb, h' with
      | [], hr0, hc0, hb, h' =>
        obtain ⟨rfl, rfl⟩ := Prod.mk.inj h'
        exact dec4s1 ad c0 c w hc0 xc bc0 bc1 h4
      | a :: t1, hr0, hc0, hb, h' =>
        obtain ⟨ba0, ba1⟩ := isByte_at hb 1 a (by omega) rfl
        have xa : w.cell? ⟨ad.block, ad.off + 1, none⟩ = some (.int .u8 a) := cellD1 hr0 1 a rfl (by omega)
        simp only [List.length_cons] at hc0 ⊢
        match t1, hr0, hc0, hb, h' with
        | [], hr0, hc0, hb, h' =>
          obtain ⟨rfl, rfl⟩ := Prod.mk.inj h'
          exact dec4s2 ad c0 c w hc0 xc bc0 bc1 h4
        | b :: t2, hr0, hc0, hb, h' =>
          obtain ⟨bb0, bb1⟩ := isByte_at hb 2 b (by omega) rfl
          have xb : w.cell? ⟨ad.block, ad.off + 1 + 1, none⟩ = some (.int .u8 b) := cellD1 hr0 2 b rfl (by omega)
          simp only [List.length_cons] at hc0 ⊢
          match t2, hr0, hc0, hb, h' with
          | [], hr0, hc0, hb, h' =>
            obtain ⟨rfl, rfl⟩ := Prod.mk.inj h'
            exact dec4s3 ad c0 c w hc0 xc bc0 bc1 h4
          | d :: t3, hr0, hc0, hb, h' =>
            obtain ⟨bd0, bd1⟩ := isByte_at hb 3 d (by omega) rfl
            have xd : w.cell? ⟨ad.block, ad.off + 1 + 1 + 1, none⟩ = some (.int .u8 d) := cellD1 hr0 3 d rfl (by omega)
            simp only [List.length_cons] at hc0 ⊢
            simp only [] at h'
            by_cases g1 : a / 64 = 2
            rotate_left
            · rw [if_neg g1] at h'
              obtain ⟨rfl, rfl⟩ := Prod.mk.inj h'
              exact dec4b1 ad c0 t3.length c a w hc0 xc xa bc0 bc1 ba0 ba1 h4  (ne2_true g1)
            rw [if_pos g1] at h'
            by_cases g2 : b / 64 = 2
            rotate_left
            · rw [if_neg g2] at h'
              obtain ⟨rfl, rfl⟩ := Prod.mk.inj h'
              exact dec4b2 ad c0 t3.length c a b w hc0 xc xa xb bc0 bc1 ba0 ba1 bb0 bb1 h4 (ne2_false g1) (ne2_true g2)
            rw [if_pos g2] at h'
            by_cases g3 : d / 64 = 2
            rotate_left
            · rw [if_neg g3] at h'
              obtain ⟨rfl, rfl⟩ := Prod.mk.inj h'
              exact dec4b3 ad c0 t3.length c a b d w hc0 xc xa xb xd bc0 bc1 ba0 ba1 bb0 bb1 bd0 bd1 h4 (ne2_false g1) (ne2_false g2) (ne2_true g3)
            rw [if_pos g3] at h'
            by_cases hr : ((c % 8 * 64 + a % 64) * 64 + b % 64) * 64 + d % 64 < 65536
            · rw [if_pos hr] at h'
              obtain ⟨rfl, rfl⟩ := Prod.mk.inj h'
              exact dec4low ad c0 t3.length c a b d w hc0 xc xa xb xd bc0 bc1 ba0 ba1 bb0 bb1 bd0 bd1 h4 (ne2_false g1) (ne2_false g2) (ne2_false g3) hr
            rw [if_neg hr] at h'
            by_cases hs : 1114111 < ((c % 8 * 64 + a % 64) * 64 + b % 64) * 64 + d % 64
            · rw [if_pos hs] at h'
              obtain ⟨rfl, rfl⟩ := Prod.mk.inj h'
              exact dec4no ad c0 t3.length c a b d w hc0 xc xa xb xd bc0 bc1 ba0 ba1 bb0 bb1 bd0 bd1 h4 (ne2_false g1) (ne2_false g2) (ne2_false g3) hr hs
            rw [if_neg hs] at h'
            obtain ⟨rfl, rfl⟩ := Prod.mk.inj h'
            exact dec4ok ad c0 t3.length c a b d w hc0 xc xa xb xd bc0 bc1 ba0 ba1 bb0 bb1 bd0 bd1 h4 (ne2_false g1) (ne2_false g2) (ne2_false g3) hr hs
    rw [if_neg h4] at h'
    obtain ⟨rfl, rfl⟩ := Prod.mk.inj h'
    exact dec0 ad c0 t.length c w hc0 xc bc0 bc1 h1 h2 h3 h4
/-- A letter's bytes. -/
def encS (r : Int) : List Int :=
  if r < 0 ∨ 1114111 < r ∨ (55296 ≤ r ∧ r ≤ 57343) then []
  else if r < 128 then [r]
  else if r < 2048 then [192 + r / 64, 128 + r % 64]
  else if r < 65536 then [224 + r / 4096, 128 + r / 64 % 64, 128 + r % 64]
  else [240 + r / 262144, 128 + r / 4096 % 64, 128 + r / 64 % 64, 128 + r % 64]
def char_Encode.f (r : Int) : Option (List Int) := some (encS r)
theorem enc_cell (w : World) (r : Int) (n : Nat) : (((w.alloc (.cells #[.int .i32 r] 21)).drewN n).drew).cell? ⟨w.heap.size, 0, none⟩ = some (.int .i32 r) := by
  have h := heap_alloc_new w (.cells #[.int .i32 r] 21)
  show World.cell? (w.alloc (.cells #[.int .i32 r] 21)) _ = _
  unfold World.cell?
  rw [h]
  rfl
theorem lit_R {w W : World} (xs : List Int) (hB : Below w.heap.size w W) (hm : xs.length ≤ 9223372036854775807) (g : Nat) (hg : g = W.heap.size) :
    Kd.R (Kd.int .u8) 5 (W.alloc (.cells (nums .u8 xs).toArray 5)) w.heap.size (fun _ => True) (.slice (some ⟨g, 0, none⟩) xs.length xs.length) xs := by
  subst hg
  exact Kd.R_of_own (h1 := fun _ => rfl) (ok := fun _ => True) (own_lit W w.heap.size 5 .u8 xs hB.size hm) (fun _ _ => trivial)
set_option maxHeartbeats 1600000 in
set_option maxRecDepth 100000 in
theorem enc_on0 (g : Nat) (r : Int) (w : World) (hc : w.cell? ⟨g, 0, none⟩ = some (.int .i32 r)) (h0 : 0 ≤ r) (h1 : r < 1114112) :
    Calls Tryd.prog 76 #[.int .i64 0, .pointer (some ⟨g, 0, none⟩)] w fun e w' => e = .returned (.int .u8 (128 + r % 64)) ∧ w' = w := by
  go_enter Tryd.func76, Tryd.ntmps76
  go_wp2
  go_ret
  exact ⟨by first | rfl | (simp; done) | (simp; omega), rfl⟩
set_option maxHeartbeats 1600000 in
set_option maxRecDepth 100000 in
theorem enc_on1 (g : Nat) (r : Int) (w : World) (hc : w.cell? ⟨g, 0, none⟩ = some (.int .i32 r)) (h0 : 0 ≤ r) (h1 : r < 1114112) :
    Calls Tryd.prog 76 #[.int .i64 1, .pointer (some ⟨g, 0, none⟩)] w fun e w' => e = .returned (.int .u8 (128 + r / 64 % 64)) ∧ w' = w := by
  go_enter Tryd.func76, Tryd.ntmps76
  go_wp2
  go_ret
  exact ⟨by first | rfl | (simp; done) | (simp; omega), rfl⟩
set_option maxHeartbeats 1600000 in
set_option maxRecDepth 100000 in
theorem enc_on2 (g : Nat) (r : Int) (w : World) (hc : w.cell? ⟨g, 0, none⟩ = some (.int .i32 r)) (h0 : 0 ≤ r) (h1 : r < 1114112) :
    Calls Tryd.prog 76 #[.int .i64 2, .pointer (some ⟨g, 0, none⟩)] w fun e w' => e = .returned (.int .u8 (128 + r / 4096 % 64)) ∧ w' = w := by
  go_enter Tryd.func76, Tryd.ntmps76
  go_wp2
  go_ret
  exact ⟨by first | rfl | (simp; done) | (simp; omega), rfl⟩
set_option maxHeartbeats 1600000 in
set_option maxRecDepth 100000 in
theorem enc_none (r : Int) (w : World) (hr : r < 0 ∨ 1114111 < r ∨ (55296 ≤ r ∧ r ≤ 57343)) :
    Calls Tryd.prog 62 #[.int .i32 r] w fun e w' => ∃ v0_ : Value, e = .returned v0_ ∧ Kd.R (Kd.int .u8) 5 w' w.heap.size (fun _ => True) v0_ [] ∧ Below w.heap.size w w' := by
  have hm : char_may.f r = some false := by
    unfold char_may.f
    by_cases h1 : r ≥ 0
    · rw [if_pos h1]
      by_cases h2 : r ≤ 1114111
      · rw [if_pos h2, if_neg (by omega)]
        simp; omega
      · rw [if_neg h2]
    · rw [if_neg h1]
  have HM := Aside0.mk hm
  clear hm hr
  have hmf : ∀ (fn : Fn) (first cap : Array Value) (w : World), (Instr.makeFunc fn first cap).run Tryd.prog w = .ok (.func fn first cap) w := fun _ _ _ _ => rfl
  go_enter Tryd.func62, Tryd.ntmps62
  go_wp2_with (go_at_call 77; (with_reducible refine (char_may.calls _ false _ HM.out).mono ?_); rintro e w' ⟨rfl, ⟨nd, rfl⟩⟩)
  go_ret
  exact ⟨_, rfl, Kd.R_nil _ _ _ _ _, by repeat (first | (with_reducible first | apply below_alloc | apply pw_below_drewN | apply below_drew1) | exact Below.refl _ _)⟩
set_option maxHeartbeats 1600000 in
set_option maxRecDepth 100000 in
theorem enc_one (r : Int) (w : World) (h0 : 0 ≤ r) (h1 : r < 128) :
    Calls Tryd.prog 62 #[.int .i32 r] w fun e w' => ∃ v0_ : Value, e = .returned v0_ ∧ Kd.R (Kd.int .u8) 5 w' w.heap.size (fun _ => True) v0_ [r] ∧ Below w.heap.size w w' := by
  have HM : Aside0 (char_may.f r = some true) := ⟨by unfold char_may.f; rw [if_pos (by omega), if_pos (by omega), if_pos (by omega)]⟩
  have hmf : ∀ (fn : Fn) (first cap : Array Value) (w : World), (Instr.makeFunc fn first cap).run Tryd.prog w = .ok (.func fn first cap) w := fun _ _ _ _ => rfl
  go_enter Tryd.func62, Tryd.ntmps62
  go_wp2_with (go_at_call 77; (with_reducible refine (char_may.calls _ true _ HM.out).mono ?_); rintro e w' ⟨rfl, ⟨nd, rfl⟩⟩)
  go_ret
  refine ⟨_, rfl, ?_, by repeat (first | (with_reducible first | apply below_alloc | apply pw_below_drewN | apply below_drew1) | exact Below.refl _ _)⟩
  first
    | exact lit_R [r] (below_alloc (Below.refl _ _) _) (by simp) _ (by simp)
    | exact Kd.R_drewN (lit_R [r] (below_alloc (Below.refl _ _) _) (by simp) _ (by simp)) _
set_option maxHeartbeats 3200000 in
set_option maxRecDepth 100000 in
theorem enc_2 (r : Int) (w : World) (h0 : 128 ≤ r) (h1 : r < 2048) :
    Calls Tryd.prog 62 #[.int .i32 r] w fun e w' => ∃ v0_ : Value, e = .returned v0_ ∧ Kd.R (Kd.int .u8) 5 w' w.heap.size (fun _ => True) v0_ [192 + r / 64, 128 + r % 64] ∧ Below w.heap.size w w' := by
  have HM : Aside0 (char_may.f r = some true) := ⟨by
    unfold char_may.f
    rw [if_pos (by omega), if_pos (by omega)]
    split
    · rfl
    · simp; omega⟩
  have hmf : ∀ (fn : Fn) (first cap : Array Value) (w : World), (Instr.makeFunc fn first cap).run Tryd.prog w = .ok (.func fn first cap) w := fun _ _ _ _ => rfl
  go_enter Tryd.func62, Tryd.ntmps62
  go_wp2_with (go_at_call 77; (with_reducible refine (char_may.calls _ true _ HM.out).mono ?_); rintro e w' ⟨rfl, ⟨nd, rfl⟩⟩)
  have hc := enc_cell w r nd
  have hb : Below w.heap.size w (((w.alloc (.cells #[.int .i32 r] 21)).drewN nd).drew) := by repeat (first | (with_reducible first | apply below_alloc | apply pw_below_drewN | apply below_drew1) | exact Below.refl _ _)
  refine wp_region_still_tail 6 (by kernel_rfl) (by kernel_rfl) ?_
  simp only [List.take_succ_cons, List.take_zero, List.drop_succ_cons, List.drop_zero]
  change wpStill _ _ (((w.alloc (.cells #[.int .i32 r] 21)).drewN nd).drew) _ _ _
  iterate 5 still_step
  still_call (enc_on0 w.heap.size r _ hc (by omega) (by omega))
  refine wpStill_nil ?_
  go_wp2
  go_ret
  exact ⟨_, rfl, lit_R [192 + r / 64, 128 + r % 64] hb (by simp) _ (by simp), below_alloc hb _⟩
set_option maxHeartbeats 3200000 in
set_option maxRecDepth 100000 in
theorem enc_3 (r : Int) (w : World) (h0 : 2048 ≤ r) (h1 : r < 65536) (h2 : ¬ (55296 ≤ r ∧ r ≤ 57343)) :
    Calls Tryd.prog 62 #[.int .i32 r] w fun e w' => ∃ v0_ : Value, e = .returned v0_ ∧ Kd.R (Kd.int .u8) 5 w' w.heap.size (fun _ => True) v0_ [224 + r / 4096, 128 + r / 64 % 64, 128 + r % 64] ∧ Below w.heap.size w w' := by
  have HM : Aside0 (char_may.f r = some true) := ⟨by
    unfold char_may.f
    rw [if_pos (by omega), if_pos (by omega)]
    split
    · rfl
    · simp; omega⟩
  clear h2
  have hmf : ∀ (fn : Fn) (first cap : Array Value) (w : World), (Instr.makeFunc fn first cap).run Tryd.prog w = .ok (.func fn first cap) w := fun _ _ _ _ => rfl
  go_enter Tryd.func62, Tryd.ntmps62
  go_wp2_with (go_at_call 77; (with_reducible refine (char_may.calls _ true _ HM.out).mono ?_); rintro e w' ⟨rfl, ⟨nd, rfl⟩⟩)
  have hc := enc_cell w r nd
  have hb : Below w.heap.size w (((w.alloc (.cells #[.int .i32 r] 21)).drewN nd).drew) := by repeat (first | (with_reducible first | apply below_alloc | apply pw_below_drewN | apply below_drew1) | exact Below.refl _ _)
  refine wp_region_still_tail 8 (by kernel_rfl) (by kernel_rfl) ?_
  simp only [List.take_succ_cons, List.take_zero, List.drop_succ_cons, List.drop_zero]
  change wpStill _ _ (((w.alloc (.cells #[.int .i32 r] 21)).drewN nd).drew) _ _ _
  iterate 5 still_step
  still_call (enc_on1 w.heap.size r _ hc (by omega) (by omega))
  iterate 1 still_step
  still_call (enc_on0 w.heap.size r _ hc (by omega) (by omega))
  refine wpStill_nil ?_
  go_wp2
  go_ret
  exact ⟨_, rfl, lit_R [224 + r / 4096, 128 + r / 64 % 64, 128 + r % 64] hb (by simp) _ (by simp), below_alloc hb _⟩
set_option maxHeartbeats 3200000 in
set_option maxRecDepth 100000 in
theorem enc_4 (r : Int) (w : World) (h0 : 65536 ≤ r) (h1 : r < 1114112) :
    Calls Tryd.prog 62 #[.int .i32 r] w fun e w' => ∃ v0_ : Value, e = .returned v0_ ∧ Kd.R (Kd.int .u8) 5 w' w.heap.size (fun _ => True) v0_ [240 + r / 262144, 128 + r / 4096 % 64, 128 + r / 64 % 64, 128 + r % 64] ∧ Below w.heap.size w w' := by
  have HM : Aside0 (char_may.f r = some true) := ⟨by
    unfold char_may.f
    rw [if_pos (by omega), if_pos (by omega)]
    split
    · rfl
    · simp; omega⟩
  have hmf : ∀ (fn : Fn) (first cap : Array Value) (w : World), (Instr.makeFunc fn first cap).run Tryd.prog w = .ok (.func fn first cap) w := fun _ _ _ _ => rfl
  go_enter Tryd.func62, Tryd.ntmps62
  go_wp2_with (go_at_call 77; (with_reducible refine (char_may.calls _ true _ HM.out).mono ?_); rintro e w' ⟨rfl, ⟨nd, rfl⟩⟩)
  have hc := enc_cell w r nd
  have hb : Below w.heap.size w (((w.alloc (.cells #[.int .i32 r] 21)).drewN nd).drew) := by repeat (first | (with_reducible first | apply below_alloc | apply pw_below_drewN | apply below_drew1) | exact Below.refl _ _)
  refine wp_region_still_tail 10 (by kernel_rfl) (by kernel_rfl) ?_
  simp only [List.take_succ_cons, List.take_zero, List.drop_succ_cons, List.drop_zero]
  change wpStill _ _ (((w.alloc (.cells #[.int .i32 r] 21)).drewN nd).drew) _ _ _
  iterate 5 still_step
  still_call (enc_on2 w.heap.size r _ hc (by omega) (by omega))
  iterate 1 still_step
  still_call (enc_on1 w.heap.size r _ hc (by omega) (by omega))
  iterate 1 still_step
  still_call (enc_on0 w.heap.size r _ hc (by omega) (by omega))
  refine wpStill_nil ?_
  go_wp2
  go_ret
  exact ⟨_, rfl, lit_R [240 + r / 262144, 128 + r / 4096 % 64, 128 + r / 64 % 64, 128 + r % 64] hb (by simp) _ (by simp), below_alloc hb _⟩
theorem char_Encode.calls (a0 : Int) (r : List Int) (w : World) (h : char_Encode.f a0 = some r) :
    Calls Tryd.prog 62 #[.int .i32 a0] w fun e w' => ∃ v0_ : Value, e = .returned (v0_) ∧ Kd.R (Kd.int .u8) 5 w' w.heap.size (fun _ => True) v0_ r ∧ Below w.heap.size w w' := by
  obtain rfl := Option.some.inj h
  unfold encS
  by_cases h1 : a0 < 0 ∨ 1114111 < a0 ∨ (55296 ≤ a0 ∧ a0 ≤ 57343)
  · rw [if_pos h1]; exact enc_none a0 w h1
  rw [if_neg h1]
  by_cases h2 : a0 < 128
  · rw [if_pos h2]; exact enc_one a0 w (by omega) h2
  rw [if_neg h2]
  by_cases h3 : a0 < 2048
  · rw [if_pos h3]; exact enc_2 a0 w (by omega) h3
  rw [if_neg h3]
  by_cases h4 : a0 < 65536
  · rw [if_pos h4]; exact enc_3 a0 w (by omega) h4 (by omega)
  rw [if_neg h4]
  exact enc_4 a0 w (by omega) (by omega)
end Go.Proofs.YtgbodhlofebajaaDoor.PXmlBase
end
