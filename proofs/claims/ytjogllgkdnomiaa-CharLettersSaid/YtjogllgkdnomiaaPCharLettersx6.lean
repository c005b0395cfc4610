-- Written by a turned copy of the print (wip/print/mkprint.py): contracts proved by hand are joined in. Lean checks it.
import Derived.Test.YtjogllgkdnomiaaPCharLettersx0
import Derived.Test.YtjogllgkdnomiaaPCharLettersx5
namespace Go.Proofs.Ytjogllgkdnomiaa.PCharLetters
open Go.RowKit Go.Proofs.YtjogllgkdnomiaaW.PrintWords Go.Proofs.YtjogllgkdnomiaaW.PrintLast Go.Proofs.YtjogllgkdnomiaaW.PrintMore
attribute [local go_sem] max2_int min2_int max_two min_two max_three min_three max_four min_four   -- for this text's walks alone
set_option linter.unusedVariables false
set_option linter.unusedSimpArgs false

/-! ### rubricref1_Start: function 34 -/
def rubricref1_Start.f (a0 : Int) : Option (Bool) := if a0 ≥ 65 then (if a0 ≤ 90 then (some true) else (if a0 ≥ 97 then (if a0 ≤ 122 then (some true) else (if a0 = 95 then (some true) else (if a0 = 58 then (some true) else (if a0 ≥ 192 then (if a0 = 215 then (some false) else (if a0 = 247 then (some false) else ((rubricref1_Char.f a0).bind fun t163 => (some t163)))) else (some false))))) else (if a0 = 95 then (some true) else (if a0 = 58 then (some true) else (if a0 ≥ 192 then (if a0 = 215 then (some false) else (if a0 = 247 then (some false) else ((rubricref1_Char.f a0).bind fun t164 => (some t164)))) else (some false)))))) else (if a0 ≥ 97 then (if a0 ≤ 122 then (some true) else (if a0 = 95 then (some true) else (if a0 = 58 then (some true) else (if a0 ≥ 192 then (if a0 = 215 then (some false) else (if a0 = 247 then (some false) else ((rubricref1_Char.f a0).bind fun t165 => (some t165)))) else (some false))))) else (if a0 = 95 then (some true) else (if a0 = 58 then (some true) else (if a0 ≥ 192 then (if a0 = 215 then (some false) else (if a0 = 247 then (some false) else ((rubricref1_Char.f a0).bind fun t166 => (some t166)))) else (some false)))))
set_option maxHeartbeats 8000000 in
set_option maxRecDepth 100000 in
theorem rubricref1_Start.calls (a0 : Int) (r : Bool) (w : World) (h : rubricref1_Start.f a0 = some r) :
    Calls Try.prog 34 #[.int .i64 a0] w fun e w' => e = .returned (.bool r) ∧ Drawn0 w w' := by
  have H : (if a0 ≥ 65 then (if a0 ≤ 90 then (some true) else (if a0 ≥ 97 then (if a0 ≤ 122 then (some true) else (if a0 = 95 then (some true) else (if a0 = 58 then (some true) else (if a0 ≥ 192 then (if a0 = 215 then (some false) else (if a0 = 247 then (some false) else ((rubricref1_Char.f a0).bind fun t163 => (some t163)))) else (some false))))) else (if a0 = 95 then (some true) else (if a0 = 58 then (some true) else (if a0 ≥ 192 then (if a0 = 215 then (some false) else (if a0 = 247 then (some false) else ((rubricref1_Char.f a0).bind fun t164 => (some t164)))) else (some false)))))) else (if a0 ≥ 97 then (if a0 ≤ 122 then (some true) else (if a0 = 95 then (some true) else (if a0 = 58 then (some true) else (if a0 ≥ 192 then (if a0 = 215 then (some false) else (if a0 = 247 then (some false) else ((rubricref1_Char.f a0).bind fun t165 => (some t165)))) else (some false))))) else (if a0 = 95 then (some true) else (if a0 = 58 then (some true) else (if a0 ≥ 192 then (if a0 = 215 then (some false) else (if a0 = 247 then (some false) else ((rubricref1_Char.f a0).bind fun t166 => (some t166)))) else (some false)))))) = some r := h
  clear h
  by_cases c2 : a0 ≥ 65
  · rw [if_pos c2] at H
    have c2b0 : decide (65 ≤ a0) = true := decide_eq_true c2
    clear c2
    by_cases c3 : a0 ≤ 90
    · rw [if_pos c3] at H
      have c3b0 : decide (a0 ≤ 90) = true := decide_eq_true c3
      clear c3
      obtain rfl := Option.some.inj H
      go_enter Try.func34, Try.ntmps34
      go_wp2
      go_ret
      exact ⟨by first | rfl | (simp; done) | (simp [*]; done), by repeat (first | exact Drawn0.refl _ | apply Drawn0.step)⟩
    · rw [if_neg c3] at H
      have c3b0 : decide (a0 ≤ 90) = false := decide_eq_false c3
      clear c3
      by_cases c4 : a0 ≥ 97
      · rw [if_pos c4] at H
        have c4b0 : decide (97 ≤ a0) = true := decide_eq_true c4
        clear c4
        by_cases c5 : a0 ≤ 122
        · rw [if_pos c5] at H
          have c5b0 : decide (a0 ≤ 122) = true := decide_eq_true c5
          clear c5
          obtain rfl := Option.some.inj H
          go_enter Try.func34, Try.ntmps34
          go_wp2
          go_ret
          exact ⟨by first | rfl | (simp; done) | (simp [*]; done), by repeat (first | exact Drawn0.refl _ | apply Drawn0.step)⟩
        · rw [if_neg c5] at H
          have c5b0 : decide (a0 ≤ 122) = false := decide_eq_false c5
          clear c5
          by_cases c6 : a0 = 95
          · rw [if_pos c6] at H
            have c6b0 : (a0 == 95) = true := beq_iff_eq.mpr c6
            have c6b1 : (a0 != 95) = false := bne_eq_false_iff_eq.mpr c6
            clear c6
            obtain rfl := Option.some.inj H
            go_enter Try.func34, Try.ntmps34
            go_wp2
            go_ret
            exact ⟨by first | rfl | (simp; done) | (simp [*]; done), by repeat (first | exact Drawn0.refl _ | apply Drawn0.step)⟩
          · rw [if_neg c6] at H
            have c6b0 : (a0 == 95) = false := beq_eq_false_iff_ne.mpr c6
            have c6b1 : (a0 != 95) = true := bne_iff_ne.mpr c6
            by_cases c7 : a0 = 58
            · rw [if_pos c7] at H
              have c7b0 : (a0 == 58) = true := beq_iff_eq.mpr c7
              have c7b1 : (a0 != 58) = false := bne_eq_false_iff_eq.mpr c7
              clear c7
              obtain rfl := Option.some.inj H
              go_enter Try.func34, Try.ntmps34
              go_wp2
              go_ret
              exact ⟨by first | rfl | (simp; done) | (simp [*]; done), by repeat (first | exact Drawn0.refl _ | apply Drawn0.step)⟩
            · rw [if_neg c7] at H
              have c7b0 : (a0 == 58) = false := beq_eq_false_iff_ne.mpr c7
              have c7b1 : (a0 != 58) = true := bne_iff_ne.mpr c7
              by_cases c8 : a0 ≥ 192
              · rw [if_pos c8] at H
                have c8b0 : decide (192 ≤ a0) = true := decide_eq_true c8
                clear c8
                by_cases c9 : a0 = 215
                · rw [if_pos c9] at H
                  have c9b0 : (a0 == 215) = true := beq_iff_eq.mpr c9
                  have c9b1 : (a0 != 215) = false := bne_eq_false_iff_eq.mpr c9
                  clear c9
                  obtain rfl := Option.some.inj H
                  go_enter Try.func34, Try.ntmps34
                  go_wp2
                  go_ret
                  exact ⟨by first | rfl | (simp; done) | (simp [*]; done), by repeat (first | exact Drawn0.refl _ | apply Drawn0.step)⟩
                · rw [if_neg c9] at H
                  have c9b0 : (a0 == 215) = false := beq_eq_false_iff_ne.mpr c9
                  have c9b1 : (a0 != 215) = true := bne_iff_ne.mpr c9
                  by_cases c10 : a0 = 247
                  · rw [if_pos c10] at H
                    have c10b0 : (a0 == 247) = true := beq_iff_eq.mpr c10
                    have c10b1 : (a0 != 247) = false := bne_eq_false_iff_eq.mpr c10
                    clear c10
                    obtain rfl := Option.some.inj H
                    go_enter Try.func34, Try.ntmps34
                    go_wp2
                    go_ret
                    exact ⟨by first | rfl | (simp; done) | (simp [*]; done), by repeat (first | exact Drawn0.refl _ | apply Drawn0.step)⟩
                  · rw [if_neg c10] at H
                    have c10b0 : (a0 == 247) = false := beq_eq_false_iff_ne.mpr c10
                    have c10b1 : (a0 != 247) = true := bne_iff_ne.mpr c10
                    replace H := Option.bind_eq_some_iff.mp H
                    obtain ⟨t163, A110, H⟩ := H
                    replace H : (some t163) = some r := H
                    have A11 := Aside0.mk A110
                    clear A110
                    obtain rfl := Option.some.inj H
                    go_enter Try.func34, Try.ntmps34
                    go_wp2_with (first | (go_at_call 32; (with_reducible refine (rubricref1_Char.calls a0 t163 _ A11.out).mono ?_); rintro e w' ⟨rfl, ⟨nd, rfl⟩⟩))
                    go_ret
                    exact ⟨by first | rfl | (simp; done) | (simp [*]; done), by repeat (first | exact Drawn0.refl _ | apply Drawn0.step)⟩
              · rw [if_neg c8] at H
                have c8b0 : decide (192 ≤ a0) = false := decide_eq_false c8
                clear c8
                obtain rfl := Option.some.inj H
                go_enter Try.func34, Try.ntmps34
                go_wp2
                go_ret
                exact ⟨by first | rfl | (simp; done) | (simp [*]; done), by repeat (first | exact Drawn0.refl _ | apply Drawn0.step)⟩
      · rw [if_neg c4] at H
        have c4b0 : decide (97 ≤ a0) = false := decide_eq_false c4
        clear c4
        by_cases c12 : a0 = 95
        · rw [if_pos c12] at H
          have c12b0 : (a0 == 95) = true := beq_iff_eq.mpr c12
          have c12b1 : (a0 != 95) = false := bne_eq_false_iff_eq.mpr c12
          clear c12
          obtain rfl := Option.some.inj H
          go_enter Try.func34, Try.ntmps34
          go_wp2
          go_ret
          exact ⟨by first | rfl | (simp; done) | (simp [*]; done), by repeat (first | exact Drawn0.refl _ | apply Drawn0.step)⟩
        · rw [if_neg c12] at H
          have c12b0 : (a0 == 95) = false := beq_eq_false_iff_ne.mpr c12
          have c12b1 : (a0 != 95) = true := bne_iff_ne.mpr c12
          by_cases c13 : a0 = 58
          · rw [if_pos c13] at H
            have c13b0 : (a0 == 58) = true := beq_iff_eq.mpr c13
            have c13b1 : (a0 != 58) = false := bne_eq_false_iff_eq.mpr c13
            clear c13
            obtain rfl := Option.some.inj H
            go_enter Try.func34, Try.ntmps34
            go_wp2
            go_ret
            exact ⟨by first | rfl | (simp; done) | (simp [*]; done), by repeat (first | exact Drawn0.refl _ | apply Drawn0.step)⟩
          · rw [if_neg c13] at H
            have c13b0 : (a0 == 58) = false := beq_eq_false_iff_ne.mpr c13
            have c13b1 : (a0 != 58) = true := bne_iff_ne.mpr c13
            by_cases c14 : a0 ≥ 192
            · rw [if_pos c14] at H
              have c14b0 : decide (192 ≤ a0) = true := decide_eq_true c14
              clear c14
              by_cases c15 : a0 = 215
              · rw [if_pos c15] at H
                have c15b0 : (a0 == 215) = true := beq_iff_eq.mpr c15
                have c15b1 : (a0 != 215) = false := bne_eq_false_iff_eq.mpr c15
                clear c15
                obtain rfl := Option.some.inj H
                go_enter Try.func34, Try.ntmps34
                go_wp2
                go_ret
                exact ⟨by first | rfl | (simp; done) | (simp [*]; done), by repeat (first | exact Drawn0.refl _ | apply Drawn0.step)⟩
              · rw [if_neg c15] at H
                have c15b0 : (a0 == 215) = false := beq_eq_false_iff_ne.mpr c15
                have c15b1 : (a0 != 215) = true := bne_iff_ne.mpr c15
                by_cases c16 : a0 = 247
                · rw [if_pos c16] at H
                  have c16b0 : (a0 == 247) = true := beq_iff_eq.mpr c16
                  have c16b1 : (a0 != 247) = false := bne_eq_false_iff_eq.mpr c16
                  clear c16
                  obtain rfl := Option.some.inj H
                  go_enter Try.func34, Try.ntmps34
                  go_wp2
                  go_ret
                  exact ⟨by first | rfl | (simp; done) | (simp [*]; done), by repeat (first | exact Drawn0.refl _ | apply Drawn0.step)⟩
                · rw [if_neg c16] at H
                  have c16b0 : (a0 == 247) = false := beq_eq_false_iff_ne.mpr c16
                  have c16b1 : (a0 != 247) = true := bne_iff_ne.mpr c16
                  replace H := Option.bind_eq_some_iff.mp H
                  obtain ⟨t164, A170, H⟩ := H
                  replace H : (some t164) = some r := H
                  have A17 := Aside0.mk A170
                  clear A170
                  obtain rfl := Option.some.inj H
                  go_enter Try.func34, Try.ntmps34
                  go_wp2_with (first | (go_at_call 32; (with_reducible refine (rubricref1_Char.calls a0 t164 _ A17.out).mono ?_); rintro e w' ⟨rfl, ⟨nd, rfl⟩⟩))
                  go_ret
                  exact ⟨by first | rfl | (simp; done) | (simp [*]; done), by repeat (first | exact Drawn0.refl _ | apply Drawn0.step)⟩
            · rw [if_neg c14] at H
              have c14b0 : decide (192 ≤ a0) = false := decide_eq_false c14
              clear c14
              obtain rfl := Option.some.inj H
              go_enter Try.func34, Try.ntmps34
              go_wp2
              go_ret
              exact ⟨by first | rfl | (simp; done) | (simp [*]; done), by repeat (first | exact Drawn0.refl _ | apply Drawn0.step)⟩
  · rw [if_neg c2] at H
    have c2b0 : decide (65 ≤ a0) = false := decide_eq_false c2
    clear c2
    by_cases c18 : a0 ≥ 97
    · rw [if_pos c18] at H
      have c18b0 : decide (97 ≤ a0) = true := decide_eq_true c18
      clear c18
      by_cases c19 : a0 ≤ 122
      · rw [if_pos c19] at H
        have c19b0 : decide (a0 ≤ 122) = true := decide_eq_true c19
        clear c19
        obtain rfl := Option.some.inj H
        go_enter Try.func34, Try.ntmps34
        go_wp2
        go_ret
        exact ⟨by first | rfl | (simp; done) | (simp [*]; done), by repeat (first | exact Drawn0.refl _ | apply Drawn0.step)⟩
      · rw [if_neg c19] at H
        have c19b0 : decide (a0 ≤ 122) = false := decide_eq_false c19
        clear c19
        by_cases c20 : a0 = 95
        · rw [if_pos c20] at H
          have c20b0 : (a0 == 95) = true := beq_iff_eq.mpr c20
          have c20b1 : (a0 != 95) = false := bne_eq_false_iff_eq.mpr c20
          clear c20
          obtain rfl := Option.some.inj H
          go_enter Try.func34, Try.ntmps34
          go_wp2
          go_ret
          exact ⟨by first | rfl | (simp; done) | (simp [*]; done), by repeat (first | exact Drawn0.refl _ | apply Drawn0.step)⟩
        · rw [if_neg c20] at H
          have c20b0 : (a0 == 95) = false := beq_eq_false_iff_ne.mpr c20
          have c20b1 : (a0 != 95) = true := bne_iff_ne.mpr c20
          by_cases c21 : a0 = 58
          · rw [if_pos c21] at H
            have c21b0 : (a0 == 58) = true := beq_iff_eq.mpr c21
            have c21b1 : (a0 != 58) = false := bne_eq_false_iff_eq.mpr c21
            clear c21
            obtain rfl := Option.some.inj H
            go_enter Try.func34, Try.ntmps34
            go_wp2
            go_ret
            exact ⟨by first | rfl | (simp; done) | (simp [*]; done), by repeat (first | exact Drawn0.refl _ | apply Drawn0.step)⟩
          · rw [if_neg c21] at H
            have c21b0 : (a0 == 58) = false := beq_eq_false_iff_ne.mpr c21
            have c21b1 : (a0 != 58) = true := bne_iff_ne.mpr c21
            by_cases c22 : a0 ≥ 192
            · rw [if_pos c22] at H
              have c22b0 : decide (192 ≤ a0) = true := decide_eq_true c22
              clear c22
              by_cases c23 : a0 = 215
              · rw [if_pos c23] at H
                have c23b0 : (a0 == 215) = true := beq_iff_eq.mpr c23
                have c23b1 : (a0 != 215) = false := bne_eq_false_iff_eq.mpr c23
                clear c23
                obtain rfl := Option.some.inj H
                go_enter Try.func34, Try.ntmps34
                go_wp2
                go_ret
                exact ⟨by first | rfl | (simp; done) | (simp [*]; done), by repeat (first | exact Drawn0.refl _ | apply Drawn0.step)⟩
              · rw [if_neg c23] at H
                have c23b0 : (a0 == 215) = false := beq_eq_false_iff_ne.mpr c23
                have c23b1 : (a0 != 215) = true := bne_iff_ne.mpr c23
                by_cases c24 : a0 = 247
                · rw [if_pos c24] at H
                  have c24b0 : (a0 == 247) = true := beq_iff_eq.mpr c24
                  have c24b1 : (a0 != 247) = false := bne_eq_false_iff_eq.mpr c24
                  clear c24
                  obtain rfl := Option.some.inj H
                  go_enter Try.func34, Try.ntmps34
                  go_wp2
                  go_ret
                  exact ⟨by first | rfl | (simp; done) | (simp [*]; done), by repeat (first | exact Drawn0.refl _ | apply Drawn0.step)⟩
                · rw [if_neg c24] at H
                  have c24b0 : (a0 == 247) = false := beq_eq_false_iff_ne.mpr c24
                  have c24b1 : (a0 != 247) = true := bne_iff_ne.mpr c24
                  replace H := Option.bind_eq_some_iff.mp H
                  obtain ⟨t165, A250, H⟩ := H
                  replace H : (some t165) = some r := H
                  have A25 := Aside0.mk A250
                  clear A250
                  obtain rfl := Option.some.inj H
                  go_enter Try.func34, Try.ntmps34
                  go_wp2_with (first | (go_at_call 32; (with_reducible refine (rubricref1_Char.calls a0 t165 _ A25.out).mono ?_); rintro e w' ⟨rfl, ⟨nd, rfl⟩⟩))
                  go_ret
                  exact ⟨by first | rfl | (simp; done) | (simp [*]; done), by repeat (first | exact Drawn0.refl _ | apply Drawn0.step)⟩
            · rw [if_neg c22] at H
              have c22b0 : decide (192 ≤ a0) = false := decide_eq_false c22
              clear c22
              obtain rfl := Option.some.inj H
              go_enter Try.func34, Try.ntmps34
              go_wp2
              go_ret
              exact ⟨by first | rfl | (simp; done) | (simp [*]; done), by repeat (first | exact Drawn0.refl _ | apply Drawn0.step)⟩
    · rw [if_neg c18] at H
      have c18b0 : decide (97 ≤ a0) = false := decide_eq_false c18
      clear c18
      by_cases c26 : a0 = 95
      · rw [if_pos c26] at H
        have c26b0 : (a0 == 95) = true := beq_iff_eq.mpr c26
        have c26b1 : (a0 != 95) = false := bne_eq_false_iff_eq.mpr c26
        clear c26
        obtain rfl := Option.some.inj H
        go_enter Try.func34, Try.ntmps34
        go_wp2
        go_ret
        exact ⟨by first | rfl | (simp; done) | (simp [*]; done), by repeat (first | exact Drawn0.refl _ | apply Drawn0.step)⟩
      · rw [if_neg c26] at H
        have c26b0 : (a0 == 95) = false := beq_eq_false_iff_ne.mpr c26
        have c26b1 : (a0 != 95) = true := bne_iff_ne.mpr c26
        by_cases c27 : a0 = 58
        · rw [if_pos c27] at H
          have c27b0 : (a0 == 58) = true := beq_iff_eq.mpr c27
          have c27b1 : (a0 != 58) = false := bne_eq_false_iff_eq.mpr c27
          clear c27
          obtain rfl := Option.some.inj H
          go_enter Try.func34, Try.ntmps34
          go_wp2
          go_ret
          exact ⟨by first | rfl | (simp; done) | (simp [*]; done), by repeat (first | exact Drawn0.refl _ | apply Drawn0.step)⟩
        · rw [if_neg c27] at H
          have c27b0 : (a0 == 58) = false := beq_eq_false_iff_ne.mpr c27
          have c27b1 : (a0 != 58) = true := bne_iff_ne.mpr c27
          by_cases c28 : a0 ≥ 192
          · rw [if_pos c28] at H
            have c28b0 : decide (192 ≤ a0) = true := decide_eq_true c28
            clear c28
            by_cases c29 : a0 = 215
            · rw [if_pos c29] at H
              have c29b0 : (a0 == 215) = true := beq_iff_eq.mpr c29
              have c29b1 : (a0 != 215) = false := bne_eq_false_iff_eq.mpr c29
              clear c29
              obtain rfl := Option.some.inj H
              go_enter Try.func34, Try.ntmps34
              go_wp2
              go_ret
              exact ⟨by first | rfl | (simp; done) | (simp [*]; done), by repeat (first | exact Drawn0.refl _ | apply Drawn0.step)⟩
            · rw [if_neg c29] at H
              have c29b0 : (a0 == 215) = false := beq_eq_false_iff_ne.mpr c29
              have c29b1 : (a0 != 215) = true := bne_iff_ne.mpr c29
              by_cases c30 : a0 = 247
              · rw [if_pos c30] at H
                have c30b0 : (a0 == 247) = true := beq_iff_eq.mpr c30
                have c30b1 : (a0 != 247) = false := bne_eq_false_iff_eq.mpr c30
                clear c30
                obtain rfl := Option.some.inj H
                go_enter Try.func34, Try.ntmps34
                go_wp2
                go_ret
                exact ⟨by first | rfl | (simp; done) | (simp [*]; done), by repeat (first | exact Drawn0.refl _ | apply Drawn0.step)⟩
              · rw [if_neg c30] at H
                have c30b0 : (a0 == 247) = false := beq_eq_false_iff_ne.mpr c30
                have c30b1 : (a0 != 247) = true := bne_iff_ne.mpr c30
                replace H := Option.bind_eq_some_iff.mp H
                obtain ⟨t166, A310, H⟩ := H
                replace H : (some t166) = some r := H
                have A31 := Aside0.mk A310
                clear A310
                obtain rfl := Option.some.inj H
                go_enter Try.func34, Try.ntmps34
                go_wp2_with (first | (go_at_call 32; (with_reducible refine (rubricref1_Char.calls a0 t166 _ A31.out).mono ?_); rintro e w' ⟨rfl, ⟨nd, rfl⟩⟩))
                go_ret
                exact ⟨by first | rfl | (simp; done) | (simp [*]; done), by repeat (first | exact Drawn0.refl _ | apply Drawn0.step)⟩
          · rw [if_neg c28] at H
            have c28b0 : decide (192 ≤ a0) = false := decide_eq_false c28
            clear c28
            obtain rfl := Option.some.inj H
            go_enter Try.func34, Try.ntmps34
            go_wp2
            go_ret
            exact ⟨by first | rfl | (simp; done) | (simp [*]; done), by repeat (first | exact Drawn0.refl _ | apply Drawn0.step)⟩

/-! ### rubricref1_Part: function 36 -/
def rubricref1_Part.f (a0 : Int) : Option (Bool) := (rubricref1_Start.f a0).bind fun t167 => (if t167 = true then (some true) else (if a0 ≥ 48 then (if a0 ≤ 57 then (some true) else (if a0 = 45 then (some true) else (if a0 = 46 then (some true) else (some (a0 == 183))))) else (if a0 = 45 then (some true) else (if a0 = 46 then (some true) else (some (a0 == 183))))))
set_option maxHeartbeats 8000000 in
set_option maxRecDepth 100000 in
theorem rubricref1_Part.calls (a0 : Int) (r : Bool) (w : World) (h : rubricref1_Part.f a0 = some r) :
    Calls Try.prog 36 #[.int .i64 a0] w fun e w' => e = .returned (.bool r) ∧ Drawn0 w w' := by
  have H : ((rubricref1_Start.f a0).bind fun t167 => (if t167 = true then (some true) else (if a0 ≥ 48 then (if a0 ≤ 57 then (some true) else (if a0 = 45 then (some true) else (if a0 = 46 then (some true) else (some (a0 == 183))))) else (if a0 = 45 then (some true) else (if a0 = 46 then (some true) else (some (a0 == 183))))))) = some r := h
  clear h
  replace H := Option.bind_eq_some_iff.mp H
  obtain ⟨t167, A20, H⟩ := H
  replace H : (if t167 = true then (some true) else (if a0 ≥ 48 then (if a0 ≤ 57 then (some true) else (if a0 = 45 then (some true) else (if a0 = 46 then (some true) else (some (a0 == 183))))) else (if a0 = 45 then (some true) else (if a0 = 46 then (some true) else (some (a0 == 183)))))) = some r := H
  have A2 := Aside0.mk A20
  clear A20
  by_cases c3 : t167 = true
  · subst c3
    have H1 : (some true) = some r := by rw [if_pos rfl] at H; exact H
    clear H
    have H := H1
    clear H1
    obtain rfl := Option.some.inj H
    go_enter Try.func36, Try.ntmps36
    go_wp2_with (first | ((with_reducible refine gate_callee (f := 34) rfl ?_); refine goesL_ (some 4) rfl rfl Try.func34 (by kernel_rfl) rfl #[.int .i64 a0] rfl (by (try simp only [List.map_toArray, List.map_cons, List.map_nil]); first | done | rfl | (simp only [List.length_drop, List.length_take]; rfl)) ?_; (with_reducible refine (rubricref1_Start.calls a0 true _ A2.out).mono ?_); rintro e w' ⟨rfl, ⟨nd, rfl⟩⟩; refine ⟨_, rfl, ?_⟩))
    go_ret
    exact ⟨by first | rfl | (simp; done) | (simp [*]; done), by repeat (first | exact Drawn0.refl _ | apply Drawn0.step)⟩
  · replace c3 := Bool.eq_false_iff.mpr c3
    subst c3
    have H1 : (if a0 ≥ 48 then (if a0 ≤ 57 then (some true) else (if a0 = 45 then (some true) else (if a0 = 46 then (some true) else (some (a0 == 183))))) else (if a0 = 45 then (some true) else (if a0 = 46 then (some true) else (some (a0 == 183))))) = some r := by rw [if_neg (show ¬ (false = true) by decide)] at H; exact H
    clear H
    have H := H1
    clear H1
    by_cases c4 : a0 ≥ 48
    · rw [if_pos c4] at H
      have c4b0 : decide (48 ≤ a0) = true := decide_eq_true c4
      clear c4
      by_cases c5 : a0 ≤ 57
      · rw [if_pos c5] at H
        have c5b0 : decide (a0 ≤ 57) = true := decide_eq_true c5
        clear c5
        obtain rfl := Option.some.inj H
        go_enter Try.func36, Try.ntmps36
        go_wp2_with (first | ((with_reducible refine gate_callee (f := 34) rfl ?_); refine goesL_ (some 4) rfl rfl Try.func34 (by kernel_rfl) rfl #[.int .i64 a0] rfl (by (try simp only [List.map_toArray, List.map_cons, List.map_nil]); first | done | rfl | (simp only [List.length_drop, List.length_take]; rfl)) ?_; (with_reducible refine (rubricref1_Start.calls a0 false _ A2.out).mono ?_); rintro e w' ⟨rfl, ⟨nd, rfl⟩⟩; refine ⟨_, rfl, ?_⟩))
        go_ret
        exact ⟨by first | rfl | (simp; done) | (simp [*]; done), by repeat (first | exact Drawn0.refl _ | apply Drawn0.step)⟩
      · rw [if_neg c5] at H
        have c5b0 : decide (a0 ≤ 57) = false := decide_eq_false c5
        clear c5
        by_cases c6 : a0 = 45
        · rw [if_pos c6] at H
          have c6b0 : (a0 == 45) = true := beq_iff_eq.mpr c6
          have c6b1 : (a0 != 45) = false := bne_eq_false_iff_eq.mpr c6
          clear c6
          obtain rfl := Option.some.inj H
          go_enter Try.func36, Try.ntmps36
          go_wp2_with (first | ((with_reducible refine gate_callee (f := 34) rfl ?_); refine goesL_ (some 4) rfl rfl Try.func34 (by kernel_rfl) rfl #[.int .i64 a0] rfl (by (try simp only [List.map_toArray, List.map_cons, List.map_nil]); first | done | rfl | (simp only [List.length_drop, List.length_take]; rfl)) ?_; (with_reducible refine (rubricref1_Start.calls a0 false _ A2.out).mono ?_); rintro e w' ⟨rfl, ⟨nd, rfl⟩⟩; refine ⟨_, rfl, ?_⟩))
          go_ret
          exact ⟨by first | rfl | (simp; done) | (simp [*]; done), by repeat (first | exact Drawn0.refl _ | apply Drawn0.step)⟩
        · rw [if_neg c6] at H
          have c6b0 : (a0 == 45) = false := beq_eq_false_iff_ne.mpr c6
          have c6b1 : (a0 != 45) = true := bne_iff_ne.mpr c6
          by_cases c7 : a0 = 46
          · rw [if_pos c7] at H
            have c7b0 : (a0 == 46) = true := beq_iff_eq.mpr c7
            have c7b1 : (a0 != 46) = false := bne_eq_false_iff_eq.mpr c7
            clear c7
            obtain rfl := Option.some.inj H
            go_enter Try.func36, Try.ntmps36
            go_wp2_with (first | ((with_reducible refine gate_callee (f := 34) rfl ?_); refine goesL_ (some 4) rfl rfl Try.func34 (by kernel_rfl) rfl #[.int .i64 a0] rfl (by (try simp only [List.map_toArray, List.map_cons, List.map_nil]); first | done | rfl | (simp only [List.length_drop, List.length_take]; rfl)) ?_; (with_reducible refine (rubricref1_Start.calls a0 false _ A2.out).mono ?_); rintro e w' ⟨rfl, ⟨nd, rfl⟩⟩; refine ⟨_, rfl, ?_⟩))
            go_ret
            exact ⟨by first | rfl | (simp; done) | (simp [*]; done), by repeat (first | exact Drawn0.refl _ | apply Drawn0.step)⟩
          · rw [if_neg c7] at H
            have c7b0 : (a0 == 46) = false := beq_eq_false_iff_ne.mpr c7
            have c7b1 : (a0 != 46) = true := bne_iff_ne.mpr c7
            obtain rfl := Option.some.inj H
            go_enter Try.func36, Try.ntmps36
            go_wp2_with (first | ((with_reducible refine gate_callee (f := 34) rfl ?_); refine goesL_ (some 4) rfl rfl Try.func34 (by kernel_rfl) rfl #[.int .i64 a0] rfl (by (try simp only [List.map_toArray, List.map_cons, List.map_nil]); first | done | rfl | (simp only [List.length_drop, List.length_take]; rfl)) ?_; (with_reducible refine (rubricref1_Start.calls a0 false _ A2.out).mono ?_); rintro e w' ⟨rfl, ⟨nd, rfl⟩⟩; refine ⟨_, rfl, ?_⟩))
            go_ret
            exact ⟨by first | rfl | (simp; done) | (simp [*]; done), by repeat (first | exact Drawn0.refl _ | apply Drawn0.step)⟩
    · rw [if_neg c4] at H
      have c4b0 : decide (48 ≤ a0) = false := decide_eq_false c4
      clear c4
      by_cases c8 : a0 = 45
      · rw [if_pos c8] at H
        have c8b0 : (a0 == 45) = true := beq_iff_eq.mpr c8
        have c8b1 : (a0 != 45) = false := bne_eq_false_iff_eq.mpr c8
        clear c8
        obtain rfl := Option.some.inj H
        go_enter Try.func36, Try.ntmps36
        go_wp2_with (first | ((with_reducible refine gate_callee (f := 34) rfl ?_); refine goesL_ (some 4) rfl rfl Try.func34 (by kernel_rfl) rfl #[.int .i64 a0] rfl (by (try simp only [List.map_toArray, List.map_cons, List.map_nil]); first | done | rfl | (simp only [List.length_drop, List.length_take]; rfl)) ?_; (with_reducible refine (rubricref1_Start.calls a0 false _ A2.out).mono ?_); rintro e w' ⟨rfl, ⟨nd, rfl⟩⟩; refine ⟨_, rfl, ?_⟩))
        go_ret
        exact ⟨by first | rfl | (simp; done) | (simp [*]; done), by repeat (first | exact Drawn0.refl _ | apply Drawn0.step)⟩
      · rw [if_neg c8] at H
        have c8b0 : (a0 == 45) = false := beq_eq_false_iff_ne.mpr c8
        have c8b1 : (a0 != 45) = true := bne_iff_ne.mpr c8
        by_cases c9 : a0 = 46
        · rw [if_pos c9] at H
          have c9b0 : (a0 == 46) = true := beq_iff_eq.mpr c9
          have c9b1 : (a0 != 46) = false := bne_eq_false_iff_eq.mpr c9
          clear c9
          obtain rfl := Option.some.inj H
          go_enter Try.func36, Try.ntmps36
          go_wp2_with (first | ((with_reducible refine gate_callee (f := 34) rfl ?_); refine goesL_ (some 4) rfl rfl Try.func34 (by kernel_rfl) rfl #[.int .i64 a0] rfl (by (try simp only [List.map_toArray, List.map_cons, List.map_nil]); first | done | rfl | (simp only [List.length_drop, List.length_take]; rfl)) ?_; (with_reducible refine (rubricref1_Start.calls a0 false _ A2.out).mono ?_); rintro e w' ⟨rfl, ⟨nd, rfl⟩⟩; refine ⟨_, rfl, ?_⟩))
          go_ret
          exact ⟨by first | rfl | (simp; done) | (simp [*]; done), by repeat (first | exact Drawn0.refl _ | apply Drawn0.step)⟩
        · rw [if_neg c9] at H
          have c9b0 : (a0 == 46) = false := beq_eq_false_iff_ne.mpr c9
          have c9b1 : (a0 != 46) = true := bne_iff_ne.mpr c9
          obtain rfl := Option.some.inj H
          go_enter Try.func36, Try.ntmps36
          go_wp2_with (first | ((with_reducible refine gate_callee (f := 34) rfl ?_); refine goesL_ (some 4) rfl rfl Try.func34 (by kernel_rfl) rfl #[.int .i64 a0] rfl (by (try simp only [List.map_toArray, List.map_cons, List.map_nil]); first | done | rfl | (simp only [List.length_drop, List.length_take]; rfl)) ?_; (with_reducible refine (rubricref1_Start.calls a0 false _ A2.out).mono ?_); rintro e w' ⟨rfl, ⟨nd, rfl⟩⟩; refine ⟨_, rfl, ?_⟩))
          go_ret
          exact ⟨by first | rfl | (simp; done) | (simp [*]; done), by repeat (first | exact Drawn0.refl _ | apply Drawn0.step)⟩

/-! ### rubricref1_White: function 38 -/
def rubricref1_White.f (a0 : Int) : Option (Bool) := if a0 = 9 then (some true) else (if a0 = 10 then (some true) else (if a0 = 13 then (some true) else (some (a0 == 32))))
set_option maxHeartbeats 8000000 in
set_option maxRecDepth 100000 in
theorem rubricref1_White.calls (a0 : Int) (r : Bool) (w : World) (h : rubricref1_White.f a0 = some r) :
    Calls Try.prog 38 #[.int .i64 a0] w fun e w' => e = .returned (.bool r) ∧ Drawn0 w w' := by
  have H : (if a0 = 9 then (some true) else (if a0 = 10 then (some true) else (if a0 = 13 then (some true) else (some (a0 == 32))))) = some r := h
  clear h
  by_cases c2 : a0 = 9
  · rw [if_pos c2] at H
    have c2b0 : (a0 == 9) = true := beq_iff_eq.mpr c2
    have c2b1 : (a0 != 9) = false := bne_eq_false_iff_eq.mpr c2
    clear c2
    obtain rfl := Option.some.inj H
    go_enter Try.func38, Try.ntmps38
    go_wp2
    go_ret
    exact ⟨by first | rfl | (simp; done) | (simp [*]; done), by repeat (first | exact Drawn0.refl _ | apply Drawn0.step)⟩
  · rw [if_neg c2] at H
    have c2b0 : (a0 == 9) = false := beq_eq_false_iff_ne.mpr c2
    have c2b1 : (a0 != 9) = true := bne_iff_ne.mpr c2
    by_cases c3 : a0 = 10
    · rw [if_pos c3] at H
      have c3b0 : (a0 == 10) = true := beq_iff_eq.mpr c3
      have c3b1 : (a0 != 10) = false := bne_eq_false_iff_eq.mpr c3
      clear c3
      obtain rfl := Option.some.inj H
      go_enter Try.func38, Try.ntmps38
      go_wp2
      go_ret
      exact ⟨by first | rfl | (simp; done) | (simp [*]; done), by repeat (first | exact Drawn0.refl _ | apply Drawn0.step)⟩
    · rw [if_neg c3] at H
      have c3b0 : (a0 == 10) = false := beq_eq_false_iff_ne.mpr c3
      have c3b1 : (a0 != 10) = true := bne_iff_ne.mpr c3
      by_cases c4 : a0 = 13
      · rw [if_pos c4] at H
        have c4b0 : (a0 == 13) = true := beq_iff_eq.mpr c4
        have c4b1 : (a0 != 13) = false := bne_eq_false_iff_eq.mpr c4
        clear c4
        obtain rfl := Option.some.inj H
        go_enter Try.func38, Try.ntmps38
        go_wp2
        go_ret
        exact ⟨by first | rfl | (simp; done) | (simp [*]; done), by repeat (first | exact Drawn0.refl _ | apply Drawn0.step)⟩
      · rw [if_neg c4] at H
        have c4b0 : (a0 == 13) = false := beq_eq_false_iff_ne.mpr c4
        have c4b1 : (a0 != 13) = true := bne_iff_ne.mpr c4
        obtain rfl := Option.some.inj H
        go_enter Try.func38, Try.ntmps38
        go_wp2
        go_ret
        exact ⟨by first | rfl | (simp; done) | (simp [*]; done), by repeat (first | exact Drawn0.refl _ | apply Drawn0.step)⟩

end Go.Proofs.Ytjogllgkdnomiaa.PCharLetters
