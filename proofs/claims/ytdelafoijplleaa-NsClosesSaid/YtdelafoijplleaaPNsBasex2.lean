-- Written by a turned copy of the print (wip/print/mkprint.py): contracts proved by hand are joined in. Lean checks it.
import Derived.Test.YtdelafoijplleaaPNsBasex0
import Derived.Test.YtdelafoijplleaaPNsBasex1
namespace Go.Proofs.Ytdelafoijplleaa.PNsBase
open Go.RowKit Go.Proofs.YtdelafoijplleaaW.PrintWords Go.Proofs.YtdelafoijplleaaW.PrintLast Go.Proofs.YtdelafoijplleaaW.PrintMore
attribute [local go_sem] max2_int min2_int max_two min_two max_three min_three max_four min_four   -- for this text's walks alone
set_option linter.unusedVariables false
set_option linter.unusedSimpArgs false

/-! ### char_Start: function 40 -/
mutual
def char_Start.j0 : Nat → Int → Bool → Option (Bool)
  | 0, _, _ => none
  | k + 1, x0, x3 => if x3 = true then (some true) else (if x0 ≥ 97 then (char_Start.j1 k x0 (decide (x0 ≤ 122))) else (char_Start.j1 k x0 false))
def char_Start.j1 : Nat → Int → Bool → Option (Bool)
  | 0, _, _ => none
  | k + 1, x0, x3 => if x3 = true then (some true) else (if x0 = 95 then (some true) else (if x0 = 58 then (some true) else (if x0 ≥ 192 then (if x0 = 215 then (some false) else (if x0 = 247 then (some false) else ((char_Char.f x0).bind fun t101 => (some t101)))) else (some false))))
end
def char_Start.f (k : Nat) (a0 : Int) : Option (Bool) := if a0 ≥ 65 then (char_Start.j0 k a0 (decide (a0 ≤ 90))) else (char_Start.j0 k a0 false)
theorem char_Start.mono_l : ∀ k, (∀ y0 y1, LeO (char_Start.j0 k y0 y1) (char_Start.j0 (k + 1) y0 y1)) ∧ (∀ y0 y1, LeO (char_Start.j1 k y0 y1) (char_Start.j1 (k + 1) y0 y1))
  | 0 => ⟨fun _ _ r h => by simp [char_Start.j0] at h, fun _ _ r h => by simp [char_Start.j1] at h⟩
  | k + 1 => by
    obtain ⟨ih0, ih1⟩ := char_Start.mono_l k
    refine ⟨?_, ?_⟩
    · intro y0 y1
      unfold char_Start.j0
      repeat' first
      | (with_reducible exact ih0 _ _)
      | (with_reducible exact ih1 _ _)
      | (with_reducible exact LeO.refl _)
      | (with_reducible exact LeO.none _)
      | (with_reducible refine LeO.ite ?_ ?_)
      | (with_reducible refine LeO.bind ?_ (fun _ => ?_))
      | exact ih0 _ _
      | exact ih1 _ _
      | exact LeO.none _
      | refine LeO.ite ?_ ?_
      | refine LeO.bind ?_ (fun _ => ?_)
    · intro y0 y1
      unfold char_Start.j1
      repeat' first
      | (with_reducible exact ih0 _ _)
      | (with_reducible exact ih1 _ _)
      | (with_reducible exact LeO.refl _)
      | (with_reducible exact LeO.none _)
      | (with_reducible refine LeO.ite ?_ ?_)
      | (with_reducible refine LeO.bind ?_ (fun _ => ?_))
      | exact ih0 _ _
      | exact ih1 _ _
      | exact LeO.none _
      | refine LeO.ite ?_ ?_
      | refine LeO.bind ?_ (fun _ => ?_)
theorem char_Start.mono : ∀ a0 k, LeO (char_Start.f k a0) (char_Start.f (k + 1) a0) := by
  intro a0 k
  obtain ⟨ih0, ih1⟩ := char_Start.mono_l k
  unfold char_Start.f
  repeat' first
      | (with_reducible exact ih0 _ _)
      | (with_reducible exact ih1 _ _)
      | (with_reducible exact LeO.refl _)
      | (with_reducible exact LeO.none _)
      | (with_reducible refine LeO.ite ?_ ?_)
      | (with_reducible refine LeO.bind ?_ (fun _ => ?_))
      | exact ih0 _ _
      | exact ih1 _ _
      | exact LeO.none _
      | refine LeO.ite ?_ ?_
      | refine LeO.bind ?_ (fun _ => ?_)
set_option maxHeartbeats 8000000 in
set_option maxRecDepth 100000 in
theorem char_Start.calls (k : Nat) (a0 : Int) (r : Bool) (w : World) (h : char_Start.f k a0 = some r) :
    Calls Try.prog 40 #[.int .i32 a0] w fun e w' => e = .returned (.bool r) ∧ Drawn0 w w' := by
  have H : (if a0 ≥ 65 then (char_Start.j0 k a0 (decide (a0 ≤ 90))) else (char_Start.j0 k a0 false)) = some r := h
  clear h
  have HC2 := Aside0.mk H
  clear H
  go_enter Try.func40, Try.ntmps40
  go_upto_region 1 with (fail)
  go_cut [3] (fun v3 wc => ∃ (kq : Nat) (x3_1 : Bool), v3 = .bool x3_1 ∧ Aside0 (char_Start.j0 kq a0 x3_1 = some r) ∧ Aside0 (kq ≤ k) ∧ Drawn0 w wc)
  case first =>
    have H := HC2.out
    clear HC2
    by_cases c3 : a0 ≥ 65
    · rw [if_pos c3] at H
      have c3b0 : decide (65 ≤ a0) = true := decide_eq_true c3
      clear c3
      (first | rw [c3b0] | (simp only [i64_w, i32_w]; rw [c3b0]) | skip)
      have H' := Aside0.mk H
      clear H
      go_wp2
      go_meet
      case rel => exact ⟨_, (decide (a0 ≤ 90)), (by first | rfl | (simp; done) | (simp [*]; done)), H', ⟨by first | omega | exact Nat.le_refl _⟩, by repeat (first | exact Drawn0.refl _ | apply Drawn0.step)⟩
    · rw [if_neg c3] at H
      have c3b0 : decide (65 ≤ a0) = false := decide_eq_false c3
      clear c3
      (first | rw [c3b0] | (simp only [i64_w, i32_w]; rw [c3b0]) | skip)
      have H' := Aside0.mk H
      clear H
      go_wp2
      go_meet
      case rel => exact ⟨_, (false), (by first | rfl | (simp; done) | (simp [*]; done)), H', ⟨by first | omega | exact Nat.le_refl _⟩, by repeat (first | exact Drawn0.refl _ | apply Drawn0.step)⟩
  case rest =>
    clear HC2
    try clear p2
    try clear c3
    try clear c3b0
    obtain ⟨kq, x3_1, rfl, HA, HJ1, ⟨mc1, rfl⟩⟩ := hcut
    cases kq with
    | zero => exact absurd HA.out (by simp [char_Start.j0])
    | succ kj1 =>
      have H := HA.out
      clear HA
      simp only [char_Start.j0] at H
      by_cases c4 : x3_1 = true
      · subst c4
        have H1 : (some true) = some r := by rw [if_pos rfl] at H; exact H
        clear H
        have H := H1
        clear H1
        obtain rfl := Option.some.inj H
        go_wp2
        go_ret
        exact ⟨by first | rfl | (simp; done) | (simp [*]; done), by repeat (first | exact Drawn0.refl _ | apply Drawn0.step)⟩
      · replace c4 := Bool.eq_false_iff.mpr c4
        subst c4
        have H1 : (if a0 ≥ 97 then (char_Start.j1 kj1 a0 (decide (a0 ≤ 122))) else (char_Start.j1 kj1 a0 false)) = some r := by rw [if_neg (show ¬ (false = true) by decide)] at H; exact H
        clear H
        have H := H1
        clear H1
        have HC5 := Aside0.mk H
        clear H
        go_upto_region 2 with (fail)
        go_cut [3] (fun v3 wc => ∃ (kq : Nat) (x3_4 : Bool), v3 = .bool x3_4 ∧ Aside0 (char_Start.j1 kq a0 x3_4 = some r) ∧ Aside0 (kq ≤ kj1) ∧ Drawn0 w wc)
        case first =>
          have H := HC5.out
          clear HC5
          by_cases c6 : a0 ≥ 97
          · rw [if_pos c6] at H
            have c6b0 : decide (97 ≤ a0) = true := decide_eq_true c6
            clear c6
            (first | rw [c6b0] | (simp only [i64_w, i32_w]; rw [c6b0]) | skip)
            have H' := Aside0.mk H
            clear H
            go_wp2
            go_meet
            case rel => exact ⟨_, (decide (a0 ≤ 122)), (by first | rfl | (simp; done) | (simp [*]; done)), H', ⟨by have := HJ1.out; first | omega | exact Nat.le_refl _⟩, by repeat (first | exact Drawn0.refl _ | apply Drawn0.step)⟩
          · rw [if_neg c6] at H
            have c6b0 : decide (97 ≤ a0) = false := decide_eq_false c6
            clear c6
            (first | rw [c6b0] | (simp only [i64_w, i32_w]; rw [c6b0]) | skip)
            have H' := Aside0.mk H
            clear H
            go_wp2
            go_meet
            case rel => exact ⟨_, (false), (by first | rfl | (simp; done) | (simp [*]; done)), H', ⟨by have := HJ1.out; first | omega | exact Nat.le_refl _⟩, by repeat (first | exact Drawn0.refl _ | apply Drawn0.step)⟩
        case rest =>
          clear HC5
          try clear c1
          try clear p2
          try clear c3
          try clear c3b0
          try clear c4
          try clear c6
          try clear c6b0
          try clear p2
          obtain ⟨kq, x3_4, rfl, HA, HJ4, ⟨mc4, rfl⟩⟩ := hcut
          cases kq with
          | zero => exact absurd HA.out (by simp [char_Start.j1])
          | succ kj4 =>
            have H := HA.out
            clear HA
            simp only [char_Start.j1] at H
            by_cases c7 : x3_4 = true
            · subst c7
              have H1 : (some true) = some r := by rw [if_pos rfl] at H; exact H
              clear H
              have H := H1
              clear H1
              obtain rfl := Option.some.inj H
              go_wp2
              go_ret
              exact ⟨by first | rfl | (simp; done) | (simp [*]; done), by repeat (first | exact Drawn0.refl _ | apply Drawn0.step)⟩
            · replace c7 := Bool.eq_false_iff.mpr c7
              subst c7
              have H1 : (if a0 = 95 then (some true) else (if a0 = 58 then (some true) else (if a0 ≥ 192 then (if a0 = 215 then (some false) else (if a0 = 247 then (some false) else ((char_Char.f a0).bind fun t101 => (some t101)))) else (some false)))) = some r := by rw [if_neg (show ¬ (false = true) by decide)] at H; exact H
              clear H
              have H := H1
              clear H1
              by_cases c8 : a0 = 95
              · rw [if_pos c8] at H
                have c8b0 : (a0 == 95) = true := beq_iff_eq.mpr c8
                have c8b1 : (a0 != 95) = false := bne_eq_false_iff_eq.mpr c8
                clear c8
                obtain rfl := Option.some.inj H
                go_wp2
                go_ret
                exact ⟨by first | rfl | (simp; done) | (simp [*]; done), by repeat (first | exact Drawn0.refl _ | apply Drawn0.step)⟩
              · rw [if_neg c8] at H
                have c8b0 : (a0 == 95) = false := beq_eq_false_iff_ne.mpr c8
                have c8b1 : (a0 != 95) = true := bne_iff_ne.mpr c8
                by_cases c9 : a0 = 58
                · rw [if_pos c9] at H
                  have c9b0 : (a0 == 58) = true := beq_iff_eq.mpr c9
                  have c9b1 : (a0 != 58) = false := bne_eq_false_iff_eq.mpr c9
                  clear c9
                  obtain rfl := Option.some.inj H
                  go_wp2
                  go_ret
                  exact ⟨by first | rfl | (simp; done) | (simp [*]; done), by repeat (first | exact Drawn0.refl _ | apply Drawn0.step)⟩
                · rw [if_neg c9] at H
                  have c9b0 : (a0 == 58) = false := beq_eq_false_iff_ne.mpr c9
                  have c9b1 : (a0 != 58) = true := bne_iff_ne.mpr c9
                  by_cases c10 : a0 ≥ 192
                  · rw [if_pos c10] at H
                    have c10b0 : decide (192 ≤ a0) = true := decide_eq_true c10
                    clear c10
                    by_cases c11 : a0 = 215
                    · rw [if_pos c11] at H
                      have c11b0 : (a0 == 215) = true := beq_iff_eq.mpr c11
                      have c11b1 : (a0 != 215) = false := bne_eq_false_iff_eq.mpr c11
                      clear c11
                      obtain rfl := Option.some.inj H
                      go_wp2
                      go_ret
                      exact ⟨by first | rfl | (simp; done) | (simp [*]; done), by repeat (first | exact Drawn0.refl _ | apply Drawn0.step)⟩
                    · rw [if_neg c11] at H
                      have c11b0 : (a0 == 215) = false := beq_eq_false_iff_ne.mpr c11
                      have c11b1 : (a0 != 215) = true := bne_iff_ne.mpr c11
                      by_cases c12 : a0 = 247
                      · rw [if_pos c12] at H
                        have c12b0 : (a0 == 247) = true := beq_iff_eq.mpr c12
                        have c12b1 : (a0 != 247) = false := bne_eq_false_iff_eq.mpr c12
                        clear c12
                        obtain rfl := Option.some.inj H
                        go_wp2
                        go_ret
                        exact ⟨by first | rfl | (simp; done) | (simp [*]; done), by repeat (first | exact Drawn0.refl _ | apply Drawn0.step)⟩
                      · rw [if_neg c12] at H
                        have c12b0 : (a0 == 247) = false := beq_eq_false_iff_ne.mpr c12
                        have c12b1 : (a0 != 247) = true := bne_iff_ne.mpr c12
                        replace H := Option.bind_eq_some_iff.mp H
                        obtain ⟨t101, A130, H⟩ := H
                        replace H : (some t101) = some r := H
                        have A13 := Aside0.mk A130
                        clear A130
                        obtain rfl := Option.some.inj H
                        go_wp2_with (first | (go_at_call 56; (with_reducible refine (char_Char.calls a0 t101 _ A13.out).mono ?_); rintro e w' ⟨rfl, ⟨nd, rfl⟩⟩))
                        go_ret
                        exact ⟨by first | rfl | (simp; done) | (simp [*]; done), by repeat (first | exact Drawn0.refl _ | apply Drawn0.step)⟩
                  · rw [if_neg c10] at H
                    have c10b0 : decide (192 ≤ a0) = false := decide_eq_false c10
                    clear c10
                    obtain rfl := Option.some.inj H
                    go_wp2
                    go_ret
                    exact ⟨by first | rfl | (simp; done) | (simp [*]; done), by repeat (first | exact Drawn0.refl _ | apply Drawn0.step)⟩

/-! ### char_Part: function 41 -/
def char_Part.f (k : Nat) (a0 : Int) : Option (Bool) := (char_Start.f k a0).bind fun t102 => (if t102 = true then (some true) else (if a0 ≥ 48 then (if a0 ≤ 57 then (some true) else (if a0 = 45 then (some true) else (if a0 = 46 then (some true) else (some (a0 == 183))))) else (if a0 = 45 then (some true) else (if a0 = 46 then (some true) else (some (a0 == 183))))))
theorem char_Part.mono : ∀ a0 k, LeO (char_Part.f k a0) (char_Part.f (k + 1) a0) := by
  intro a0 k
  unfold char_Part.f
  repeat' first
      | (with_reducible exact char_Start.mono _ _)
      | (with_reducible exact LeO.refl _)
      | (with_reducible exact LeO.none _)
      | (with_reducible refine LeO.ite ?_ ?_)
      | (with_reducible refine LeO.bind ?_ (fun _ => ?_))
      | exact char_Start.mono _ _
      | exact LeO.none _
      | refine LeO.ite ?_ ?_
      | refine LeO.bind ?_ (fun _ => ?_)
set_option maxHeartbeats 8000000 in
set_option maxRecDepth 100000 in
theorem char_Part.calls (k : Nat) (a0 : Int) (r : Bool) (w : World) (h : char_Part.f k a0 = some r) :
    Calls Try.prog 41 #[.int .i32 a0] w fun e w' => e = .returned (.bool r) ∧ Drawn0 w w' := by
  have H : ((char_Start.f k a0).bind fun t102 => (if t102 = true then (some true) else (if a0 ≥ 48 then (if a0 ≤ 57 then (some true) else (if a0 = 45 then (some true) else (if a0 = 46 then (some true) else (some (a0 == 183))))) else (if a0 = 45 then (some true) else (if a0 = 46 then (some true) else (some (a0 == 183))))))) = some r := h
  clear h
  replace H := Option.bind_eq_some_iff.mp H
  obtain ⟨t102, A20, H⟩ := H
  replace H : (if t102 = true then (some true) else (if a0 ≥ 48 then (if a0 ≤ 57 then (some true) else (if a0 = 45 then (some true) else (if a0 = 46 then (some true) else (some (a0 == 183))))) else (if a0 = 45 then (some true) else (if a0 = 46 then (some true) else (some (a0 == 183)))))) = some r := H
  have A2 := Aside0.mk A20
  clear A20
  by_cases c3 : t102 = true
  · subst c3
    have H1 : (some true) = some r := by rw [if_pos rfl] at H; exact H
    clear H
    have H := H1
    clear H1
    obtain rfl := Option.some.inj H
    go_enter Try.func41, Try.ntmps41
    go_wp2_with (first | ((with_reducible refine gate_callee (f := 40) rfl ?_); refine goesL_ (some 4) rfl rfl Try.func40 (by kernel_rfl) rfl #[.int .i32 a0] rfl (by (try simp only [List.map_toArray, List.map_cons, List.map_nil]); first | done | rfl | (simp only [List.length_drop, List.length_take]; rfl)) ?_; (with_reducible refine (char_Start.calls k a0 true _ A2.out).mono ?_); rintro e w' ⟨rfl, ⟨nd, rfl⟩⟩; refine ⟨_, rfl, ?_⟩))
    go_ret
    exact ⟨by first | rfl | (simp; done) | (simp [*]; done), by repeat (first | exact Drawn0.refl _ | apply Drawn0.step)⟩
  · replace c3 := Bool.eq_false_iff.mpr c3
    subst c3
    have H1 : (if a0 ≥ 48 then (if a0 ≤ 57 then (some true) else (if a0 = 45 then (some true) else (if a0 = 46 then (some true) else (some (a0 == 183))))) else (if a0 = 45 then (some true) else (if a0 = 46 then (some true) else (some (a0 == 183))))) = some r := by rw [if_neg (show ¬ (false = true) by decide)] at H; exact H
    clear H
    have H := H1
    clear H1
    by_cases c4 : a0 ≥ 48
    · rw [if_pos c4] at H
      have c4b0 : decide (48 ≤ a0) = true := decide_eq_true c4
      clear c4
      by_cases c5 : a0 ≤ 57
      · rw [if_pos c5] at H
        have c5b0 : decide (a0 ≤ 57) = true := decide_eq_true c5
        clear c5
        obtain rfl := Option.some.inj H
        go_enter Try.func41, Try.ntmps41
        go_wp2_with (first | ((with_reducible refine gate_callee (f := 40) rfl ?_); refine goesL_ (some 4) rfl rfl Try.func40 (by kernel_rfl) rfl #[.int .i32 a0] rfl (by (try simp only [List.map_toArray, List.map_cons, List.map_nil]); first | done | rfl | (simp only [List.length_drop, List.length_take]; rfl)) ?_; (with_reducible refine (char_Start.calls k a0 false _ A2.out).mono ?_); rintro e w' ⟨rfl, ⟨nd, rfl⟩⟩; refine ⟨_, rfl, ?_⟩))
        go_ret
        exact ⟨by first | rfl | (simp; done) | (simp [*]; done), by repeat (first | exact Drawn0.refl _ | apply Drawn0.step)⟩
      · rw [if_neg c5] at H
        have c5b0 : decide (a0 ≤ 57) = false := decide_eq_false c5
        clear c5
        by_cases c6 : a0 = 45
        · rw [if_pos c6] at H
          have c6b0 : (a0 == 45) = true := beq_iff_eq.mpr c6
          have c6b1 : (a0 != 45) = false := bne_eq_false_iff_eq.mpr c6
          clear c6
          obtain rfl := Option.some.inj H
          go_enter Try.func41, Try.ntmps41
          go_wp2_with (first | ((with_reducible refine gate_callee (f := 40) rfl ?_); refine goesL_ (some 4) rfl rfl Try.func40 (by kernel_rfl) rfl #[.int .i32 a0] rfl (by (try simp only [List.map_toArray, List.map_cons, List.map_nil]); first | done | rfl | (simp only [List.length_drop, List.length_take]; rfl)) ?_; (with_reducible refine (char_Start.calls k a0 false _ A2.out).mono ?_); rintro e w' ⟨rfl, ⟨nd, rfl⟩⟩; refine ⟨_, rfl, ?_⟩))
          go_ret
          exact ⟨by first | rfl | (simp; done) | (simp [*]; done), by repeat (first | exact Drawn0.refl _ | apply Drawn0.step)⟩
        · rw [if_neg c6] at H
          have c6b0 : (a0 == 45) = false := beq_eq_false_iff_ne.mpr c6
          have c6b1 : (a0 != 45) = true := bne_iff_ne.mpr c6
          by_cases c7 : a0 = 46
          · rw [if_pos c7] at H
            have c7b0 : (a0 == 46) = true := beq_iff_eq.mpr c7
            have c7b1 : (a0 != 46) = false := bne_eq_false_iff_eq.mpr c7
            clear c7
            obtain rfl := Option.some.inj H
            go_enter Try.func41, Try.ntmps41
            go_wp2_with (first | ((with_reducible refine gate_callee (f := 40) rfl ?_); refine goesL_ (some 4) rfl rfl Try.func40 (by kernel_rfl) rfl #[.int .i32 a0] rfl (by (try simp only [List.map_toArray, List.map_cons, List.map_nil]); first | done | rfl | (simp only [List.length_drop, List.length_take]; rfl)) ?_; (with_reducible refine (char_Start.calls k a0 false _ A2.out).mono ?_); rintro e w' ⟨rfl, ⟨nd, rfl⟩⟩; refine ⟨_, rfl, ?_⟩))
            go_ret
            exact ⟨by first | rfl | (simp; done) | (simp [*]; done), by repeat (first | exact Drawn0.refl _ | apply Drawn0.step)⟩
          · rw [if_neg c7] at H
            have c7b0 : (a0 == 46) = false := beq_eq_false_iff_ne.mpr c7
            have c7b1 : (a0 != 46) = true := bne_iff_ne.mpr c7
            obtain rfl := Option.some.inj H
            go_enter Try.func41, Try.ntmps41
            go_wp2_with (first | ((with_reducible refine gate_callee (f := 40) rfl ?_); refine goesL_ (some 4) rfl rfl Try.func40 (by kernel_rfl) rfl #[.int .i32 a0] rfl (by (try simp only [List.map_toArray, List.map_cons, List.map_nil]); first | done | rfl | (simp only [List.length_drop, List.length_take]; rfl)) ?_; (with_reducible refine (char_Start.calls k a0 false _ A2.out).mono ?_); rintro e w' ⟨rfl, ⟨nd, rfl⟩⟩; refine ⟨_, rfl, ?_⟩))
            go_ret
            exact ⟨by first | rfl | (simp; done) | (simp [*]; done), by repeat (first | exact Drawn0.refl _ | apply Drawn0.step)⟩
    · rw [if_neg c4] at H
      have c4b0 : decide (48 ≤ a0) = false := decide_eq_false c4
      clear c4
      by_cases c8 : a0 = 45
      · rw [if_pos c8] at H
        have c8b0 : (a0 == 45) = true := beq_iff_eq.mpr c8
        have c8b1 : (a0 != 45) = false := bne_eq_false_iff_eq.mpr c8
        clear c8
        obtain rfl := Option.some.inj H
        go_enter Try.func41, Try.ntmps41
        go_wp2_with (first | ((with_reducible refine gate_callee (f := 40) rfl ?_); refine goesL_ (some 4) rfl rfl Try.func40 (by kernel_rfl) rfl #[.int .i32 a0] rfl (by (try simp only [List.map_toArray, List.map_cons, List.map_nil]); first | done | rfl | (simp only [List.length_drop, List.length_take]; rfl)) ?_; (with_reducible refine (char_Start.calls k a0 false _ A2.out).mono ?_); rintro e w' ⟨rfl, ⟨nd, rfl⟩⟩; refine ⟨_, rfl, ?_⟩))
        go_ret
        exact ⟨by first | rfl | (simp; done) | (simp [*]; done), by repeat (first | exact Drawn0.refl _ | apply Drawn0.step)⟩
      · rw [if_neg c8] at H
        have c8b0 : (a0 == 45) = false := beq_eq_false_iff_ne.mpr c8
        have c8b1 : (a0 != 45) = true := bne_iff_ne.mpr c8
        by_cases c9 : a0 = 46
        · rw [if_pos c9] at H
          have c9b0 : (a0 == 46) = true := beq_iff_eq.mpr c9
          have c9b1 : (a0 != 46) = false := bne_eq_false_iff_eq.mpr c9
          clear c9
          obtain rfl := Option.some.inj H
          go_enter Try.func41, Try.ntmps41
          go_wp2_with (first | ((with_reducible refine gate_callee (f := 40) rfl ?_); refine goesL_ (some 4) rfl rfl Try.func40 (by kernel_rfl) rfl #[.int .i32 a0] rfl (by (try simp only [List.map_toArray, List.map_cons, List.map_nil]); first | done | rfl | (simp only [List.length_drop, List.length_take]; rfl)) ?_; (with_reducible refine (char_Start.calls k a0 false _ A2.out).mono ?_); rintro e w' ⟨rfl, ⟨nd, rfl⟩⟩; refine ⟨_, rfl, ?_⟩))
          go_ret
          exact ⟨by first | rfl | (simp; done) | (simp [*]; done), by repeat (first | exact Drawn0.refl _ | apply Drawn0.step)⟩
        · rw [if_neg c9] at H
          have c9b0 : (a0 == 46) = false := beq_eq_false_iff_ne.mpr c9
          have c9b1 : (a0 != 46) = true := bne_iff_ne.mpr c9
          obtain rfl := Option.some.inj H
          go_enter Try.func41, Try.ntmps41
          go_wp2_with (first | ((with_reducible refine gate_callee (f := 40) rfl ?_); refine goesL_ (some 4) rfl rfl Try.func40 (by kernel_rfl) rfl #[.int .i32 a0] rfl (by (try simp only [List.map_toArray, List.map_cons, List.map_nil]); first | done | rfl | (simp only [List.length_drop, List.length_take]; rfl)) ?_; (with_reducible refine (char_Start.calls k a0 false _ A2.out).mono ?_); rintro e w' ⟨rfl, ⟨nd, rfl⟩⟩; refine ⟨_, rfl, ?_⟩))
          go_ret
          exact ⟨by first | rfl | (simp; done) | (simp [*]; done), by repeat (first | exact Drawn0.refl _ | apply Drawn0.step)⟩

/-! ### char_every_char_Start_char_Part: function 39 -/
def char_every_char_Start_char_Part.l0 : Nat → ByteArray → List Int → Int → Option (Bool)
  | 0, _, _, _ => none
  | k + 1, x0, x7, x8 => if x8 < (x7.length : Int) then (if 0 ≤ x8 then (if x8 ≤ (x7.length : Int) then ((char_Decode.f (x7.drop (x8 : Int).toNat)).bind fun bt111 => (if bt111.2 = 0 then (some false) else (if x8 = 0 then ((char_Start.f k bt111.1).bind fun t113 => (if t113 = true then ((char_Part.f k bt111.1).bind fun t114 => (if t114 = true then (char_every_char_Start_char_Part.l0 k x0 x7 (wrap64 (x8 + bt111.2))) else (some false))) else (some false))) else ((char_Part.f k bt111.1).bind fun t115 => (if t115 = true then (char_every_char_Start_char_Part.l0 k x0 x7 (wrap64 (x8 + bt111.2))) else (some false)))))) else (none)) else (none)) else (some (!x0.toList.isEmpty))
def char_every_char_Start_char_Part.f (k : Nat) (a0 : ByteArray) : Option (Bool) := (conv_bytes.f a0).bind fun t103 => (char_every_char_Start_char_Part.l0 k a0 t103 0)
theorem char_every_char_Start_char_Part.mono_l : ∀ k, (∀ y0 y1 y2, LeO (char_every_char_Start_char_Part.l0 k y0 y1 y2) (char_every_char_Start_char_Part.l0 (k + 1) y0 y1 y2))
  | 0 => fun _ _ _ r h => by simp [char_every_char_Start_char_Part.l0] at h
  | k + 1 => by
    have ih0 := char_every_char_Start_char_Part.mono_l k
    · intro y0 y1 y2
      unfold char_every_char_Start_char_Part.l0
      repeat' first
      | (with_reducible exact ih0 _ _ _)
      | (with_reducible exact char_Part.mono _ _)
      | (with_reducible exact char_Start.mono _ _)
      | (with_reducible exact LeO.refl _)
      | (with_reducible exact LeO.none _)
      | (with_reducible refine LeO.ite ?_ ?_)
      | (with_reducible refine LeO.bind ?_ (fun _ => ?_))
      | exact ih0 _ _ _
      | exact char_Part.mono _ _
      | exact char_Start.mono _ _
      | exact LeO.none _
      | refine LeO.ite ?_ ?_
      | refine LeO.bind ?_ (fun _ => ?_)
theorem char_every_char_Start_char_Part.mono : ∀ a0 k, LeO (char_every_char_Start_char_Part.f k a0) (char_every_char_Start_char_Part.f (k + 1) a0) := by
  intro a0 k
  have ih0 := char_every_char_Start_char_Part.mono_l k
  unfold char_every_char_Start_char_Part.f
  repeat' first
      | (with_reducible exact ih0 _ _ _)
      | (with_reducible exact char_Part.mono _ _)
      | (with_reducible exact char_Start.mono _ _)
      | (with_reducible exact LeO.refl _)
      | (with_reducible exact LeO.none _)
      | (with_reducible refine LeO.ite ?_ ?_)
      | (with_reducible refine LeO.bind ?_ (fun _ => ?_))
      | exact ih0 _ _ _
      | exact char_Part.mono _ _
      | exact char_Start.mono _ _
      | exact LeO.none _
      | refine LeO.ite ?_ ?_
      | refine LeO.bind ?_ (fun _ => ?_)
set_option maxHeartbeats 8000000 in
set_option maxRecDepth 100000 in
theorem char_every_char_Start_char_Part.calls (k : Nat) (a0 : ByteArray) (r : Bool) (w : World) (h : char_every_char_Start_char_Part.f k a0 = some r) :
    Calls Try.prog 39 #[.string a0, .func (.func 40) #[] #[], .func (.func 41) #[] #[]] w fun e w' => e = .returned (.bool r) ∧ Below w.heap.size w w' := by
  have HB := Aside0.mk (Below.refl w.heap.size w)
  have H : ((conv_bytes.f a0).bind fun t103 => (char_every_char_Start_char_Part.l0 k a0 t103 0)) = some r := h
  clear h
  replace H := Option.bind_eq_some_iff.mp H
  obtain ⟨t103, A20, H⟩ := H
  replace H : (char_every_char_Start_char_Part.l0 k a0 t103 0) = some r := H
  have A2 := Aside0.mk A20
  clear A20
  have H' := Aside0.mk H
  clear H
  go_enter Try.func39, Try.ntmps39
  go_wp2_with (first | ((with_reducible refine conv_bytes.gate (src := 9) (dst := 23) rfl ?_); refine conv_bytes.step 9 23 5 Try.underlying9 Try.underlying23 Try.underlying5 (some 12) rfl rfl rfl a0 t103 rfl A2.out ?_; rintro e w3 ⟨v104, rfl, ho0, hb⟩; refine ⟨_, rfl, ?_⟩; have n0_ := Aside0.mk (Kd.V_lower (Kd.V_mono (ok' := fun k_ => True) ho0 (fun k_ hk_ => trivial)) (below_size (by repeat (first | (with_reducible first | exact HB.out | apply below_alloc | apply pw_below_drewN | apply below_drew1) | exact HB.out)))); have n1_ := Aside0.mk (below_step (by repeat (first | (with_reducible first | exact HB.out | apply below_alloc | apply pw_below_drewN | apply below_drew1) | exact HB.out)) hb); clear HB; have HO105 := n0_; have HB := n1_; clear n0_ n1_; (try clear hb); (try clear hb2); (try clear hk); (try clear hi); (try clear ho0)))
  go_loopg [8] k (fun kq v8 w' => ∃ (x8_1 : Int), v8 = .int .i64 x8_1 ∧ Aside0 (char_every_char_Start_char_Part.l0 kq a0 t103 x8_1 = some r) ∧ Aside0 (kq ≤ k) ∧ Aside0 (Kd.V (Kd.int .u8) 5 w' w.heap.size (fun _ => True) v104 t103) ∧ Aside0 (Below w.heap.size w w'))
  case atStart => exact ⟨(0), (by first | rfl | (simp; done) | (simp [*]; done)), H', ⟨Nat.le_refl _⟩, ⟨by (with_reducible repeat (first | apply Kd.V_alloc | apply Kd.V_drewN | apply Kd.V_drew)); exact HO105.out⟩, ⟨by repeat (first | (with_reducible first | exact HB.out | apply below_alloc | apply pw_below_drewN | apply below_drew1) | exact HB.out)⟩⟩
  case round =>
    clear H'
    try clear p2
    try clear c3
    obtain ⟨x8_1, rfl, HA, HK1, HO_7, HB⟩ := hrel
    cases gk with
    | zero => exact absurd HA.out (by simp [char_every_char_Start_char_Part.l0])
    | succ k1 =>
      have H := HA.out
      clear HA
      simp only [char_every_char_Start_char_Part.l0] at H
      by_cases c4 : x8_1 < (t103.length : Int)
      · rw [if_pos c4] at H
        have c4b0 : decide (x8_1 < (t103.length : Int)) = true := decide_eq_true c4
        clear c4
        by_cases c5 : 0 ≤ x8_1
        · rw [if_pos c5] at H
          have c5b0 := eq_true c5
          have c5b1 : decide (0 ≤ x8_1) = true := decide_eq_true c5
          clear c5
          by_cases c6 : x8_1 ≤ (t103.length : Int)
          · rw [if_pos c6] at H
            have c6b0 := eq_true c6
            have c6b1 : decide (x8_1 ≤ (t103.length : Int)) = true := decide_eq_true c6
            clear c6
            obtain ⟨y106, hy106⟩ : ∃ y_ : List Int, y_ = (t103.drop (x8_1 : Int).toNat) := ⟨_, rfl⟩
            replace H : ((char_Decode.f y106).bind fun bt111 => (if bt111.2 = 0 then (some false) else (if x8_1 = 0 then ((char_Start.f k1 bt111.1).bind fun t113 => (if t113 = true then ((char_Part.f k1 bt111.1).bind fun t114 => (if t114 = true then (char_every_char_Start_char_Part.l0 k1 a0 t103 (wrap64 (x8_1 + bt111.2))) else (some false))) else (some false))) else ((char_Part.f k1 bt111.1).bind fun t115 => (if t115 = true then (char_every_char_Start_char_Part.l0 k1 a0 t103 (wrap64 (x8_1 + bt111.2))) else (some false)))))) = some r := by first | (rw [hy106]; with_reducible exact H) | (have H2_ := (Option.bind_some _ _).symm.trans H; rw [hy106]; with_reducible exact H2_) | (have H2_ := (Option.bind_some _ _).symm.trans H; with_reducible exact H2_) | with_reducible exact H | (rw [hy106]; exact H) | exact H
            have Ny106 := Aside0.mk hy106
            clear hy106
            replace H := Option.bind_eq_some_iff.mp H
            obtain ⟨⟨t111, t112⟩, A70, H⟩ := H
            replace H : (if t112 = 0 then (some false) else (if x8_1 = 0 then ((char_Start.f k1 t111).bind fun t113 => (if t113 = true then ((char_Part.f k1 t111).bind fun t114 => (if t114 = true then (char_every_char_Start_char_Part.l0 k1 a0 t103 (wrap64 (x8_1 + t112))) else (some false))) else (some false))) else ((char_Part.f k1 t111).bind fun t115 => (if t115 = true then (char_every_char_Start_char_Part.l0 k1 a0 t103 (wrap64 (x8_1 + t112))) else (some false))))) = some r := H
            have A7 := Aside0.mk A70
            clear A70
            by_cases c8 : t112 = 0
            · rw [if_pos c8] at H
              have c8b0 : (t112 == 0) = true := beq_iff_eq.mpr c8
              have c8b1 : (t112 != 0) = false := bne_eq_false_iff_eq.mpr c8
              clear c8
              obtain rfl := Option.some.inj H
              obtain ⟨Ao9, co9, eo9⟩ := Kd.V_slice HO_7.out
              subst eo9
              have q10 : (x8_1 : Int) ≤ ((t103.length : Int) : Int) := of_decide_eq_true (by first | (with_reducible assumption) | assumption)
              obtain ⟨i010, hi010, _, hsz10, _⟩ := info_parts info5
              have hroom10 : t103.length ≤ co9 := (Kd.V_reads' HO_7.out).2.1
              have hC10 : Kd.F (Kd.int .u8) _ _ Ao9 t103.length t103 := (Kd.V_at (base := w.heap.size) HO_7.out).2.2
              have q010 : (0 : Int) ≤ (x8_1 : Int) := of_decide_eq_true (by first | (with_reducible assumption) | assumption)
              have hcut10 := cut_from (P := Try.prog) 23 5 .i64 Try.underlying23 hi010 1 hsz10 Ao9 t103.length co9 x8_1 q010 q10
              have hr10 := Kd.F_cut (m := (x8_1 : Int).toNat) (c := co9) hC10 (by omega) hroom10
              obtain ⟨A10, hA10⟩ : ∃ A1, A1 = (if co9 = (x8_1 : Int).toNat then Ao9 else (Ao9 : Option Addr).map (·.add ((x8_1 : Int).toNat * 1))) := ⟨_, rfl⟩
              obtain ⟨c10, hc10⟩ : ∃ c1, c1 = co9 - (x8_1 : Int).toNat := ⟨_, rfl⟩
              have hy10 : y106.length = t103.length - (x8_1 : Int).toNat := (by rw [Ny106.out, List.length_drop] <;> omega)
              rw [show (t103).drop (x8_1 : Int).toNat = y106 from Ny106.out.symm] at hr10
              replace hr10 : Kd.F (Kd.int .u8) _ _ A10 y106.length y106 := (by rw [hA10]; exact hr10)
              rw [← hy10, ← hA10, ← hc10] at hcut10
              have HO110 := Aside0.mk (show Kd.V (Kd.int .u8) 5 _ w.heap.size _ (.slice A10 y106.length c10) y106 from Kd.V_mk (by rw [hy10, hc10]; exact Nat.sub_le_sub_right hroom10 _) hr10)
              have HC110 := Aside0.mk (show y106.length ≤ c10 from by rw [hy10, hc10]; exact Nat.sub_le_sub_right hroom10 _)
              clear hr10 hC10 hroom10 hi010 hsz10 hc10
              have KY10 := Aside0.mk hy10
              have KA10 := Aside0.mk hA10
              clear hy10 hA10
              replace q10 := eq_true q10
              go_wp2_with (first | ((with_reducible refine gate_callee (f := 55) rfl ?_); refine goesL_ (some 21) rfl rfl Try.func55 (by kernel_rfl) rfl #[.slice A10 y106.length c10] rfl (by (try simp only [List.map_toArray, List.map_cons, List.map_nil]); first | done | rfl | (simp only [List.length_drop, List.length_take]; rfl)) ?_; (with_reducible refine (char_Decode.calls _ _ y106 t111 t112 _ ?side1 ?side2 A7.out).mono ?_); (case side1 => repeat (first | exact (Kd.V_reads' HO110.out).2.2 | (with_reducible refine Kd.C_alloc ?_ _) | (with_reducible refine Kd.C_drewN ?_ _) | (with_reducible refine Kd.C_drew ?_))); (case side2 => exact (Kd.V_reads' HO110.out).2.1); rintro e w' ⟨rfl, ⟨nd, rfl⟩⟩; refine ⟨_, rfl, ?_⟩))
              go_ret
              exact ⟨by first | rfl | (simp [errW_none, errW_some] <;> rfl) | (simp [*, errW_none, errW_some] <;> rfl), by repeat (first | (with_reducible first | exact HB.out | apply below_alloc | apply pw_below_drewN | apply below_drew1) | exact HB.out)⟩
            · rw [if_neg c8] at H
              have c8b0 : (t112 == 0) = false := beq_eq_false_iff_ne.mpr c8
              have c8b1 : (t112 != 0) = true := bne_iff_ne.mpr c8
              by_cases c11 : x8_1 = 0
              · rw [if_pos c11] at H
                have c11b0 : (x8_1 == 0) = true := beq_iff_eq.mpr c11
                have c11b1 : (x8_1 != 0) = false := bne_eq_false_iff_eq.mpr c11
                clear c11
                replace H := Option.bind_eq_some_iff.mp H
                obtain ⟨t113, A120, H⟩ := H
                replace H : (if t113 = true then ((char_Part.f k1 t111).bind fun t114 => (if t114 = true then (char_every_char_Start_char_Part.l0 k1 a0 t103 (wrap64 (x8_1 + t112))) else (some false))) else (some false)) = some r := H
                have A12 := Aside0.mk A120
                clear A120
                by_cases c13 : t113 = true
                · subst c13
                  have H1 : ((char_Part.f k1 t111).bind fun t114 => (if t114 = true then (char_every_char_Start_char_Part.l0 k1 a0 t103 (wrap64 (x8_1 + t112))) else (some false))) = some r := by rw [if_pos rfl] at H; exact H
                  clear H
                  have H := H1
                  clear H1
                  replace H := Option.bind_eq_some_iff.mp H
                  obtain ⟨t114, A140, H⟩ := H
                  replace H : (if t114 = true then (char_every_char_Start_char_Part.l0 k1 a0 t103 (wrap64 (x8_1 + t112))) else (some false)) = some r := H
                  have A14 := Aside0.mk A140
                  clear A140
                  by_cases c15 : t114 = true
                  · subst c15
                    have H1 : (char_every_char_Start_char_Part.l0 k1 a0 t103 (wrap64 (x8_1 + t112))) = some r := by rw [if_pos rfl] at H; exact H
                    clear H
                    have H := H1
                    clear H1
                    have H' := Aside0.mk H
                    clear H
                    obtain ⟨Ao16, co16, eo16⟩ := Kd.V_slice HO_7.out
                    subst eo16
                    have q17 : (x8_1 : Int) ≤ ((t103.length : Int) : Int) := of_decide_eq_true (by first | (with_reducible assumption) | assumption)
                    obtain ⟨i017, hi017, _, hsz17, _⟩ := info_parts info5
                    have hroom17 : t103.length ≤ co16 := (Kd.V_reads' HO_7.out).2.1
                    have hC17 : Kd.F (Kd.int .u8) _ _ Ao16 t103.length t103 := (Kd.V_at (base := w.heap.size) HO_7.out).2.2
                    have q017 : (0 : Int) ≤ (x8_1 : Int) := of_decide_eq_true (by first | (with_reducible assumption) | assumption)
                    have hcut17 := cut_from (P := Try.prog) 23 5 .i64 Try.underlying23 hi017 1 hsz17 Ao16 t103.length co16 x8_1 q017 q17
                    have hr17 := Kd.F_cut (m := (x8_1 : Int).toNat) (c := co16) hC17 (by omega) hroom17
                    obtain ⟨A17, hA17⟩ : ∃ A1, A1 = (if co16 = (x8_1 : Int).toNat then Ao16 else (Ao16 : Option Addr).map (·.add ((x8_1 : Int).toNat * 1))) := ⟨_, rfl⟩
                    obtain ⟨c17, hc17⟩ : ∃ c1, c1 = co16 - (x8_1 : Int).toNat := ⟨_, rfl⟩
                    have hy17 : y106.length = t103.length - (x8_1 : Int).toNat := (by rw [Ny106.out, List.length_drop] <;> omega)
                    rw [show (t103).drop (x8_1 : Int).toNat = y106 from Ny106.out.symm] at hr17
                    replace hr17 : Kd.F (Kd.int .u8) _ _ A17 y106.length y106 := (by rw [hA17]; exact hr17)
                    rw [← hy17, ← hA17, ← hc17] at hcut17
                    have HO110 := Aside0.mk (show Kd.V (Kd.int .u8) 5 _ w.heap.size _ (.slice A17 y106.length c17) y106 from Kd.V_mk (by rw [hy17, hc17]; exact Nat.sub_le_sub_right hroom17 _) hr17)
                    have HC110 := Aside0.mk (show y106.length ≤ c17 from by rw [hy17, hc17]; exact Nat.sub_le_sub_right hroom17 _)
                    clear hr17 hC17 hroom17 hi017 hsz17 hc17
                    have KY17 := Aside0.mk hy17
                    have KA17 := Aside0.mk hA17
                    clear hy17 hA17
                    replace q17 := eq_true q17
                    go_wp2_with (first | ((with_reducible refine gate_callee (f := 55) rfl ?_); refine goesL_ (some 21) rfl rfl Try.func55 (by kernel_rfl) rfl #[.slice A17 y106.length c17] rfl (by (try simp only [List.map_toArray, List.map_cons, List.map_nil]); first | done | rfl | (simp only [List.length_drop, List.length_take]; rfl)) ?_; (with_reducible refine (char_Decode.calls _ _ y106 t111 t112 _ ?side1 ?side2 A7.out).mono ?_); (case side1 => repeat (first | exact (Kd.V_reads' HO110.out).2.2 | (with_reducible refine Kd.C_alloc ?_ _) | (with_reducible refine Kd.C_drewN ?_ _) | (with_reducible refine Kd.C_drew ?_))); (case side2 => exact (Kd.V_reads' HO110.out).2.1); rintro e w' ⟨rfl, ⟨nd, rfl⟩⟩; refine ⟨_, rfl, ?_⟩) | (go_at_call 40; (with_reducible refine (char_Start.calls k1 t111 true _ A12.out).mono ?_); rintro e w' ⟨rfl, ⟨nd, rfl⟩⟩) | (go_at_call 41; (with_reducible refine (char_Part.calls k1 t111 true _ A14.out).mono ?_); rintro e w' ⟨rfl, ⟨nd, rfl⟩⟩))
                    go_roundg k1
                    case measure => have := HK1.out; omega
                    case rel => exact ⟨(wrap64 (x8_1 + t112)), (by first | rfl | (simp; done) | (simp [*]; done)), H', ⟨by have := HK1.out; omega⟩, ⟨by (with_reducible repeat (first | apply Kd.V_alloc | apply Kd.V_drewN | apply Kd.V_drew)); exact HO_7.out⟩, ⟨by repeat (first | (with_reducible first | exact HB.out | apply below_alloc | apply pw_below_drewN | apply below_drew1) | exact HB.out)⟩⟩
                  · replace c15 := Bool.eq_false_iff.mpr c15
                    subst c15
                    have H1 : (some false) = some r := by rw [if_neg (show ¬ (false = true) by decide)] at H; exact H
                    clear H
                    have H := H1
                    clear H1
                    obtain rfl := Option.some.inj H
                    obtain ⟨Ao18, co18, eo18⟩ := Kd.V_slice HO_7.out
                    subst eo18
                    have q19 : (x8_1 : Int) ≤ ((t103.length : Int) : Int) := of_decide_eq_true (by first | (with_reducible assumption) | assumption)
                    obtain ⟨i019, hi019, _, hsz19, _⟩ := info_parts info5
                    have hroom19 : t103.length ≤ co18 := (Kd.V_reads' HO_7.out).2.1
                    have hC19 : Kd.F (Kd.int .u8) _ _ Ao18 t103.length t103 := (Kd.V_at (base := w.heap.size) HO_7.out).2.2
                    have q019 : (0 : Int) ≤ (x8_1 : Int) := of_decide_eq_true (by first | (with_reducible assumption) | assumption)
                    have hcut19 := cut_from (P := Try.prog) 23 5 .i64 Try.underlying23 hi019 1 hsz19 Ao18 t103.length co18 x8_1 q019 q19
                    have hr19 := Kd.F_cut (m := (x8_1 : Int).toNat) (c := co18) hC19 (by omega) hroom19
                    obtain ⟨A19, hA19⟩ : ∃ A1, A1 = (if co18 = (x8_1 : Int).toNat then Ao18 else (Ao18 : Option Addr).map (·.add ((x8_1 : Int).toNat * 1))) := ⟨_, rfl⟩
                    obtain ⟨c19, hc19⟩ : ∃ c1, c1 = co18 - (x8_1 : Int).toNat := ⟨_, rfl⟩
                    have hy19 : y106.length = t103.length - (x8_1 : Int).toNat := (by rw [Ny106.out, List.length_drop] <;> omega)
                    rw [show (t103).drop (x8_1 : Int).toNat = y106 from Ny106.out.symm] at hr19
                    replace hr19 : Kd.F (Kd.int .u8) _ _ A19 y106.length y106 := (by rw [hA19]; exact hr19)
                    rw [← hy19, ← hA19, ← hc19] at hcut19
                    have HO110 := Aside0.mk (show Kd.V (Kd.int .u8) 5 _ w.heap.size _ (.slice A19 y106.length c19) y106 from Kd.V_mk (by rw [hy19, hc19]; exact Nat.sub_le_sub_right hroom19 _) hr19)
                    have HC110 := Aside0.mk (show y106.length ≤ c19 from by rw [hy19, hc19]; exact Nat.sub_le_sub_right hroom19 _)
                    clear hr19 hC19 hroom19 hi019 hsz19 hc19
                    have KY19 := Aside0.mk hy19
                    have KA19 := Aside0.mk hA19
                    clear hy19 hA19
                    replace q19 := eq_true q19
                    go_wp2_with (first | ((with_reducible refine gate_callee (f := 55) rfl ?_); refine goesL_ (some 21) rfl rfl Try.func55 (by kernel_rfl) rfl #[.slice A19 y106.length c19] rfl (by (try simp only [List.map_toArray, List.map_cons, List.map_nil]); first | done | rfl | (simp only [List.length_drop, List.length_take]; rfl)) ?_; (with_reducible refine (char_Decode.calls _ _ y106 t111 t112 _ ?side1 ?side2 A7.out).mono ?_); (case side1 => repeat (first | exact (Kd.V_reads' HO110.out).2.2 | (with_reducible refine Kd.C_alloc ?_ _) | (with_reducible refine Kd.C_drewN ?_ _) | (with_reducible refine Kd.C_drew ?_))); (case side2 => exact (Kd.V_reads' HO110.out).2.1); rintro e w' ⟨rfl, ⟨nd, rfl⟩⟩; refine ⟨_, rfl, ?_⟩) | (go_at_call 40; (with_reducible refine (char_Start.calls k1 t111 true _ A12.out).mono ?_); rintro e w' ⟨rfl, ⟨nd, rfl⟩⟩) | (go_at_call 41; (with_reducible refine (char_Part.calls k1 t111 false _ A14.out).mono ?_); rintro e w' ⟨rfl, ⟨nd, rfl⟩⟩))
                    go_ret
                    exact ⟨by first | rfl | (simp [errW_none, errW_some] <;> rfl) | (simp [*, errW_none, errW_some] <;> rfl), by repeat (first | (with_reducible first | exact HB.out | apply below_alloc | apply pw_below_drewN | apply below_drew1) | exact HB.out)⟩
                · replace c13 := Bool.eq_false_iff.mpr c13
                  subst c13
                  have H1 : (some false) = some r := by rw [if_neg (show ¬ (false = true) by decide)] at H; exact H
                  clear H
                  have H := H1
                  clear H1
                  obtain rfl := Option.some.inj H
                  obtain ⟨Ao20, co20, eo20⟩ := Kd.V_slice HO_7.out
                  subst eo20
                  have q21 : (x8_1 : Int) ≤ ((t103.length : Int) : Int) := of_decide_eq_true (by first | (with_reducible assumption) | assumption)
                  obtain ⟨i021, hi021, _, hsz21, _⟩ := info_parts info5
                  have hroom21 : t103.length ≤ co20 := (Kd.V_reads' HO_7.out).2.1
                  have hC21 : Kd.F (Kd.int .u8) _ _ Ao20 t103.length t103 := (Kd.V_at (base := w.heap.size) HO_7.out).2.2
                  have q021 : (0 : Int) ≤ (x8_1 : Int) := of_decide_eq_true (by first | (with_reducible assumption) | assumption)
                  have hcut21 := cut_from (P := Try.prog) 23 5 .i64 Try.underlying23 hi021 1 hsz21 Ao20 t103.length co20 x8_1 q021 q21
                  have hr21 := Kd.F_cut (m := (x8_1 : Int).toNat) (c := co20) hC21 (by omega) hroom21
                  obtain ⟨A21, hA21⟩ : ∃ A1, A1 = (if co20 = (x8_1 : Int).toNat then Ao20 else (Ao20 : Option Addr).map (·.add ((x8_1 : Int).toNat * 1))) := ⟨_, rfl⟩
                  obtain ⟨c21, hc21⟩ : ∃ c1, c1 = co20 - (x8_1 : Int).toNat := ⟨_, rfl⟩
                  have hy21 : y106.length = t103.length - (x8_1 : Int).toNat := (by rw [Ny106.out, List.length_drop] <;> omega)
                  rw [show (t103).drop (x8_1 : Int).toNat = y106 from Ny106.out.symm] at hr21
                  replace hr21 : Kd.F (Kd.int .u8) _ _ A21 y106.length y106 := (by rw [hA21]; exact hr21)
                  rw [← hy21, ← hA21, ← hc21] at hcut21
                  have HO110 := Aside0.mk (show Kd.V (Kd.int .u8) 5 _ w.heap.size _ (.slice A21 y106.length c21) y106 from Kd.V_mk (by rw [hy21, hc21]; exact Nat.sub_le_sub_right hroom21 _) hr21)
                  have HC110 := Aside0.mk (show y106.length ≤ c21 from by rw [hy21, hc21]; exact Nat.sub_le_sub_right hroom21 _)
                  clear hr21 hC21 hroom21 hi021 hsz21 hc21
                  have KY21 := Aside0.mk hy21
                  have KA21 := Aside0.mk hA21
                  clear hy21 hA21
                  replace q21 := eq_true q21
                  go_wp2_with (first | ((with_reducible refine gate_callee (f := 55) rfl ?_); refine goesL_ (some 21) rfl rfl Try.func55 (by kernel_rfl) rfl #[.slice A21 y106.length c21] rfl (by (try simp only [List.map_toArray, List.map_cons, List.map_nil]); first | done | rfl | (simp only [List.length_drop, List.length_take]; rfl)) ?_; (with_reducible refine (char_Decode.calls _ _ y106 t111 t112 _ ?side1 ?side2 A7.out).mono ?_); (case side1 => repeat (first | exact (Kd.V_reads' HO110.out).2.2 | (with_reducible refine Kd.C_alloc ?_ _) | (with_reducible refine Kd.C_drewN ?_ _) | (with_reducible refine Kd.C_drew ?_))); (case side2 => exact (Kd.V_reads' HO110.out).2.1); rintro e w' ⟨rfl, ⟨nd, rfl⟩⟩; refine ⟨_, rfl, ?_⟩) | (go_at_call 40; (with_reducible refine (char_Start.calls k1 t111 false _ A12.out).mono ?_); rintro e w' ⟨rfl, ⟨nd, rfl⟩⟩))
                  go_ret
                  exact ⟨by first | rfl | (simp [errW_none, errW_some] <;> rfl) | (simp [*, errW_none, errW_some] <;> rfl), by repeat (first | (with_reducible first | exact HB.out | apply below_alloc | apply pw_below_drewN | apply below_drew1) | exact HB.out)⟩
              · rw [if_neg c11] at H
                have c11b0 : (x8_1 == 0) = false := beq_eq_false_iff_ne.mpr c11
                have c11b1 : (x8_1 != 0) = true := bne_iff_ne.mpr c11
                replace H := Option.bind_eq_some_iff.mp H
                obtain ⟨t115, A220, H⟩ := H
                replace H : (if t115 = true then (char_every_char_Start_char_Part.l0 k1 a0 t103 (wrap64 (x8_1 + t112))) else (some false)) = some r := H
                have A22 := Aside0.mk A220
                clear A220
                by_cases c23 : t115 = true
                · subst c23
                  have H1 : (char_every_char_Start_char_Part.l0 k1 a0 t103 (wrap64 (x8_1 + t112))) = some r := by rw [if_pos rfl] at H; exact H
                  clear H
                  have H := H1
                  clear H1
                  have H' := Aside0.mk H
                  clear H
                  obtain ⟨Ao24, co24, eo24⟩ := Kd.V_slice HO_7.out
                  subst eo24
                  have q25 : (x8_1 : Int) ≤ ((t103.length : Int) : Int) := of_decide_eq_true (by first | (with_reducible assumption) | assumption)
                  obtain ⟨i025, hi025, _, hsz25, _⟩ := info_parts info5
                  have hroom25 : t103.length ≤ co24 := (Kd.V_reads' HO_7.out).2.1
                  have hC25 : Kd.F (Kd.int .u8) _ _ Ao24 t103.length t103 := (Kd.V_at (base := w.heap.size) HO_7.out).2.2
                  have q025 : (0 : Int) ≤ (x8_1 : Int) := of_decide_eq_true (by first | (with_reducible assumption) | assumption)
                  have hcut25 := cut_from (P := Try.prog) 23 5 .i64 Try.underlying23 hi025 1 hsz25 Ao24 t103.length co24 x8_1 q025 q25
                  have hr25 := Kd.F_cut (m := (x8_1 : Int).toNat) (c := co24) hC25 (by omega) hroom25
                  obtain ⟨A25, hA25⟩ : ∃ A1, A1 = (if co24 = (x8_1 : Int).toNat then Ao24 else (Ao24 : Option Addr).map (·.add ((x8_1 : Int).toNat * 1))) := ⟨_, rfl⟩
                  obtain ⟨c25, hc25⟩ : ∃ c1, c1 = co24 - (x8_1 : Int).toNat := ⟨_, rfl⟩
                  have hy25 : y106.length = t103.length - (x8_1 : Int).toNat := (by rw [Ny106.out, List.length_drop] <;> omega)
                  rw [show (t103).drop (x8_1 : Int).toNat = y106 from Ny106.out.symm] at hr25
                  replace hr25 : Kd.F (Kd.int .u8) _ _ A25 y106.length y106 := (by rw [hA25]; exact hr25)
                  rw [← hy25, ← hA25, ← hc25] at hcut25
                  have HO110 := Aside0.mk (show Kd.V (Kd.int .u8) 5 _ w.heap.size _ (.slice A25 y106.length c25) y106 from Kd.V_mk (by rw [hy25, hc25]; exact Nat.sub_le_sub_right hroom25 _) hr25)
                  have HC110 := Aside0.mk (show y106.length ≤ c25 from by rw [hy25, hc25]; exact Nat.sub_le_sub_right hroom25 _)
                  clear hr25 hC25 hroom25 hi025 hsz25 hc25
                  have KY25 := Aside0.mk hy25
                  have KA25 := Aside0.mk hA25
                  clear hy25 hA25
                  replace q25 := eq_true q25
                  go_wp2_with (first | ((with_reducible refine gate_callee (f := 55) rfl ?_); refine goesL_ (some 21) rfl rfl Try.func55 (by kernel_rfl) rfl #[.slice A25 y106.length c25] rfl (by (try simp only [List.map_toArray, List.map_cons, List.map_nil]); first | done | rfl | (simp only [List.length_drop, List.length_take]; rfl)) ?_; (with_reducible refine (char_Decode.calls _ _ y106 t111 t112 _ ?side1 ?side2 A7.out).mono ?_); (case side1 => repeat (first | exact (Kd.V_reads' HO110.out).2.2 | (with_reducible refine Kd.C_alloc ?_ _) | (with_reducible refine Kd.C_drewN ?_ _) | (with_reducible refine Kd.C_drew ?_))); (case side2 => exact (Kd.V_reads' HO110.out).2.1); rintro e w' ⟨rfl, ⟨nd, rfl⟩⟩; refine ⟨_, rfl, ?_⟩) | (go_at_call 41; (with_reducible refine (char_Part.calls k1 t111 true _ A22.out).mono ?_); rintro e w' ⟨rfl, ⟨nd, rfl⟩⟩))
                  go_roundg k1
                  case measure => have := HK1.out; omega
                  case rel => exact ⟨(wrap64 (x8_1 + t112)), (by first | rfl | (simp; done) | (simp [*]; done)), H', ⟨by have := HK1.out; omega⟩, ⟨by (with_reducible repeat (first | apply Kd.V_alloc | apply Kd.V_drewN | apply Kd.V_drew)); exact HO_7.out⟩, ⟨by repeat (first | (with_reducible first | exact HB.out | apply below_alloc | apply pw_below_drewN | apply below_drew1) | exact HB.out)⟩⟩
                · replace c23 := Bool.eq_false_iff.mpr c23
                  subst c23
                  have H1 : (some false) = some r := by rw [if_neg (show ¬ (false = true) by decide)] at H; exact H
                  clear H
                  have H := H1
                  clear H1
                  obtain rfl := Option.some.inj H
                  obtain ⟨Ao26, co26, eo26⟩ := Kd.V_slice HO_7.out
                  subst eo26
                  have q27 : (x8_1 : Int) ≤ ((t103.length : Int) : Int) := of_decide_eq_true (by first | (with_reducible assumption) | assumption)
                  obtain ⟨i027, hi027, _, hsz27, _⟩ := info_parts info5
                  have hroom27 : t103.length ≤ co26 := (Kd.V_reads' HO_7.out).2.1
                  have hC27 : Kd.F (Kd.int .u8) _ _ Ao26 t103.length t103 := (Kd.V_at (base := w.heap.size) HO_7.out).2.2
                  have q027 : (0 : Int) ≤ (x8_1 : Int) := of_decide_eq_true (by first | (with_reducible assumption) | assumption)
                  have hcut27 := cut_from (P := Try.prog) 23 5 .i64 Try.underlying23 hi027 1 hsz27 Ao26 t103.length co26 x8_1 q027 q27
                  have hr27 := Kd.F_cut (m := (x8_1 : Int).toNat) (c := co26) hC27 (by omega) hroom27
                  obtain ⟨A27, hA27⟩ : ∃ A1, A1 = (if co26 = (x8_1 : Int).toNat then Ao26 else (Ao26 : Option Addr).map (·.add ((x8_1 : Int).toNat * 1))) := ⟨_, rfl⟩
                  obtain ⟨c27, hc27⟩ : ∃ c1, c1 = co26 - (x8_1 : Int).toNat := ⟨_, rfl⟩
                  have hy27 : y106.length = t103.length - (x8_1 : Int).toNat := (by rw [Ny106.out, List.length_drop] <;> omega)
                  rw [show (t103).drop (x8_1 : Int).toNat = y106 from Ny106.out.symm] at hr27
                  replace hr27 : Kd.F (Kd.int .u8) _ _ A27 y106.length y106 := (by rw [hA27]; exact hr27)
                  rw [← hy27, ← hA27, ← hc27] at hcut27
                  have HO110 := Aside0.mk (show Kd.V (Kd.int .u8) 5 _ w.heap.size _ (.slice A27 y106.length c27) y106 from Kd.V_mk (by rw [hy27, hc27]; exact Nat.sub_le_sub_right hroom27 _) hr27)
                  have HC110 := Aside0.mk (show y106.length ≤ c27 from by rw [hy27, hc27]; exact Nat.sub_le_sub_right hroom27 _)
                  clear hr27 hC27 hroom27 hi027 hsz27 hc27
                  have KY27 := Aside0.mk hy27
                  have KA27 := Aside0.mk hA27
                  clear hy27 hA27
                  replace q27 := eq_true q27
                  go_wp2_with (first | ((with_reducible refine gate_callee (f := 55) rfl ?_); refine goesL_ (some 21) rfl rfl Try.func55 (by kernel_rfl) rfl #[.slice A27 y106.length c27] rfl (by (try simp only [List.map_toArray, List.map_cons, List.map_nil]); first | done | rfl | (simp only [List.length_drop, List.length_take]; rfl)) ?_; (with_reducible refine (char_Decode.calls _ _ y106 t111 t112 _ ?side1 ?side2 A7.out).mono ?_); (case side1 => repeat (first | exact (Kd.V_reads' HO110.out).2.2 | (with_reducible refine Kd.C_alloc ?_ _) | (with_reducible refine Kd.C_drewN ?_ _) | (with_reducible refine Kd.C_drew ?_))); (case side2 => exact (Kd.V_reads' HO110.out).2.1); rintro e w' ⟨rfl, ⟨nd, rfl⟩⟩; refine ⟨_, rfl, ?_⟩) | (go_at_call 41; (with_reducible refine (char_Part.calls k1 t111 false _ A22.out).mono ?_); rintro e w' ⟨rfl, ⟨nd, rfl⟩⟩))
                  go_ret
                  exact ⟨by first | rfl | (simp [errW_none, errW_some] <;> rfl) | (simp [*, errW_none, errW_some] <;> rfl), by repeat (first | (with_reducible first | exact HB.out | apply below_alloc | apply pw_below_drewN | apply below_drew1) | exact HB.out)⟩
          · rw [if_neg c6] at H
            exact absurd H (by simp)
        · rw [if_neg c5] at H
          exact absurd H (by simp)
      · rw [if_neg c4] at H
        have c4b0 : decide (x8_1 < (t103.length : Int)) = false := decide_eq_false c4
        clear c4
        obtain rfl := Option.some.inj H
        obtain ⟨Ao28, co28, eo28⟩ := Kd.V_slice HO_7.out
        subst eo28
        go_wp2
        go_ret
        exact ⟨by first | rfl | (simp [errW_none, errW_some] <;> rfl) | (simp [*, errW_none, errW_some] <;> rfl), by repeat (first | (with_reducible first | exact HB.out | apply below_alloc | apply pw_below_drewN | apply below_drew1) | exact HB.out)⟩

/-! ### char_Name: function 32 -/
def char_Name.f (k : Nat) (a0 : ByteArray) : Option (Bool) := (char_every_char_Start_char_Part.f k a0).bind fun t116 => (some t116)
theorem char_Name.mono : ∀ a0 k, LeO (char_Name.f k a0) (char_Name.f (k + 1) a0) := by
  intro a0 k
  unfold char_Name.f
  repeat' first
      | (with_reducible exact char_every_char_Start_char_Part.mono _ _)
      | (with_reducible exact LeO.refl _)
      | (with_reducible exact LeO.none _)
      | (with_reducible refine LeO.ite ?_ ?_)
      | (with_reducible refine LeO.bind ?_ (fun _ => ?_))
      | exact char_every_char_Start_char_Part.mono _ _
      | exact LeO.none _
      | refine LeO.ite ?_ ?_
      | refine LeO.bind ?_ (fun _ => ?_)
set_option maxHeartbeats 8000000 in
set_option maxRecDepth 100000 in
theorem char_Name.calls (k : Nat) (a0 : ByteArray) (r : Bool) (w : World) (h : char_Name.f k a0 = some r) :
    Calls Try.prog 32 #[.string a0] w fun e w' => e = .returned (.bool r) ∧ Below w.heap.size w w' := by
  have HB := Aside0.mk (Below.refl w.heap.size w)
  have H : ((char_every_char_Start_char_Part.f k a0).bind fun t116 => (some t116)) = some r := h
  clear h
  replace H := Option.bind_eq_some_iff.mp H
  obtain ⟨t116, A20, H⟩ := H
  replace H : (some t116) = some r := H
  have A2 := Aside0.mk A20
  clear A20
  obtain rfl := Option.some.inj H
  go_enter Try.func32, Try.ntmps32
  go_wp2_with (first | ((with_reducible refine gate_callee (f := 39) rfl ?_); refine goesL_ (some 4) rfl rfl Try.func39 (by kernel_rfl) rfl #[.string a0, .func (.func 40) #[] #[], .func (.func 41) #[] #[]] rfl (by (try simp only [List.map_toArray, List.map_cons, List.map_nil]); first | done | rfl | (simp only [List.length_drop, List.length_take]; rfl)) ?_; (with_reducible refine (char_every_char_Start_char_Part.calls k a0 t116 _ A2.out).mono ?_); rintro e w3 ⟨rfl, hb⟩; refine ⟨_, rfl, ?_⟩; have n0_ := Aside0.mk (below_step (by repeat (first | (with_reducible first | exact HB.out | apply below_alloc | apply pw_below_drewN | apply below_drew1) | exact HB.out)) hb); clear HB; have HB := n0_; clear n0_; (try clear hb); (try clear hb2); (try clear hk); (try clear hi)))
  go_ret
  exact ⟨by first | rfl | (simp [errW_none, errW_some] <;> rfl) | (simp [*, errW_none, errW_some] <;> rfl), by repeat (first | (with_reducible first | exact HB.out | apply below_alloc | apply pw_below_drewN | apply below_drew1) | exact HB.out)⟩

-- NOT PRINTED: function 57 (bytealg_IndexByteString)

-- NOT PRINTED: function 42 (stringslite_IndexByte)

/-! ### strings_IndexByte: function 33 -/
def strings_IndexByte.f (a0 : ByteArray) (a1 : Int) : Option Int := some (Lib.indexByte a0.data.toList a1.toNat.toUInt8)
theorem strings_IndexByte.calls (a0 : ByteArray) (a1 : Int) (r : Int) (w : World) (h : strings_IndexByte.f a0 a1 = some r) :
    Calls Try.prog 33 #[.string a0, .int .u8 a1] w fun e w' => e = .returned (.int .i64 r) ∧ Drawn0 w w' := by
  obtain rfl := Option.some.inj h
  refine (Try.strings_IndexByte a0 a1 w).mono fun e w' hh => ?_
  obtain ⟨rfl, rfl⟩ := hh
  exact ⟨rfl, Drawn0.refl _⟩

/-! ### char_NCName: function 24 -/
def char_NCName.f (k : Nat) (a0 : ByteArray) : Option (Bool) := (char_Name.f k a0).bind fun t117 => (if t117 = true then ((strings_IndexByte.f a0 58).bind fun t118 => (some (decide (t118 < 0)))) else (some false))
theorem char_NCName.mono : ∀ a0 k, LeO (char_NCName.f k a0) (char_NCName.f (k + 1) a0) := by
  intro a0 k
  unfold char_NCName.f
  repeat' first
      | (with_reducible exact char_Name.mono _ _)
      | (with_reducible exact LeO.refl _)
      | (with_reducible exact LeO.none _)
      | (with_reducible refine LeO.ite ?_ ?_)
      | (with_reducible refine LeO.bind ?_ (fun _ => ?_))
      | exact char_Name.mono _ _
      | exact LeO.none _
      | refine LeO.ite ?_ ?_
      | refine LeO.bind ?_ (fun _ => ?_)
set_option maxHeartbeats 8000000 in
set_option maxRecDepth 100000 in
theorem char_NCName.calls (k : Nat) (a0 : ByteArray) (r : Bool) (w : World) (h : char_NCName.f k a0 = some r) :
    Calls Try.prog 24 #[.string a0] w fun e w' => e = .returned (.bool r) ∧ Below w.heap.size w w' := by
  have HB := Aside0.mk (Below.refl w.heap.size w)
  have H : ((char_Name.f k a0).bind fun t117 => (if t117 = true then ((strings_IndexByte.f a0 58).bind fun t118 => (some (decide (t118 < 0)))) else (some false))) = some r := h
  clear h
  replace H := Option.bind_eq_some_iff.mp H
  obtain ⟨t117, A20, H⟩ := H
  replace H : (if t117 = true then ((strings_IndexByte.f a0 58).bind fun t118 => (some (decide (t118 < 0)))) else (some false)) = some r := H
  have A2 := Aside0.mk A20
  clear A20
  by_cases c3 : t117 = true
  · subst c3
    have H1 : ((strings_IndexByte.f a0 58).bind fun t118 => (some (decide (t118 < 0)))) = some r := by rw [if_pos rfl] at H; exact H
    clear H
    have H := H1
    clear H1
    replace H := Option.bind_eq_some_iff.mp H
    obtain ⟨t118, A40, H⟩ := H
    replace H : (some (decide (t118 < 0))) = some r := H
    have A4 := Aside0.mk A40
    clear A40
    obtain rfl := Option.some.inj H
    go_enter Try.func24, Try.ntmps24
    go_wp2_with (first | ((with_reducible refine gate_callee (f := 32) rfl ?_); refine goesL_ (some 4) rfl rfl Try.func32 (by kernel_rfl) rfl #[.string a0] rfl (by (try simp only [List.map_toArray, List.map_cons, List.map_nil]); first | done | rfl | (simp only [List.length_drop, List.length_take]; rfl)) ?_; (with_reducible refine (char_Name.calls k a0 true _ A2.out).mono ?_); rintro e w5 ⟨rfl, hb⟩; refine ⟨_, rfl, ?_⟩; have n0_ := Aside0.mk (below_step (by repeat (first | (with_reducible first | exact HB.out | apply below_alloc | apply pw_below_drewN | apply below_drew1) | exact HB.out)) hb); clear HB; have HB := n0_; clear n0_; (try clear hb); (try clear hb2); (try clear hk); (try clear hi)) | (go_at_call 33; (with_reducible refine (strings_IndexByte.calls a0 58 t118 _ A4.out).mono ?_); rintro e w' ⟨rfl, ⟨nd, rfl⟩⟩))
    go_ret
    exact ⟨by first | rfl | (simp [errW_none, errW_some] <;> rfl) | (simp [*, errW_none, errW_some] <;> rfl), by repeat (first | (with_reducible first | exact HB.out | apply below_alloc | apply pw_below_drewN | apply below_drew1) | exact HB.out)⟩
  · replace c3 := Bool.eq_false_iff.mpr c3
    subst c3
    have H1 : (some false) = some r := by rw [if_neg (show ¬ (false = true) by decide)] at H; exact H
    clear H
    have H := H1
    clear H1
    obtain rfl := Option.some.inj H
    go_enter Try.func24, Try.ntmps24
    go_wp2_with (first | ((with_reducible refine gate_callee (f := 32) rfl ?_); refine goesL_ (some 4) rfl rfl Try.func32 (by kernel_rfl) rfl #[.string a0] rfl (by (try simp only [List.map_toArray, List.map_cons, List.map_nil]); first | done | rfl | (simp only [List.length_drop, List.length_take]; rfl)) ?_; (with_reducible refine (char_Name.calls k a0 false _ A2.out).mono ?_); rintro e w6 ⟨rfl, hb⟩; refine ⟨_, rfl, ?_⟩; have n0_ := Aside0.mk (below_step (by repeat (first | (with_reducible first | exact HB.out | apply below_alloc | apply pw_below_drewN | apply below_drew1) | exact HB.out)) hb); clear HB; have HB := n0_; clear n0_; (try clear hb); (try clear hb2); (try clear hk); (try clear hi)))
    go_ret
    exact ⟨by first | rfl | (simp [errW_none, errW_some] <;> rfl) | (simp [*, errW_none, errW_some] <;> rfl), by repeat (first | (with_reducible first | exact HB.out | apply below_alloc | apply pw_below_drewN | apply below_drew1) | exact HB.out)⟩

end Go.Proofs.Ytdelafoijplleaa.PNsBase
