-- Written by a turned copy of the print (wip/print/mkprint.py): contracts proved by hand are joined in. Lean checks it.
import Derived.Test.YtjogllgkdnomiaaPCharBytesx0
import Derived.Test.YtjogllgkdnomiaaPCharBytesx5
namespace Go.Proofs.Ytjogllgkdnomiaa.PCharBytes
open Go.RowKit Go.Proofs.YtjogllgkdnomiaaW.PrintWords Go.Proofs.YtjogllgkdnomiaaW.PrintLast Go.Proofs.YtjogllgkdnomiaaW.PrintMore
attribute [local go_sem] max2_int min2_int max_two min_two max_three min_three max_four min_four   -- for this text's walks alone
set_option linter.unusedVariables false
set_option linter.unusedSimpArgs false

/-! ### rubricref1_Right: function 26 -/
def rubricref1_Right.l0 : Nat → List Int → Int → Option (Int × Bool)
  | 0, _, _ => none
  | k + 1, x0, x4 => if x4 < (x0.length : Int) then (if 0 ≤ x4 then (if x4 ≤ (x0.length : Int) then ((rubricref1_Decode.f k (x0.drop (x4 : Int).toNat)).bind fun bt160 => (if bt160.2 = 0 then (some (x4, false)) else ((rubricref1_Char.f bt160.1).bind fun t162 => (if t162 = true then (rubricref1_Right.l0 k x0 (wrap64 (x4 + bt160.2))) else (some (x4, false)))))) else (none)) else (none)) else (some (x4, true))
def rubricref1_Right.f (k : Nat) (l0 : List Int) : Option (Int × Bool) := rubricref1_Right.l0 k l0 0
theorem rubricref1_Right.mono_l : ∀ k, (∀ y0 y1, LeO (rubricref1_Right.l0 k y0 y1) (rubricref1_Right.l0 (k + 1) y0 y1))
  | 0 => fun _ _ r h => by simp [rubricref1_Right.l0] at h
  | k + 1 => by
    have ih0 := rubricref1_Right.mono_l k
    · intro y0 y1
      unfold rubricref1_Right.l0
      repeat' first
      | (with_reducible exact ih0 _ _)
      | (with_reducible exact rubricref1_Decode.mono _ _)
      | (with_reducible exact LeO.refl _)
      | (with_reducible exact LeO.none _)
      | (with_reducible refine LeO.ite ?_ ?_)
      | (with_reducible refine LeO.bind ?_ (fun _ => ?_))
      | exact ih0 _ _
      | exact rubricref1_Decode.mono _ _
      | exact LeO.none _
      | refine LeO.ite ?_ ?_
      | refine LeO.bind ?_ (fun _ => ?_)
theorem rubricref1_Right.mono : ∀ a0 k, LeO (rubricref1_Right.f k a0) (rubricref1_Right.f (k + 1) a0) := by
  intro a0 k
  have ih0 := rubricref1_Right.mono_l k
  unfold rubricref1_Right.f
  repeat' first
      | (with_reducible exact ih0 _ _)
      | (with_reducible exact rubricref1_Decode.mono _ _)
      | (with_reducible exact LeO.refl _)
      | (with_reducible exact LeO.none _)
      | (with_reducible refine LeO.ite ?_ ?_)
      | (with_reducible refine LeO.bind ?_ (fun _ => ?_))
      | exact ih0 _ _
      | exact rubricref1_Decode.mono _ _
      | exact LeO.none _
      | refine LeO.ite ?_ ?_
      | refine LeO.bind ?_ (fun _ => ?_)
set_option maxHeartbeats 8000000 in
set_option maxRecDepth 100000 in
theorem rubricref1_Right.calls (k : Nat) (A0 : Option Addr) (c0 : Nat) (l0 : List Int) (r1 : Int) (r2 : Bool) (w : World) (hr0 : Kd.C (Kd.int .u8) w A0 l0.length l0) (hc0 : l0.length ≤ c0) (h : rubricref1_Right.f k l0 = some (r1, r2)) :
    Calls Try.prog 26 #[.slice A0 l0.length c0] w fun e w' => e = .returned (.tuple #[.int .i64 r1, .bool r2]) ∧ Drawn0 w w' := by
  have HR0 := Aside0.mk hr0
  have HC0 := Aside0.mk hc0
  clear hr0 hc0
  have H : (rubricref1_Right.l0 k l0 0) = some (r1, r2) := h
  clear h
  have H' := Aside0.mk H
  clear H
  go_enter Try.func26, Try.ntmps26
  go_wp2
  go_loopg [4] k (fun kq v4 w' => ∃ (x4_1 : Int), v4 = .int .i64 x4_1 ∧ Aside0 (rubricref1_Right.l0 kq l0 x4_1 = some (r1, r2)) ∧ Aside0 (kq ≤ k) ∧ Drawn0 w w')
  case atStart => exact ⟨(0), (by first | rfl | (simp; done) | (simp [*]; done)), H', ⟨Nat.le_refl _⟩, by repeat (first | exact Drawn0.refl _ | apply Drawn0.step)⟩
  case round =>
    clear H'
    obtain ⟨x4_1, rfl, HA, HK1, ⟨m1, rfl⟩⟩ := hrel
    cases gk with
    | zero => exact absurd HA.out (by simp [rubricref1_Right.l0])
    | succ k1 =>
      have H := HA.out
      clear HA
      simp only [rubricref1_Right.l0] at H
      by_cases c2 : x4_1 < (l0.length : Int)
      · rw [if_pos c2] at H
        have c2b0 : decide (x4_1 < (l0.length : Int)) = true := decide_eq_true c2
        clear c2
        by_cases c3 : 0 ≤ x4_1
        · rw [if_pos c3] at H
          have c3b0 := eq_true c3
          have c3b1 : decide (0 ≤ x4_1) = true := decide_eq_true c3
          clear c3
          by_cases c4 : x4_1 ≤ (l0.length : Int)
          · rw [if_pos c4] at H
            have c4b0 := eq_true c4
            have c4b1 : decide (x4_1 ≤ (l0.length : Int)) = true := decide_eq_true c4
            clear c4
            replace H := Option.bind_eq_some_iff.mp H
            obtain ⟨⟨t160, t161⟩, A50, H⟩ := H
            replace H : (if t161 = 0 then (some (x4_1, false)) else ((rubricref1_Char.f t160).bind fun t162 => (if t162 = true then (rubricref1_Right.l0 k1 l0 (wrap64 (x4_1 + t161))) else (some (x4_1, false))))) = some (r1, r2) := H
            have A5 := Aside0.mk A50
            clear A50
            by_cases c6 : t161 = 0
            · rw [if_pos c6] at H
              have c6b0 : (t161 == 0) = true := beq_iff_eq.mpr c6
              have c6b1 : (t161 != 0) = false := bne_eq_false_iff_eq.mpr c6
              clear c6
              simp only [Option.some.injEq, Prod.mk.injEq] at H
              obtain ⟨rfl, rfl⟩ := H
              obtain ⟨i07, hi07, _, hsz7, _⟩ := info_parts info5
              obtain ⟨A7, hcut7, hA7, hC7⟩ := print_drop_of (P := Try.prog) (Value.int .u8) 0 32 5 .i64 Try.underlying32 hi07 hsz7 A0 c0 l0 x4_1 (of_decide_eq_true (by first | (with_reducible assumption) | assumption)) (of_decide_eq_true (by first | (with_reducible assumption) | assumption)) HC0.out
              have HR159 := Aside0.mk (Kd.C_of_reads (h1 := fun _ => rfl) (hA7 _ (Kd.reads_of_C HR0.out)))
              have HC159 := Aside0.mk hC7
              clear hA7 hC7 hi07 hsz7
              go_wp2_with (first | ((with_reducible refine gate_callee (f := 24) rfl ?_); refine goesL_ (some 15) rfl rfl Try.func24 (by kernel_rfl) rfl #[.slice A7 (l0.drop (x4_1 : Int).toNat).length (c0 - x4_1.toNat)] rfl (by (try simp only [List.map_toArray, List.map_cons, List.map_nil]); first | done | (rw [show (l0.drop (x4_1 : Int).toNat).length = (l0.length - x4_1.toNat) from List.length_drop] <;> rfl) | rfl | (simp only [List.length_drop, List.length_take]; rfl)) ?_; (with_reducible refine (rubricref1_Decode.calls k1 _ _ (l0.drop (x4_1 : Int).toNat) t160 t161 _ ?side1 ?side2 A5.out).mono ?_); (case side1 => repeat (first | exact HR159.out | (with_reducible refine Kd.C_alloc ?_ _) | (with_reducible refine Kd.C_drewN ?_ _) | (with_reducible refine Kd.C_drew ?_))); (case side2 => exact HC159.out); rintro e w' ⟨rfl, ⟨nd, rfl⟩⟩; refine ⟨_, rfl, ?_⟩))
              go_ret2
              exact ⟨by first | rfl | (simp; done) | (simp [*]; done), by repeat (first | exact Drawn0.refl _ | apply Drawn0.step)⟩
            · rw [if_neg c6] at H
              have c6b0 : (t161 == 0) = false := beq_eq_false_iff_ne.mpr c6
              have c6b1 : (t161 != 0) = true := bne_iff_ne.mpr c6
              replace H := Option.bind_eq_some_iff.mp H
              obtain ⟨t162, A80, H⟩ := H
              replace H : (if t162 = true then (rubricref1_Right.l0 k1 l0 (wrap64 (x4_1 + t161))) else (some (x4_1, false))) = some (r1, r2) := H
              have A8 := Aside0.mk A80
              clear A80
              by_cases c9 : t162 = true
              · subst c9
                have H1 : (rubricref1_Right.l0 k1 l0 (wrap64 (x4_1 + t161))) = some (r1, r2) := by rw [if_pos rfl] at H; exact H
                clear H
                have H := H1
                clear H1
                have H' := Aside0.mk H
                clear H
                obtain ⟨i010, hi010, _, hsz10, _⟩ := info_parts info5
                obtain ⟨A10, hcut10, hA10, hC10⟩ := print_drop_of (P := Try.prog) (Value.int .u8) 0 32 5 .i64 Try.underlying32 hi010 hsz10 A0 c0 l0 x4_1 (of_decide_eq_true (by first | (with_reducible assumption) | assumption)) (of_decide_eq_true (by first | (with_reducible assumption) | assumption)) HC0.out
                have HR159 := Aside0.mk (Kd.C_of_reads (h1 := fun _ => rfl) (hA10 _ (Kd.reads_of_C HR0.out)))
                have HC159 := Aside0.mk hC10
                clear hA10 hC10 hi010 hsz10
                go_wp2_with (first | ((with_reducible refine gate_callee (f := 24) rfl ?_); refine goesL_ (some 15) rfl rfl Try.func24 (by kernel_rfl) rfl #[.slice A10 (l0.drop (x4_1 : Int).toNat).length (c0 - x4_1.toNat)] rfl (by (try simp only [List.map_toArray, List.map_cons, List.map_nil]); first | done | (rw [show (l0.drop (x4_1 : Int).toNat).length = (l0.length - x4_1.toNat) from List.length_drop] <;> rfl) | rfl | (simp only [List.length_drop, List.length_take]; rfl)) ?_; (with_reducible refine (rubricref1_Decode.calls k1 _ _ (l0.drop (x4_1 : Int).toNat) t160 t161 _ ?side1 ?side2 A5.out).mono ?_); (case side1 => repeat (first | exact HR159.out | (with_reducible refine Kd.C_alloc ?_ _) | (with_reducible refine Kd.C_drewN ?_ _) | (with_reducible refine Kd.C_drew ?_))); (case side2 => exact HC159.out); rintro e w' ⟨rfl, ⟨nd, rfl⟩⟩; refine ⟨_, rfl, ?_⟩) | (go_at_call 32; (with_reducible refine (rubricref1_Char.calls t160 true _ A8.out).mono ?_); rintro e w' ⟨rfl, ⟨nd, rfl⟩⟩))
                go_roundg k1
                case measure => have := HK1.out; omega
                case rel => exact ⟨(wrap64 (x4_1 + t161)), (by first | rfl | (simp; done) | (simp [*]; done)), H', ⟨by have := HK1.out; omega⟩, by repeat (first | exact Drawn0.refl _ | apply Drawn0.step)⟩
              · replace c9 := Bool.eq_false_iff.mpr c9
                subst c9
                have H1 : (some (x4_1, false)) = some (r1, r2) := by rw [if_neg (show ¬ (false = true) by decide)] at H; exact H
                clear H
                have H := H1
                clear H1
                simp only [Option.some.injEq, Prod.mk.injEq] at H
                obtain ⟨rfl, rfl⟩ := H
                obtain ⟨i011, hi011, _, hsz11, _⟩ := info_parts info5
                obtain ⟨A11, hcut11, hA11, hC11⟩ := print_drop_of (P := Try.prog) (Value.int .u8) 0 32 5 .i64 Try.underlying32 hi011 hsz11 A0 c0 l0 x4_1 (of_decide_eq_true (by first | (with_reducible assumption) | assumption)) (of_decide_eq_true (by first | (with_reducible assumption) | assumption)) HC0.out
                have HR159 := Aside0.mk (Kd.C_of_reads (h1 := fun _ => rfl) (hA11 _ (Kd.reads_of_C HR0.out)))
                have HC159 := Aside0.mk hC11
                clear hA11 hC11 hi011 hsz11
                go_wp2_with (first | ((with_reducible refine gate_callee (f := 24) rfl ?_); refine goesL_ (some 15) rfl rfl Try.func24 (by kernel_rfl) rfl #[.slice A11 (l0.drop (x4_1 : Int).toNat).length (c0 - x4_1.toNat)] rfl (by (try simp only [List.map_toArray, List.map_cons, List.map_nil]); first | done | (rw [show (l0.drop (x4_1 : Int).toNat).length = (l0.length - x4_1.toNat) from List.length_drop] <;> rfl) | rfl | (simp only [List.length_drop, List.length_take]; rfl)) ?_; (with_reducible refine (rubricref1_Decode.calls k1 _ _ (l0.drop (x4_1 : Int).toNat) t160 t161 _ ?side1 ?side2 A5.out).mono ?_); (case side1 => repeat (first | exact HR159.out | (with_reducible refine Kd.C_alloc ?_ _) | (with_reducible refine Kd.C_drewN ?_ _) | (with_reducible refine Kd.C_drew ?_))); (case side2 => exact HC159.out); rintro e w' ⟨rfl, ⟨nd, rfl⟩⟩; refine ⟨_, rfl, ?_⟩) | (go_at_call 32; (with_reducible refine (rubricref1_Char.calls t160 false _ A8.out).mono ?_); rintro e w' ⟨rfl, ⟨nd, rfl⟩⟩))
                go_ret2
                exact ⟨by first | rfl | (simp; done) | (simp [*]; done), by repeat (first | exact Drawn0.refl _ | apply Drawn0.step)⟩
          · rw [if_neg c4] at H
            exact absurd H (by simp)
        · rw [if_neg c3] at H
          exact absurd H (by simp)
      · rw [if_neg c2] at H
        have c2b0 : decide (x4_1 < (l0.length : Int)) = false := decide_eq_false c2
        clear c2
        simp only [Option.some.injEq, Prod.mk.injEq] at H
        obtain ⟨rfl, rfl⟩ := H
        go_wp2
        go_ret2
        exact ⟨by first | rfl | (simp; done) | (simp [*]; done), by repeat (first | exact Drawn0.refl _ | apply Drawn0.step)⟩

/-! ### rubricref1_Count: function 28 -/
def rubricref1_Count.l0 : Nat → Int → List Int → Int → Option (Int)
  | 0, _, _, _ => none
  | k + 1, x3, x4, x5 => if x5 < (x4.length : Int) then (if 0 ≤ x5 then (if x5 ≤ (x4.length : Int) then ((rubricref1_Decode.f k (x4.drop (x5 : Int).toNat)).bind fun bt171 => (if bt171.2 = 0 then (rubricref1_Count.l0 k (wrap64 (x3 + 1)) x4 (wrap64 (x5 + 1))) else (rubricref1_Count.l0 k (wrap64 (x3 + 1)) x4 (wrap64 (x5 + bt171.2))))) else (none)) else (none)) else (some x3)
def rubricref1_Count.f (k : Nat) (a0 : ByteArray) : Option (Int) := (conv_bytes.f a0).bind fun t163 => (rubricref1_Count.l0 k 0 t163 0)
theorem rubricref1_Count.mono_l : ∀ k, (∀ y0 y1 y2, LeO (rubricref1_Count.l0 k y0 y1 y2) (rubricref1_Count.l0 (k + 1) y0 y1 y2))
  | 0 => fun _ _ _ r h => by simp [rubricref1_Count.l0] at h
  | k + 1 => by
    have ih0 := rubricref1_Count.mono_l k
    · intro y0 y1 y2
      unfold rubricref1_Count.l0
      repeat' first
      | (with_reducible exact ih0 _ _ _)
      | (with_reducible exact rubricref1_Decode.mono _ _)
      | (with_reducible exact LeO.refl _)
      | (with_reducible exact LeO.none _)
      | (with_reducible refine LeO.ite ?_ ?_)
      | (with_reducible refine LeO.bind ?_ (fun _ => ?_))
      | exact ih0 _ _ _
      | exact rubricref1_Decode.mono _ _
      | exact LeO.none _
      | refine LeO.ite ?_ ?_
      | refine LeO.bind ?_ (fun _ => ?_)
theorem rubricref1_Count.mono : ∀ a0 k, LeO (rubricref1_Count.f k a0) (rubricref1_Count.f (k + 1) a0) := by
  intro a0 k
  have ih0 := rubricref1_Count.mono_l k
  unfold rubricref1_Count.f
  repeat' first
      | (with_reducible exact ih0 _ _ _)
      | (with_reducible exact rubricref1_Decode.mono _ _)
      | (with_reducible exact LeO.refl _)
      | (with_reducible exact LeO.none _)
      | (with_reducible refine LeO.ite ?_ ?_)
      | (with_reducible refine LeO.bind ?_ (fun _ => ?_))
      | exact ih0 _ _ _
      | exact rubricref1_Decode.mono _ _
      | exact LeO.none _
      | refine LeO.ite ?_ ?_
      | refine LeO.bind ?_ (fun _ => ?_)
set_option maxHeartbeats 8000000 in
set_option maxRecDepth 100000 in
theorem rubricref1_Count.calls (k : Nat) (a0 : ByteArray) (r : Int) (w : World) (h : rubricref1_Count.f k a0 = some r) :
    Calls Try.prog 28 #[.string a0] w fun e w' => e = .returned (.int .i64 r) ∧ Below w.heap.size w w' := by
  have HB := Aside0.mk (Below.refl w.heap.size w)
  have H : ((conv_bytes.f a0).bind fun t163 => (rubricref1_Count.l0 k 0 t163 0)) = some r := h
  clear h
  replace H := Option.bind_eq_some_iff.mp H
  obtain ⟨t163, A20, H⟩ := H
  replace H : (rubricref1_Count.l0 k 0 t163 0) = some r := H
  have A2 := Aside0.mk A20
  clear A20
  have H' := Aside0.mk H
  clear H
  go_enter Try.func28, Try.ntmps28
  go_wp2_with (first | ((with_reducible refine conv_bytes.gate (src := 9) (dst := 32) rfl ?_); refine conv_bytes.step 9 32 5 Try.underlying9 Try.underlying32 Try.underlying5 (some 9) rfl rfl rfl a0 t163 rfl A2.out ?_; rintro e w3 ⟨v164, rfl, ho0, hb⟩; refine ⟨_, rfl, ?_⟩; have n0_ := Aside0.mk (Kd.V_lower (Kd.V_mono (ok' := fun k_ => True) ho0 (fun k_ hk_ => trivial)) (below_size (by repeat (first | (with_reducible first | exact HB.out | apply below_alloc | apply pw_below_drewN | apply below_drew1) | exact HB.out)))); have n1_ := Aside0.mk (below_step (by repeat (first | (with_reducible first | exact HB.out | apply below_alloc | apply pw_below_drewN | apply below_drew1) | exact HB.out)) hb); clear HB; have HO165 := n0_; have HB := n1_; clear n0_ n1_; (try clear hb); (try clear hb2); (try clear hk); (try clear hi); (try clear ho0)))
  go_loopg [3, 5] k (fun kq v3 v5 w' => ∃ (x3_1 : Int) (x5_1 : Int), v3 = .int .i64 x3_1 ∧ v5 = .int .i64 x5_1 ∧ Aside0 (rubricref1_Count.l0 kq x3_1 t163 x5_1 = some r) ∧ Aside0 (kq ≤ k) ∧ Aside0 (Kd.V (Kd.int .u8) 5 w' w.heap.size (fun _ => True) v164 t163) ∧ Aside0 (Below w.heap.size w w'))
  case atStart => exact ⟨(0), (0), (by first | rfl | (simp; done) | (simp [*]; done)), (by first | rfl | (simp; done) | (simp [*]; done)), H', ⟨Nat.le_refl _⟩, ⟨by (with_reducible repeat (first | apply Kd.V_alloc | apply Kd.V_drewN | apply Kd.V_drew)); exact HO165.out⟩, ⟨by repeat (first | (with_reducible first | exact HB.out | apply below_alloc | apply pw_below_drewN | apply below_drew1) | exact HB.out)⟩⟩
  case round =>
    clear H'
    try clear c2
    try clear p2
    obtain ⟨x3_1, x5_1, rfl, rfl, HA, HK1, HO_4, HB⟩ := hrel
    cases gk with
    | zero => exact absurd HA.out (by simp [rubricref1_Count.l0])
    | succ k1 =>
      have H := HA.out
      clear HA
      simp only [rubricref1_Count.l0] at H
      by_cases c4 : x5_1 < (t163.length : Int)
      · rw [if_pos c4] at H
        have c4b0 : decide (x5_1 < (t163.length : Int)) = true := decide_eq_true c4
        clear c4
        by_cases c5 : 0 ≤ x5_1
        · rw [if_pos c5] at H
          have c5b0 := eq_true c5
          have c5b1 : decide (0 ≤ x5_1) = true := decide_eq_true c5
          clear c5
          by_cases c6 : x5_1 ≤ (t163.length : Int)
          · rw [if_pos c6] at H
            have c6b0 := eq_true c6
            have c6b1 : decide (x5_1 ≤ (t163.length : Int)) = true := decide_eq_true c6
            clear c6
            obtain ⟨y166, hy166⟩ : ∃ y_ : List Int, y_ = (t163.drop (x5_1 : Int).toNat) := ⟨_, rfl⟩
            replace H : ((rubricref1_Decode.f k1 y166).bind fun bt171 => (if bt171.2 = 0 then (rubricref1_Count.l0 k1 (wrap64 (x3_1 + 1)) t163 (wrap64 (x5_1 + 1))) else (rubricref1_Count.l0 k1 (wrap64 (x3_1 + 1)) t163 (wrap64 (x5_1 + bt171.2))))) = some r := by first | (rw [hy166]; with_reducible exact H) | (have H2_ := (Option.bind_some _ _).symm.trans H; rw [hy166]; with_reducible exact H2_) | (have H2_ := (Option.bind_some _ _).symm.trans H; with_reducible exact H2_) | with_reducible exact H | (rw [hy166]; exact H) | exact H
            have Ny166 := Aside0.mk hy166
            clear hy166
            replace H := Option.bind_eq_some_iff.mp H
            obtain ⟨⟨t171, t172⟩, A70, H⟩ := H
            replace H : (if t172 = 0 then (rubricref1_Count.l0 k1 (wrap64 (x3_1 + 1)) t163 (wrap64 (x5_1 + 1))) else (rubricref1_Count.l0 k1 (wrap64 (x3_1 + 1)) t163 (wrap64 (x5_1 + t172)))) = some r := H
            have A7 := Aside0.mk A70
            clear A70
            by_cases c8 : t172 = 0
            · rw [if_pos c8] at H
              have c8b0 : (t172 == 0) = true := beq_iff_eq.mpr c8
              have c8b1 : (t172 != 0) = false := bne_eq_false_iff_eq.mpr c8
              clear c8
              have H' := Aside0.mk H
              clear H
              obtain ⟨Ao9, co9, eo9⟩ := Kd.V_slice HO_4.out
              subst eo9
              have q10 : (x5_1 : Int) ≤ ((t163.length : Int) : Int) := of_decide_eq_true (by first | (with_reducible assumption) | assumption)
              obtain ⟨i010, hi010, _, hsz10, _⟩ := info_parts info5
              have hroom10 : t163.length ≤ co9 := (Kd.V_reads' HO_4.out).2.1
              have hC10 : Kd.F (Kd.int .u8) _ _ Ao9 t163.length t163 := (Kd.V_at (base := w.heap.size) HO_4.out).2.2
              have q010 : (0 : Int) ≤ (x5_1 : Int) := of_decide_eq_true (by first | (with_reducible assumption) | assumption)
              have hcut10 := cut_from (P := Try.prog) 32 5 .i64 Try.underlying32 hi010 1 hsz10 Ao9 t163.length co9 x5_1 q010 q10
              have hr10 := Kd.F_cut (m := (x5_1 : Int).toNat) (c := co9) hC10 (by omega) hroom10
              obtain ⟨A10, hA10⟩ : ∃ A1, A1 = (if co9 = (x5_1 : Int).toNat then Ao9 else (Ao9 : Option Addr).map (·.add ((x5_1 : Int).toNat * 1))) := ⟨_, rfl⟩
              obtain ⟨c10, hc10⟩ : ∃ c1, c1 = co9 - (x5_1 : Int).toNat := ⟨_, rfl⟩
              have hy10 : y166.length = t163.length - (x5_1 : Int).toNat := (by rw [Ny166.out, List.length_drop] <;> omega)
              rw [show (t163).drop (x5_1 : Int).toNat = y166 from Ny166.out.symm] at hr10
              replace hr10 : Kd.F (Kd.int .u8) _ _ A10 y166.length y166 := (by rw [hA10]; exact hr10)
              rw [← hy10, ← hA10, ← hc10] at hcut10
              have HO170 := Aside0.mk (show Kd.V (Kd.int .u8) 5 _ w.heap.size _ (.slice A10 y166.length c10) y166 from Kd.V_mk (by rw [hy10, hc10]; exact Nat.sub_le_sub_right hroom10 _) hr10)
              have HC170 := Aside0.mk (show y166.length ≤ c10 from by rw [hy10, hc10]; exact Nat.sub_le_sub_right hroom10 _)
              clear hr10 hC10 hroom10 hi010 hsz10 hc10
              have KY10 := Aside0.mk hy10
              have KA10 := Aside0.mk hA10
              clear hy10 hA10
              replace q10 := eq_true q10
              go_wp2_with (first | ((with_reducible refine gate_callee (f := 24) rfl ?_); refine goesL_ (some 18) rfl rfl Try.func24 (by kernel_rfl) rfl #[.slice A10 y166.length c10] rfl (by (try simp only [List.map_toArray, List.map_cons, List.map_nil]); first | done | rfl | (simp only [List.length_drop, List.length_take]; rfl)) ?_; (with_reducible refine (rubricref1_Decode.calls k1 _ _ y166 t171 t172 _ ?side1 ?side2 A7.out).mono ?_); (case side1 => repeat (first | exact (Kd.V_reads' HO170.out).2.2 | (with_reducible refine Kd.C_alloc ?_ _) | (with_reducible refine Kd.C_drewN ?_ _) | (with_reducible refine Kd.C_drew ?_))); (case side2 => exact (Kd.V_reads' HO170.out).2.1); rintro e w' ⟨rfl, ⟨nd, rfl⟩⟩; refine ⟨_, rfl, ?_⟩))
              go_roundg k1
              case measure => have := HK1.out; omega
              case rel => exact ⟨(wrap64 (x3_1 + 1)), (wrap64 (x5_1 + 1)), (by first | rfl | (simp; done) | (simp [*]; done)), (by first | rfl | (simp; done) | (simp [*]; done)), H', ⟨by have := HK1.out; omega⟩, ⟨by (with_reducible repeat (first | apply Kd.V_alloc | apply Kd.V_drewN | apply Kd.V_drew)); exact HO_4.out⟩, ⟨by repeat (first | (with_reducible first | exact HB.out | apply below_alloc | apply pw_below_drewN | apply below_drew1) | exact HB.out)⟩⟩
            · rw [if_neg c8] at H
              have c8b0 : (t172 == 0) = false := beq_eq_false_iff_ne.mpr c8
              have c8b1 : (t172 != 0) = true := bne_iff_ne.mpr c8
              have H' := Aside0.mk H
              clear H
              obtain ⟨Ao11, co11, eo11⟩ := Kd.V_slice HO_4.out
              subst eo11
              have q12 : (x5_1 : Int) ≤ ((t163.length : Int) : Int) := of_decide_eq_true (by first | (with_reducible assumption) | assumption)
              obtain ⟨i012, hi012, _, hsz12, _⟩ := info_parts info5
              have hroom12 : t163.length ≤ co11 := (Kd.V_reads' HO_4.out).2.1
              have hC12 : Kd.F (Kd.int .u8) _ _ Ao11 t163.length t163 := (Kd.V_at (base := w.heap.size) HO_4.out).2.2
              have q012 : (0 : Int) ≤ (x5_1 : Int) := of_decide_eq_true (by first | (with_reducible assumption) | assumption)
              have hcut12 := cut_from (P := Try.prog) 32 5 .i64 Try.underlying32 hi012 1 hsz12 Ao11 t163.length co11 x5_1 q012 q12
              have hr12 := Kd.F_cut (m := (x5_1 : Int).toNat) (c := co11) hC12 (by omega) hroom12
              obtain ⟨A12, hA12⟩ : ∃ A1, A1 = (if co11 = (x5_1 : Int).toNat then Ao11 else (Ao11 : Option Addr).map (·.add ((x5_1 : Int).toNat * 1))) := ⟨_, rfl⟩
              obtain ⟨c12, hc12⟩ : ∃ c1, c1 = co11 - (x5_1 : Int).toNat := ⟨_, rfl⟩
              have hy12 : y166.length = t163.length - (x5_1 : Int).toNat := (by rw [Ny166.out, List.length_drop] <;> omega)
              rw [show (t163).drop (x5_1 : Int).toNat = y166 from Ny166.out.symm] at hr12
              replace hr12 : Kd.F (Kd.int .u8) _ _ A12 y166.length y166 := (by rw [hA12]; exact hr12)
              rw [← hy12, ← hA12, ← hc12] at hcut12
              have HO170 := Aside0.mk (show Kd.V (Kd.int .u8) 5 _ w.heap.size _ (.slice A12 y166.length c12) y166 from Kd.V_mk (by rw [hy12, hc12]; exact Nat.sub_le_sub_right hroom12 _) hr12)
              have HC170 := Aside0.mk (show y166.length ≤ c12 from by rw [hy12, hc12]; exact Nat.sub_le_sub_right hroom12 _)
              clear hr12 hC12 hroom12 hi012 hsz12 hc12
              have KY12 := Aside0.mk hy12
              have KA12 := Aside0.mk hA12
              clear hy12 hA12
              replace q12 := eq_true q12
              go_wp2_with (first | ((with_reducible refine gate_callee (f := 24) rfl ?_); refine goesL_ (some 18) rfl rfl Try.func24 (by kernel_rfl) rfl #[.slice A12 y166.length c12] rfl (by (try simp only [List.map_toArray, List.map_cons, List.map_nil]); first | done | rfl | (simp only [List.length_drop, List.length_take]; rfl)) ?_; (with_reducible refine (rubricref1_Decode.calls k1 _ _ y166 t171 t172 _ ?side1 ?side2 A7.out).mono ?_); (case side1 => repeat (first | exact (Kd.V_reads' HO170.out).2.2 | (with_reducible refine Kd.C_alloc ?_ _) | (with_reducible refine Kd.C_drewN ?_ _) | (with_reducible refine Kd.C_drew ?_))); (case side2 => exact (Kd.V_reads' HO170.out).2.1); rintro e w' ⟨rfl, ⟨nd, rfl⟩⟩; refine ⟨_, rfl, ?_⟩))
              go_roundg k1
              case measure => have := HK1.out; omega
              case rel => exact ⟨(wrap64 (x3_1 + 1)), (wrap64 (x5_1 + t172)), (by first | rfl | (simp; done) | (simp [*]; done)), (by first | rfl | (simp; done) | (simp [*]; done)), H', ⟨by have := HK1.out; omega⟩, ⟨by (with_reducible repeat (first | apply Kd.V_alloc | apply Kd.V_drewN | apply Kd.V_drew)); exact HO_4.out⟩, ⟨by repeat (first | (with_reducible first | exact HB.out | apply below_alloc | apply pw_below_drewN | apply below_drew1) | exact HB.out)⟩⟩
          · rw [if_neg c6] at H
            exact absurd H (by simp)
        · rw [if_neg c5] at H
          exact absurd H (by simp)
      · rw [if_neg c4] at H
        have c4b0 : decide (x5_1 < (t163.length : Int)) = false := decide_eq_false c4
        clear c4
        obtain rfl := Option.some.inj H
        obtain ⟨Ao13, co13, eo13⟩ := Kd.V_slice HO_4.out
        subst eo13
        go_wp2
        go_ret
        exact ⟨by first | rfl | (simp [errW_none, errW_some] <;> rfl) | (simp [*, errW_none, errW_some] <;> rfl), by repeat (first | (with_reducible first | exact HB.out | apply below_alloc | apply pw_below_drewN | apply below_drew1) | exact HB.out)⟩

end Go.Proofs.Ytjogllgkdnomiaa.PCharBytes
