-- Written by a turned copy of the print (wip/print/mkprint.py): contracts proved by hand are joined in. Lean checks it.
import Derived.Test.YtjogllgkdnomiaaPCharJoinsx0
namespace Go.Proofs.Ytjogllgkdnomiaa.PCharJoins
open Go.RowKit Go.Proofs.YtjogllgkdnomiaaW.PrintWords Go.Proofs.YtjogllgkdnomiaaW.PrintLast Go.Proofs.YtjogllgkdnomiaaW.PrintMore
attribute [local go_sem] max2_int min2_int max_two min_two max_three min_three max_four min_four   -- for this text's walks alone
set_option linter.unusedVariables false
set_option linter.unusedSimpArgs false

/-! ### char_White: function 37 -/
def char_White.f (a0 : Int) : Option (Bool) := if a0 = 32 then (some true) else (if a0 = 9 then (some true) else (if a0 = 10 then (some true) else (some (a0 == 13))))
set_option maxHeartbeats 8000000 in
set_option maxRecDepth 100000 in
theorem char_White.calls (a0 : Int) (r : Bool) (w : World) (h : char_White.f a0 = some r) :
    Calls Try.prog 37 #[.int .i32 a0] w fun e w' => e = .returned (.bool r) ∧ Drawn0 w w' := by
  have H : (if a0 = 32 then (some true) else (if a0 = 9 then (some true) else (if a0 = 10 then (some true) else (some (a0 == 13))))) = some r := h
  clear h
  by_cases c2 : a0 = 32
  · rw [if_pos c2] at H
    have c2b0 : (a0 == 32) = true := beq_iff_eq.mpr c2
    have c2b1 : (a0 != 32) = false := bne_eq_false_iff_eq.mpr c2
    clear c2
    obtain rfl := Option.some.inj H
    go_enter Try.func37, Try.ntmps37
    go_wp2
    go_ret
    exact ⟨by first | rfl | (simp; done) | (simp [*]; done), by repeat (first | exact Drawn0.refl _ | apply Drawn0.step)⟩
  · rw [if_neg c2] at H
    have c2b0 : (a0 == 32) = false := beq_eq_false_iff_ne.mpr c2
    have c2b1 : (a0 != 32) = true := bne_iff_ne.mpr c2
    by_cases c3 : a0 = 9
    · rw [if_pos c3] at H
      have c3b0 : (a0 == 9) = true := beq_iff_eq.mpr c3
      have c3b1 : (a0 != 9) = false := bne_eq_false_iff_eq.mpr c3
      clear c3
      obtain rfl := Option.some.inj H
      go_enter Try.func37, Try.ntmps37
      go_wp2
      go_ret
      exact ⟨by first | rfl | (simp; done) | (simp [*]; done), by repeat (first | exact Drawn0.refl _ | apply Drawn0.step)⟩
    · rw [if_neg c3] at H
      have c3b0 : (a0 == 9) = false := beq_eq_false_iff_ne.mpr c3
      have c3b1 : (a0 != 9) = true := bne_iff_ne.mpr c3
      by_cases c4 : a0 = 10
      · rw [if_pos c4] at H
        have c4b0 : (a0 == 10) = true := beq_iff_eq.mpr c4
        have c4b1 : (a0 != 10) = false := bne_eq_false_iff_eq.mpr c4
        clear c4
        obtain rfl := Option.some.inj H
        go_enter Try.func37, Try.ntmps37
        go_wp2
        go_ret
        exact ⟨by first | rfl | (simp; done) | (simp [*]; done), by repeat (first | exact Drawn0.refl _ | apply Drawn0.step)⟩
      · rw [if_neg c4] at H
        have c4b0 : (a0 == 10) = false := beq_eq_false_iff_ne.mpr c4
        have c4b1 : (a0 != 10) = true := bne_iff_ne.mpr c4
        obtain rfl := Option.some.inj H
        go_enter Try.func37, Try.ntmps37
        go_wp2
        go_ret
        exact ⟨by first | rfl | (simp; done) | (simp [*]; done), by repeat (first | exact Drawn0.refl _ | apply Drawn0.step)⟩

/-! ### char_Words: function 12 -/
mutual
def char_Words.l0 : Nat → ByteArray → List ByteArray → Int → Int → Option (List ByteArray)
  | 0, _, _, _, _ => none
  | k + 1, x0, x3, x4, x5 => if x5 ≤ (x0.size : Int) then (if x5 < (x0.size : Int) then (if 0 ≤ x5 then ((char_White.f (wrap32 (bt x0 x5))).bind fun t101 => (char_Words.j1 k x0 x3 x4 x5 (!t101))) else (none)) else (char_Words.j1 k x0 x3 x4 x5 false)) else (some x3)
def char_Words.j1 : Nat → ByteArray → List ByteArray → Int → Int → Bool → Option (List ByteArray)
  | 0, _, _, _, _, _ => none
  | k + 1, x0, x3, x4, x5, x23 => if x23 = true then (char_Words.l0 k x0 x3 x4 (wrap64 (x5 + 1))) else (if x5 > x4 then (if 0 ≤ x4 then (if x4 ≤ x5 then (if x5 ≤ (x0.size : Int) then (if x3.length < 8796093022208 then (char_Words.l0 k x0 (x3 ++ [x0.extract (x4 : Int).toNat (x5 : Int).toNat]) (wrap64 (x5 + 1)) (wrap64 (x5 + 1))) else (none)) else (none)) else (none)) else (none)) else (char_Words.l0 k x0 x3 (wrap64 (x5 + 1)) (wrap64 (x5 + 1))))
end
def char_Words.f (k : Nat) (a0 : ByteArray) : Option (List ByteArray) := char_Words.l0 k a0 ([] : List ByteArray) 0 0
theorem char_Words.mono_l : ∀ k, (∀ y0 y1 y2 y3, LeO (char_Words.l0 k y0 y1 y2 y3) (char_Words.l0 (k + 1) y0 y1 y2 y3)) ∧ (∀ y0 y1 y2 y3 y4, LeO (char_Words.j1 k y0 y1 y2 y3 y4) (char_Words.j1 (k + 1) y0 y1 y2 y3 y4))
  | 0 => ⟨fun _ _ _ _ r h => by simp [char_Words.l0] at h, fun _ _ _ _ _ r h => by simp [char_Words.j1] at h⟩
  | k + 1 => by
    obtain ⟨ih0, ih1⟩ := char_Words.mono_l k
    refine ⟨?_, ?_⟩
    · intro y0 y1 y2 y3
      unfold char_Words.l0
      repeat' first
      | (with_reducible exact ih0 _ _ _ _)
      | (with_reducible exact ih1 _ _ _ _ _)
      | (with_reducible exact LeO.refl _)
      | (with_reducible exact LeO.none _)
      | (with_reducible refine LeO.ite ?_ ?_)
      | (with_reducible refine LeO.bind ?_ (fun _ => ?_))
      | exact ih0 _ _ _ _
      | exact ih1 _ _ _ _ _
      | exact LeO.none _
      | refine LeO.ite ?_ ?_
      | refine LeO.bind ?_ (fun _ => ?_)
    · intro y0 y1 y2 y3 y4
      unfold char_Words.j1
      repeat' first
      | (with_reducible exact ih0 _ _ _ _)
      | (with_reducible exact ih1 _ _ _ _ _)
      | (with_reducible exact LeO.refl _)
      | (with_reducible exact LeO.none _)
      | (with_reducible refine LeO.ite ?_ ?_)
      | (with_reducible refine LeO.bind ?_ (fun _ => ?_))
      | exact ih0 _ _ _ _
      | exact ih1 _ _ _ _ _
      | exact LeO.none _
      | refine LeO.ite ?_ ?_
      | refine LeO.bind ?_ (fun _ => ?_)
theorem char_Words.mono : ∀ a0 k, LeO (char_Words.f k a0) (char_Words.f (k + 1) a0) := by
  intro a0 k
  obtain ⟨ih0, ih1⟩ := char_Words.mono_l k
  unfold char_Words.f
  repeat' first
      | (with_reducible exact ih0 _ _ _ _)
      | (with_reducible exact ih1 _ _ _ _ _)
      | (with_reducible exact LeO.refl _)
      | (with_reducible exact LeO.none _)
      | (with_reducible refine LeO.ite ?_ ?_)
      | (with_reducible refine LeO.bind ?_ (fun _ => ?_))
      | exact ih0 _ _ _ _
      | exact ih1 _ _ _ _ _
      | exact LeO.none _
      | refine LeO.ite ?_ ?_
      | refine LeO.bind ?_ (fun _ => ?_)
set_option maxHeartbeats 8000000 in
set_option maxRecDepth 100000 in
theorem char_Words.calls (k : Nat) (a0 : ByteArray) (r : List ByteArray) (w : World) (h : char_Words.f k a0 = some r) :
    Calls Try.prog 12 #[.string a0] w fun e w' => ∃ v0_ : Value, e = .returned (v0_) ∧ Kd.R Kd.string 9 w' w.heap.size (fun _ => True) v0_ r ∧ Below w.heap.size w w' := by
  have HB := Aside0.mk (Below.refl w.heap.size w)
  have H : (char_Words.l0 k a0 ([] : List ByteArray) 0 0) = some r := h
  clear h
  have H' := Aside0.mk H
  clear H
  go_enter Try.func12, Try.ntmps12
  go_wp2
  go_loopg [3, 4, 5] k (fun kq v3 v4 v5 w' => ∃ (x3_1 : List ByteArray) (x4_1 : Int) (x5_1 : Int), v4 = .int .i64 x4_1 ∧ v5 = .int .i64 x5_1 ∧ Aside0 (char_Words.l0 kq a0 x3_1 x4_1 x5_1 = some r) ∧ Aside0 (kq ≤ k) ∧ Aside0 (Kd.R Kd.string 9 w' w.heap.size (fun _ => True) v3 x3_1) ∧ Aside0 (Below w.heap.size w w'))
  case atStart => exact ⟨(([] : List ByteArray)), (0), (0), (by first | rfl | (simp; done) | (simp [*]; done)), (by first | rfl | (simp; done) | (simp [*]; done)), H', ⟨Nat.le_refl _⟩, ⟨by first | exact Kd.R_nil _ _ _ _ _ | exact Kd.N_nil _ _ _ _ _ | exact Kd.V_nil _ _ _ _ _ | exact Kd.Q_nil _ _ _ _ _ | exact Kd.S_nil _ _ _ _ _⟩, ⟨by repeat (first | (with_reducible first | exact HB.out | apply below_alloc | apply pw_below_drewN | apply below_drew1) | exact HB.out)⟩⟩
  case round =>
    clear H'
    try clear c1
    obtain ⟨x3_1, x4_1, x5_1, rfl, rfl, HA, HK1, HO_3, HB⟩ := hrel
    cases gk with
    | zero => exact absurd HA.out (by simp [char_Words.l0])
    | succ k1 =>
      have H := HA.out
      clear HA
      simp only [char_Words.l0] at H
      by_cases c2 : x5_1 ≤ (a0.size : Int)
      · rw [if_pos c2] at H
        have c2b0 : decide (x5_1 ≤ (a0.size : Int)) = true := decide_eq_true c2
        clear c2
        have HC3 := Aside0.mk H
        clear H
        go_upto_region 6 with (fail)
        go_cut [23] (fun v23 wc => ∃ (kq : Nat) (x23_2 : Bool), v23 = .bool x23_2 ∧ Aside0 (char_Words.j1 kq a0 x3_1 x4_1 x5_1 x23_2 = some r) ∧ Aside0 (kq ≤ k1) ∧ Aside0 (Kd.R Kd.string 9 wc w.heap.size (fun _ => True) u3 x3_1) ∧ Aside0 (Below w.heap.size w wc))
        case first =>
          have H := HC3.out
          clear HC3
          by_cases c4 : x5_1 < (a0.size : Int)
          · rw [if_pos c4] at H
            have c4b0 : decide (x5_1 < (a0.size : Int)) = true := decide_eq_true c4
            clear c4
            (first | rw [c4b0] | (simp only [i64_w, i32_w]; rw [c4b0]) | skip)
            by_cases c5 : 0 ≤ x5_1
            · rw [if_pos c5] at H
              have c5b0 : decide (0 ≤ x5_1) = true := decide_eq_true c5
              clear c5
              replace H := Option.bind_eq_some_iff.mp H
              obtain ⟨t101, A70, H⟩ := H
              replace H : (char_Words.j1 k1 a0 x3_1 x4_1 x5_1 (!t101)) = some r := H
              have A7 := Aside0.mk A70
              clear A70
              have H' := Aside0.mk H
              clear H
              have p6 : 0 ≤ (x5_1 : Int) := of_decide_eq_true (by first | (with_reducible assumption) | assumption)
              have q6 : x5_1 < (a0.size : Int) := of_decide_eq_true (by first | (with_reducible assumption) | assumption)
              have hx6 := bt_at a0 x5_1
              replace p6 := eq_true p6
              replace q6 := eq_true q6
              go_wp2_with (first | (go_at_call 37; (with_reducible refine (char_White.calls (wrap32 (bt a0 x5_1)) t101 _ A7.out).mono ?_); rintro e w' ⟨rfl, ⟨nd, rfl⟩⟩))
              go_meet
              case rel => exact ⟨_, (!t101), (by first | rfl | (simp; done) | (simp [*]; done)), H', ⟨by have := HK1.out; first | omega | exact Nat.le_refl _⟩, ⟨by (with_reducible repeat (first | apply Kd.R_alloc | apply Kd.R_drewN | apply Kd.R_drew)); exact HO_3.out⟩, ⟨by repeat (first | (with_reducible first | exact HB.out | apply below_alloc | apply pw_below_drewN | apply below_drew1) | exact HB.out)⟩⟩
            · rw [if_neg c5] at H
              exact absurd H (by simp)
          · rw [if_neg c4] at H
            have c4b0 : decide (x5_1 < (a0.size : Int)) = false := decide_eq_false c4
            clear c4
            (first | rw [c4b0] | (simp only [i64_w, i32_w]; rw [c4b0]) | skip)
            have H' := Aside0.mk H
            clear H
            go_wp2
            go_meet
            case rel => exact ⟨_, (false), (by first | rfl | (simp; done) | (simp [*]; done)), H', ⟨by have := HK1.out; first | omega | exact Nat.le_refl _⟩, ⟨by (with_reducible repeat (first | apply Kd.R_alloc | apply Kd.R_drewN | apply Kd.R_drew)); exact HO_3.out⟩, ⟨by repeat (first | (with_reducible first | exact HB.out | apply below_alloc | apply pw_below_drewN | apply below_drew1) | exact HB.out)⟩⟩
        case rest =>
          clear HC3
          try clear c1
          try clear c2
          try clear c2b0
          try clear p2
          try clear p3
          try clear c4
          try clear c4b0
          try clear c5
          try clear c5b0
          try clear p6
          try clear q6
          try clear hx6
          try clear p6
          try clear q6
          obtain ⟨kq, x23_2, rfl, HA, HJ2, HO_3, HB⟩ := hcut
          cases kq with
          | zero => exact absurd HA.out (by simp [char_Words.j1])
          | succ kj2 =>
            have H := HA.out
            clear HA
            simp only [char_Words.j1] at H
            by_cases c8 : x23_2 = true
            · subst c8
              have H1 : (char_Words.l0 kj2 a0 x3_1 x4_1 (wrap64 (x5_1 + 1))) = some r := by rw [if_pos rfl] at H; exact H
              clear H
              have H := H1
              clear H1
              have H' := Aside0.mk H
              clear H
              go_wp2
              go_roundg kj2
              case measure => have := HK1.out; have := HJ2.out; omega
              case rel => exact ⟨(x3_1), (x4_1), (wrap64 (x5_1 + 1)), (by first | rfl | (simp; done) | (simp [*]; done)), (by first | rfl | (simp; done) | (simp [*]; done)), H', ⟨by have := HK1.out; have := HJ2.out; omega⟩, ⟨by (with_reducible repeat (first | apply Kd.R_alloc | apply Kd.R_drewN | apply Kd.R_drew)); exact HO_3.out⟩, ⟨by repeat (first | (with_reducible first | exact HB.out | apply below_alloc | apply pw_below_drewN | apply below_drew1) | exact HB.out)⟩⟩
            · replace c8 := Bool.eq_false_iff.mpr c8
              subst c8
              have H1 : (if x5_1 > x4_1 then (if 0 ≤ x4_1 then (if x4_1 ≤ x5_1 then (if x5_1 ≤ (a0.size : Int) then (if x3_1.length < 8796093022208 then (char_Words.l0 kj2 a0 (x3_1 ++ [a0.extract (x4_1 : Int).toNat (x5_1 : Int).toNat]) (wrap64 (x5_1 + 1)) (wrap64 (x5_1 + 1))) else (none)) else (none)) else (none)) else (none)) else (char_Words.l0 kj2 a0 x3_1 (wrap64 (x5_1 + 1)) (wrap64 (x5_1 + 1)))) = some r := by rw [if_neg (show ¬ (false = true) by decide)] at H; exact H
              clear H
              have H := H1
              clear H1
              by_cases c9 : x5_1 > x4_1
              · rw [if_pos c9] at H
                have c9b0 : decide (x4_1 < x5_1) = true := decide_eq_true c9
                clear c9
                by_cases c10 : 0 ≤ x4_1
                · rw [if_pos c10] at H
                  have c10b0 := eq_true c10
                  have c10b1 : decide (0 ≤ x4_1) = true := decide_eq_true c10
                  clear c10
                  by_cases c11 : x4_1 ≤ x5_1
                  · rw [if_pos c11] at H
                    have c11b0 := eq_true c11
                    have c11b1 : decide (x4_1 ≤ x5_1) = true := decide_eq_true c11
                    clear c11
                    by_cases c12 : x5_1 ≤ (a0.size : Int)
                    · rw [if_pos c12] at H
                      have c12b0 := eq_true c12
                      have c12b1 : decide (x5_1 ≤ (a0.size : Int)) = true := decide_eq_true c12
                      clear c12
                      by_cases c13 : x3_1.length < 8796093022208
                      · rw [if_pos c13] at H
                        have LMc13 := Aside0.mk c13
                        clear c13
                        obtain ⟨y102, hy102⟩ : ∃ y_ : List ByteArray, y_ = (x3_1 ++ [a0.extract (x4_1 : Int).toNat (x5_1 : Int).toNat]) := ⟨_, rfl⟩
                        replace H : (char_Words.l0 kj2 a0 y102 (wrap64 (x5_1 + 1)) (wrap64 (x5_1 + 1))) = some r := by first | (rw [hy102]; with_reducible exact H) | (have H2_ := (Option.bind_some _ _).symm.trans H; rw [hy102]; with_reducible exact H2_) | (have H2_ := (Option.bind_some _ _).symm.trans H; with_reducible exact H2_) | with_reducible exact H | (rw [hy102]; exact H) | exact H
                        have Ny102 := Aside0.mk hy102
                        clear hy102
                        have H' := Aside0.mk H
                        clear H
                        go_wp2_with (first | ((with_reducible refine gate_builtin (b := .append) (xs := #[.tmp 27, .tmp 32]) rfl ?_); at_builtin; refine Kd.R_append Kd.string (w0 := w) w.heap.size rfl (.tmp 27) (.tmp 32) 25 9 (.string ⟨#[]⟩) 16 rfl Try.underlying25 info9 rfl (by decide) (by omega) u3 x3_1 (a0.extract (x4_1 : Int).toNat (x5_1 : Int).toNat) [.string (a0.extract (x4_1 : Int).toNat (x5_1 : Int).toNat)] (fun _ => True) (fun _ => False) rfl rfl ?aP (fun _ hk => hk.elim) ?aF ?aO ?aB ?aS ?aL ?_; (case aP => exact rfl); (case aB => exact (by repeat (first | (with_reducible first | exact HB.out | apply below_alloc | apply pw_below_drewN | apply below_drew1) | exact HB.out))); (case aF => exact (fun _ _ => trivial)); (case aO => exact (by (with_reducible repeat (first | apply Kd.R_alloc | apply Kd.R_drewN | apply Kd.R_drew)); exact HO_3.out)); (case aS => exact (below_size (by repeat (first | (with_reducible first | exact HB.out | apply below_alloc | apply pw_below_drewN | apply below_drew1) | exact HB.out)))); (case aL => have := LMc13.out; omega); intro v103 w14 ho hb hg hat; rw [← Ny102.out] at ho; have n0_ := Aside0.mk (hb); have n1_ := Aside0.mk (ho); clear HB; clear HO_3; have HB := n0_; have HO104 := n1_; clear n0_ n1_; clear ho hb hg hat))
                        go_roundg kj2
                        case measure => have := HK1.out; have := HJ2.out; omega
                        case rel => exact ⟨(y102), (wrap64 (x5_1 + 1)), (wrap64 (x5_1 + 1)), (by first | rfl | (simp; done) | (simp [*]; done)), (by first | rfl | (simp; done) | (simp [*]; done)), H', ⟨by have := HK1.out; have := HJ2.out; omega⟩, ⟨by (with_reducible repeat (first | apply Kd.R_alloc | apply Kd.R_drewN | apply Kd.R_drew)); exact HO104.out⟩, ⟨by repeat (first | (with_reducible first | exact HB.out | apply below_alloc | apply pw_below_drewN | apply below_drew1) | exact HB.out)⟩⟩
                      · rw [if_neg c13] at H
                        exact absurd H (by simp)
                    · rw [if_neg c12] at H
                      exact absurd H (by simp)
                  · rw [if_neg c11] at H
                    exact absurd H (by simp)
                · rw [if_neg c10] at H
                  exact absurd H (by simp)
              · rw [if_neg c9] at H
                have c9b0 : decide (x4_1 < x5_1) = false := decide_eq_false c9
                clear c9
                have H' := Aside0.mk H
                clear H
                go_wp2
                go_roundg kj2
                case measure => have := HK1.out; have := HJ2.out; omega
                case rel => exact ⟨(x3_1), (wrap64 (x5_1 + 1)), (wrap64 (x5_1 + 1)), (by first | rfl | (simp; done) | (simp [*]; done)), (by first | rfl | (simp; done) | (simp [*]; done)), H', ⟨by have := HK1.out; have := HJ2.out; omega⟩, ⟨by (with_reducible repeat (first | apply Kd.R_alloc | apply Kd.R_drewN | apply Kd.R_drew)); exact HO_3.out⟩, ⟨by repeat (first | (with_reducible first | exact HB.out | apply below_alloc | apply pw_below_drewN | apply below_drew1) | exact HB.out)⟩⟩
      · rw [if_neg c2] at H
        have c2b0 : decide (x5_1 ≤ (a0.size : Int)) = false := decide_eq_false c2
        clear c2
        obtain rfl := Option.some.inj H
        go_wp2
        go_ret
        exact ⟨_, by first | rfl | (simp [errW_none, errW_some] <;> rfl) | (simp [*, errW_none, errW_some] <;> rfl), by (with_reducible repeat (first | apply Kd.R_alloc | apply Kd.R_drewN | apply Kd.R_drew)); exact HO_3.out, by repeat (first | (with_reducible first | exact HB.out | apply below_alloc | apply pw_below_drewN | apply below_drew1) | exact HB.out)⟩

-- NOT PRINTED: function 57 (abi_NoEscape)

-- NOT PRINTED: function 53 (strings_Builder_copyCheck)

-- NOT PRINTED: function 58 (bytealg_MakeNoZero)

-- NOT PRINTED: function 54 (strings_Builder_grow)

-- NOT PRINTED: function 48 (strings_Builder_Grow)

-- NOT PRINTED: function 49 (strings_Builder_WriteString)

-- NOT PRINTED: function 50 (strings_Builder_String)

-- NOT PRINTED: function 39 (strings_Join)

/-! ### char_Space: function 10 -/
/-- White alone becomes a blank. -/
def repS (l : List Int) : List Int := l.map fun x => if x = 32 ∨ x = 9 ∨ x = 10 ∨ x = 13 then 32 else x
def char_Space.f (k : Nat) (a0 : ByteArray) (a1 : Int) : Option ByteArray :=
  if a1 = 2 then (if a0.size < 140737488355328 then some (strOfNums (repS (bytesOf a0))) else none)
  else if a1 = 3 then (char_Words.f k a0).bind fun t => if t.length < 140737488355328 then (if (Lib.join (t.map (·.data.toList)) [32]).length ≤ 140737488355328 then some ⟨(Lib.join (t.map (·.data.toList)) [32]).toArray⟩ else none) else none
  else some a0
theorem char_Space.mono : ∀ a0 a1 k, LeO (char_Space.f k a0 a1) (char_Space.f (k + 1) a0 a1) := by
  intro a0 a1 k
  unfold char_Space.f
  repeat' first
      | (with_reducible exact char_Words.mono _ _)
      | (with_reducible exact LeO.refl _)
      | (with_reducible refine LeO.ite ?_ ?_)
      | (with_reducible refine LeO.bind ?_ (fun _ => ?_))
theorem white_some (x : Int) (h : 0 ≤ x) (h' : x < 256) : char_White.f (wrap32 x) = some (decide (x = 32 ∨ x = 9 ∨ x = 10 ∨ x = 13)) := by
  have e : wrap32 x = x := by unfold wrap32; omega
  rw [e]
  unfold char_White.f
  by_cases h1 : x = 32
  · simp [h1]
  by_cases h2 : x = 9
  · simp [h2]
  by_cases h3 : x = 10
  · simp [h3]
  rw [if_neg h1, if_neg h2, if_neg h3]
  by_cases h4 : x = 13
  · simp [h4]
  · simp [h1, h2, h3, h4]
theorem bytesOf_rd (s : ByteArray) (i : Int) : 0 ≤ rd (bytesOf s) i ∧ rd (bytesOf s) i < 256 := by
  rw [rd_bytesOf]
  have := bt_range s i
  omega
set_option maxHeartbeats 3200000 in
set_option maxRecDepth 100000 in
theorem space_keep (a0 : ByteArray) (a1 : Int) (w : World) (h2 : ¬ a1 = 2) (h3 : ¬ a1 = 3) :
    Calls Try.prog 10 #[.string a0, .int .i64 a1] w fun e w' => e = .returned (.string a0) ∧ Below w.heap.size w w' := by
  have c2 : (a1 == 2) = false := beq_eq_false_iff_ne.mpr h2
  have c3 : (a1 == 3) = false := beq_eq_false_iff_ne.mpr h3
  clear h2 h3
  go_enter Try.func10, Try.ntmps10
  go_wp2
  go_ret
  exact ⟨rfl, Below.refl _ _⟩
/-- The row after i rounds. -/
def repT (l : List Int) (i : Nat) : List Int := repS (l.take i) ++ l.drop i
def RepAt (g : Nat) (l : List Int) (i : Nat) (wr : World) : Prop := ∀ j, j < l.length → wr.cell? ⟨g, j, none⟩ = some (.int .u8 (rd (repT l i) j)) ∧ wr.frozen? ⟨g, j, none⟩ = false
theorem repT_length (l : List Int) (i : Nat) : (repT l i).length = l.length := by
  unfold repT repS
  rw [List.length_append, List.length_map, List.length_take, List.length_drop]
  omega
theorem rd_nat (l : List Int) (j : Nat) : rd l (j : Int) = l[j]?.getD 0 := by simp [rd]
theorem repT_at (l : List Int) (i : Nat) (hi : i < l.length) : rd (repT l i) i = rd l i := by
  rw [rd_nat, rd_nat]
  unfold repT repS
  rw [List.getElem?_append_right (by rw [List.length_map, List.length_take]; omega)]
  rw [List.length_map, List.length_take, List.getElem?_drop]
  congr 2
  omega
theorem repT_get (l : List Int) (i j : Nat) (hj : j < l.length) : rd (repT l i) j = if j < i then (if rd l j = 32 ∨ rd l j = 9 ∨ rd l j = 10 ∨ rd l j = 13 then 32 else rd l j) else rd l j := by
  rw [rd_nat, rd_nat]
  unfold repT repS
  rcases Nat.lt_or_ge j i with h | h
  · rw [if_pos h, List.getElem?_append_left (by rw [List.length_map, List.length_take]; omega), List.getElem?_map, List.getElem?_take_of_lt h, List.getElem?_eq_getElem hj]
    rfl
  · rw [if_neg (by omega), List.getElem?_append_right (by rw [List.length_map, List.length_take]; omega), List.length_map, List.length_take, List.getElem?_drop]
    rw [show i + (j - min i l.length) = j by omega]
theorem repT_succ (l : List Int) (i : Nat) (j : Nat) (hj : j < l.length) : rd (repT l (i + 1)) j = if j = i then (if rd l i = 32 ∨ rd l i = 9 ∨ rd l i = 10 ∨ rd l i = 13 then 32 else rd l i) else rd (repT l i) j := by
  rw [repT_get l (i + 1) j hj, repT_get l i j hj]
  by_cases h1 : j = i
  · subst h1
    rw [if_pos (by omega), if_pos rfl]
  · rw [if_neg h1]
    rcases Nat.lt_or_ge j i with h | h
    · rw [if_pos (by omega), if_pos h]
    · rw [if_neg (by omega), if_neg (by omega)]
theorem bytes_repAt (w : World) (a0 : ByteArray) : RepAt w.heap.size (bytesOf a0) 0 (Lib.bytesWorld w 5 a0) := by
  intro j hj
  rw [bytesOf_length] at hj
  constructor
  · rw [Lib.bytesWorld_cell w 5 a0 j hj]
    have h' : j < a0.data.toList.length := by rw [data_length]; exact hj
    have e : repT (bytesOf a0) 0 = bytesOf a0 := by simp [repT, repS]
    rw [e, rd_nat]
    simp [bytesOf, List.getD_eq_getElem?_getD, List.getElem?_eq_getElem h']
  · have h := Lib.bytesWorld_at_new w 5 a0
    unfold World.frozen?
    rw [h]
    have : (Lib.bytesCells w 5 a0).size ≥ a0.size := by
      have h0 : a0.data.size = a0.size := rfl
      unfold Lib.bytesCells
      rw [Array.size_append, Array.size_map]
      omega
    simp
    omega
theorem RepAt.drewN {g : Nat} {l : List Int} {i : Nat} {wr : World} (h : RepAt g l i wr) (n : Nat) : RepAt g l i (wr.drewN n) := h
theorem RepAt.skip {g : Nat} {l : List Int} {i : Nat} {wr : World} (h : RepAt g l i wr) (hi : i < l.length) (hn : ¬ (rd l i = 32 ∨ rd l i = 9 ∨ rd l i = 10 ∨ rd l i = 13)) : RepAt g l (i + 1) wr := by
  intro j hj
  rw [repT_succ l i j hj, if_neg hn]
  have := h j hj
  split
  · rename_i e
    subst e
    rw [repT_at l j hi] at this
    exact this
  · exact this
theorem RepAt.put {g : Nat} {l : List Int} {i : Nat} {wr : World} (h : RepAt g l i wr) (hi : i < l.length) (hn : rd l i = 32 ∨ rd l i = 9 ∨ rd l i = 10 ∨ rd l i = 13) : RepAt g l (i + 1) (wr.setCell ⟨g, i, none⟩ (.int .u8 32)) := by
  intro j hj
  rw [repT_succ l i j hj, if_pos hn]
  have hj' := h j hj
  have hi' := h i hi
  constructor
  · split
    · rename_i e
      subst e
      exact World.cell?_setCell_same' _ _ _ (by rw [hi'.1]; rfl)
    · rename_i e
      refine (World.cell?_setCell_other wr ⟨g, i, none⟩ ⟨g, j, none⟩ _ (by intro e2; injection e2 with _ e3; exact e e3.symm)).trans hj'.1
  · rw [World.frozen?_setCell]
    exact hj'.2
set_option maxHeartbeats 3200000 in
set_option maxRecDepth 100000 in
theorem space_rep (a0 : ByteArray) (w : World) (hz : a0.size < 140737488355328) :
    Calls Try.prog 10 #[.string a0, .int .i64 2] w fun e w' => e = .returned (.string (strOfNums (repS (bytesOf a0)))) ∧ Below w.heap.size w w' := by
  have kb := fun W => print_bytes (P := Try.prog) 9 32 5 Try.underlying9 Try.underlying32 Try.underlying5 a0 W
  go_enter Try.func10, Try.ntmps10
  go_wp2
  have hr0 := Aside0.mk (bytes_repAt w a0)
  have hb0 := Aside0.mk (bytes_below (Below.refl w.heap.size w) (Nat.le_refl _) 5 a0)
  have hbl := Aside0.mk (bytesOf_length a0)
  go_loopw [15] (fun v wr => ∃ i : Nat, i ≤ a0.size ∧ v = .int .i64 i ∧ Aside0 (RepAt w.heap.size (bytesOf a0) i wr) ∧ Aside0 (Below w.heap.size w wr)) (fun v _ => a0.size - (intOf v).toNat)
  case atStart => exact ⟨0, Nat.zero_le _, rfl, hr0, hb0⟩
  case round =>
    clear hr0 hb0 kb
    obtain ⟨i, hi, rfl, HR, HB⟩ := hrel
    by_cases hlt : i < a0.size
    · have hx : wr.cell? ⟨w.heap.size, i, none⟩ = some (.int .u8 (rd (bytesOf a0) i)) ∧ wr.frozen? ⟨w.heap.size, i, none⟩ = false := by
        have := HR.out i (by rw [hbl.out]; exact hlt)
        rwa [repT_at _ _ (by rw [hbl.out]; exact hlt)] at this
      obtain ⟨hx1, hx2⟩ := hx
      have hbd := bytesOf_rd a0 i
      have hw := Aside0.mk (white_some (rd (bytesOf a0) i) hbd.1 hbd.2)
      obtain ⟨x, hxe⟩ : ∃ x, rd (bytesOf a0) i = x := ⟨_, rfl⟩
      rw [hxe] at hx1 hw
      have HX := Aside0.mk hxe
      clear hxe hbd
      by_cases hn : x = 32 ∨ x = 9 ∨ x = 10 ∨ x = 13
      · have hw' : Aside0 (char_White.f (wrap32 x) = some true) := ⟨by rw [hw.out]; simp [hn]⟩
        clear hw
        have HN := Aside0.mk hn
        clear hn
        go_wp2_with (go_at_call 37; (with_reducible refine (char_White.calls _ true _ hw'.out).mono ?_); rintro e w' ⟨rfl, ⟨nd, rfl⟩⟩)
        go_roundw
        case rel => exact ⟨i + 1, by omega, by go_num, ⟨RepAt.put (HR.out.drewN _) (by rw [hbl.out]; exact hlt) (by rw [HX.out]; exact HN.out)⟩, ⟨(pw_below_drewN HB.out _).setCell (p := ⟨w.heap.size, i, none⟩) (Nat.le_refl _) _⟩⟩
        case measure => simp [intOf]; omega
      · have hw' : Aside0 (char_White.f (wrap32 x) = some false) := ⟨by rw [hw.out]; simp [hn]⟩
        clear hw
        have HN := Aside0.mk hn
        clear hn
        go_wp2_with (go_at_call 37; (with_reducible refine (char_White.calls _ false _ hw'.out).mono ?_); rintro e w' ⟨rfl, ⟨nd, rfl⟩⟩)
        go_roundw
        case rel => exact ⟨i + 1, by omega, by go_num, ⟨(RepAt.skip HR.out (by rw [hbl.out]; exact hlt) (by rw [HX.out]; exact HN.out)).drewN _⟩, ⟨pw_below_drewN HB.out _⟩⟩
        case measure => simp [intOf]; omega
    · have hback := Aside0.mk (show (convert 32 9 (.slice (some ⟨w.heap.size, 0, none⟩) a0.size (grownCap w a0.size 0 5))).run Try.prog wr = .ok (.string (strOfNums (repS (bytesOf a0)))) wr from by
        have e : repT (bytesOf a0) i = repS (bytesOf a0) := by
          have : (bytesOf a0).length ≤ i := by rw [hbl.out]; omega
          unfold repT
          rw [List.take_of_length_le this, List.drop_eq_nil_of_le this, List.append_nil]
        refine run_convert_bytes_arg wr 32 5 Try.underlying32 Try.underlying5 w.heap.size 0 a0.size _ (repS (bytesOf a0)) (by unfold repS; rw [List.length_map, hbl.out]) (fun j hj => ?_) 9 Try.underlying9
        have := (HR.out j (by rw [hbl.out]; exact hj)).1
        rw [e, rd_nat] at this
        rw [Nat.zero_add, this, List.getD_eq_getElem?_getD])
      have hb := hback.out
      clear hback hbl HR
      go_wp2
      go_ret
      exact ⟨rfl, HB.out⟩
theorem strs_cells {w : World} {base : Nat} {ok : Nat → Prop} {v : Value} {t : List ByteArray} (h : Kd.R Kd.string 9 w base ok v t) (ht : t ≠ []) :
    ∃ g cap, v = .slice (some ⟨g, 0, none⟩) t.length cap ∧ g < w.heap.size ∧ t.length ≤ cap ∧ ∀ (j : Nat) x, t[j]? = some x → w.cell? ⟨g, 0 + j, none⟩ = some (.string x) := by
  have ho := Kd.own_of_R (enc := Value.string) (h1 := fun _ => rfl) h
  have hpos : 0 < t.length := List.length_pos_iff.2 ht
  rcases ho.2 with ⟨_, h0⟩ | ⟨g, cap, cur, rfl, hb, hh, hn, _, _, _⟩
  · omega
  · refine ⟨g, cap, rfl, (Array.getElem?_eq_some_iff.1 hh).1, hn, fun j x hx => ?_⟩
    have hc := ho.cells (g := g) rfl j (.string x) (by simp [encs, hx])
    rw [add_plain] at hc
    rw [Nat.zero_add]
    exact hc
set_option maxHeartbeats 3200000 in
set_option maxRecDepth 100000 in
theorem space_col (k : Nat) (a0 : ByteArray) (t : List ByteArray) (w : World) (ht : char_Words.f k a0 = some t) (hN : t.length < 140737488355328) (hlen : (Lib.join (t.map (·.data.toList)) [32]).length ≤ 140737488355328) :
    Calls Try.prog 10 #[.string a0, .int .i64 3] w fun e w' => e = .returned (.string ⟨(Lib.join (t.map (·.data.toList)) [32]).toArray⟩) ∧ Below w.heap.size w w' := by
  have HT := Aside0.mk ht
  have HL := Aside0.mk hlen
  have HN := Aside0.mk hN
  clear ht hlen hN
  go_enter Try.func10, Try.ntmps10
  go_wp2_with fail
  refine (char_Words.calls k a0 t _ HT.out).mono ?_
  rintro e w1 ⟨v, rfl, ho, hb⟩
  have HO := Aside0.mk ho
  have HB := Aside0.mk hb
  clear ho hb
  by_cases h0 : t = []
  · subst h0
    have hv := (Kd.own_of_R (enc := Value.string) (h1 := fun _ => rfl) HO.out).2
    have hv2 : ∃ A c, v = .slice A 0 c := by
      rcases hv with ⟨hv, _⟩ | ⟨g, cap, cur, hv, _⟩
      · exact ⟨_, _, hv⟩
      · exact ⟨_, _, hv⟩
    clear hv
    obtain ⟨A, c, hv⟩ := hv2
    subst hv
    go_wp2_with fail
    refine (Try.strings_Join_none A c ⟨#[32]⟩ _).mono ?_
    rintro e w' ⟨rfl, rfl⟩
    go_wp2
    go_ret
    exact ⟨rfl, HB.out⟩
  · obtain ⟨g, cap, hv, hg, hcap, hcells⟩ := strs_cells HO.out h0
    subst hv
    have HC := Aside0.mk hcells
    have HG := Aside0.mk hg
    have HP := Aside0.mk hcap
    clear hcells hg hcap h0
    go_wp2_with fail
    refine (Try.strings_Join g 0 cap t ⟨#[32]⟩ _ HC.out HG.out (by have := HN.out; omega) HP.out HL.out).mono ?_
    rintro e w' ⟨rfl, hb2⟩
    have HB2 := Aside0.mk hb2
    clear hb2
    go_wp2
    go_ret
    exact ⟨rfl, below_then HB.out HB.out.size HB2.out⟩
theorem char_Space.calls (k : Nat) (a0 : ByteArray) (a1 : Int) (r : ByteArray) (w : World) (h : char_Space.f k a0 a1 = some r) :
    Calls Try.prog 10 #[.string a0, .int .i64 a1] w fun e w' => e = .returned (.string r) ∧ Below w.heap.size w w' := by
  unfold char_Space.f at h
  by_cases h2 : a1 = 2
  · subst h2
    rw [if_pos rfl] at h
    by_cases hz : a0.size < 140737488355328
    · rw [if_pos hz] at h
      obtain rfl := Option.some.inj h
      exact space_rep a0 w hz
    · rw [if_neg hz] at h; exact absurd h (by simp)
  rw [if_neg h2] at h
  by_cases h3 : a1 = 3
  · subst h3
    rw [if_pos rfl] at h
    obtain ⟨t, ht, h⟩ := Option.bind_eq_some_iff.mp h
    by_cases hN : t.length < 140737488355328
    · rw [if_pos hN] at h
      by_cases hl : (Lib.join (t.map (·.data.toList)) [32]).length ≤ 140737488355328
      · rw [if_pos hl] at h
        obtain rfl := Option.some.inj h
        exact space_col k a0 t w ht hN hl
      · rw [if_neg hl] at h; exact absurd h (by simp)
    · rw [if_neg hN] at h; exact absurd h (by simp)
  · rw [if_neg h3] at h
    obtain rfl := Option.some.inj h
    exact space_keep a0 a1 w h2 h3

/-! ### char_Char: function 31 -/
def char_Char.f (a0 : Int) : Option (Bool) := if a0 < 32 then (if a0 = 9 then (some true) else (if a0 = 10 then (some true) else (some (a0 == 13)))) else (if a0 ≥ 55296 then (if a0 ≤ 57343 then (some false) else (if a0 ≤ 65533 then (some true) else (if a0 ≥ 65536 then (some (decide (a0 ≤ 1114111))) else (some false)))) else (if a0 ≤ 65533 then (some true) else (if a0 ≥ 65536 then (some (decide (a0 ≤ 1114111))) else (some false))))
set_option maxHeartbeats 8000000 in
set_option maxRecDepth 100000 in
theorem char_Char.calls (a0 : Int) (r : Bool) (w : World) (h : char_Char.f a0 = some r) :
    Calls Try.prog 31 #[.int .i32 a0] w fun e w' => e = .returned (.bool r) ∧ Drawn0 w w' := by
  have H : (if a0 < 32 then (if a0 = 9 then (some true) else (if a0 = 10 then (some true) else (some (a0 == 13)))) else (if a0 ≥ 55296 then (if a0 ≤ 57343 then (some false) else (if a0 ≤ 65533 then (some true) else (if a0 ≥ 65536 then (some (decide (a0 ≤ 1114111))) else (some false)))) else (if a0 ≤ 65533 then (some true) else (if a0 ≥ 65536 then (some (decide (a0 ≤ 1114111))) else (some false))))) = some r := h
  clear h
  by_cases c2 : a0 < 32
  · rw [if_pos c2] at H
    have c2b0 : decide (a0 < 32) = true := decide_eq_true c2
    clear c2
    by_cases c3 : a0 = 9
    · rw [if_pos c3] at H
      have c3b0 : (a0 == 9) = true := beq_iff_eq.mpr c3
      have c3b1 : (a0 != 9) = false := bne_eq_false_iff_eq.mpr c3
      clear c3
      obtain rfl := Option.some.inj H
      go_enter Try.func31, Try.ntmps31
      go_wp2
      go_ret
      exact ⟨by first | rfl | (simp; done) | (simp [*]; done), by repeat (first | exact Drawn0.refl _ | apply Drawn0.step)⟩
    · rw [if_neg c3] at H
      have c3b0 : (a0 == 9) = false := beq_eq_false_iff_ne.mpr c3
      have c3b1 : (a0 != 9) = true := bne_iff_ne.mpr c3
      by_cases c4 : a0 = 10
      · rw [if_pos c4] at H
        have c4b0 : (a0 == 10) = true := beq_iff_eq.mpr c4
        have c4b1 : (a0 != 10) = false := bne_eq_false_iff_eq.mpr c4
        clear c4
        obtain rfl := Option.some.inj H
        go_enter Try.func31, Try.ntmps31
        go_wp2
        go_ret
        exact ⟨by first | rfl | (simp; done) | (simp [*]; done), by repeat (first | exact Drawn0.refl _ | apply Drawn0.step)⟩
      · rw [if_neg c4] at H
        have c4b0 : (a0 == 10) = false := beq_eq_false_iff_ne.mpr c4
        have c4b1 : (a0 != 10) = true := bne_iff_ne.mpr c4
        obtain rfl := Option.some.inj H
        go_enter Try.func31, Try.ntmps31
        go_wp2
        go_ret
        exact ⟨by first | rfl | (simp; done) | (simp [*]; done), by repeat (first | exact Drawn0.refl _ | apply Drawn0.step)⟩
  · rw [if_neg c2] at H
    have c2b0 : decide (a0 < 32) = false := decide_eq_false c2
    clear c2
    by_cases c5 : a0 ≥ 55296
    · rw [if_pos c5] at H
      have c5b0 : decide (55296 ≤ a0) = true := decide_eq_true c5
      clear c5
      by_cases c6 : a0 ≤ 57343
      · rw [if_pos c6] at H
        have c6b0 : decide (a0 ≤ 57343) = true := decide_eq_true c6
        clear c6
        obtain rfl := Option.some.inj H
        go_enter Try.func31, Try.ntmps31
        go_wp2
        go_ret
        exact ⟨by first | rfl | (simp; done) | (simp [*]; done), by repeat (first | exact Drawn0.refl _ | apply Drawn0.step)⟩
      · rw [if_neg c6] at H
        have c6b0 : decide (a0 ≤ 57343) = false := decide_eq_false c6
        clear c6
        by_cases c7 : a0 ≤ 65533
        · rw [if_pos c7] at H
          have c7b0 : decide (a0 ≤ 65533) = true := decide_eq_true c7
          clear c7
          obtain rfl := Option.some.inj H
          go_enter Try.func31, Try.ntmps31
          go_wp2
          go_ret
          exact ⟨by first | rfl | (simp; done) | (simp [*]; done), by repeat (first | exact Drawn0.refl _ | apply Drawn0.step)⟩
        · rw [if_neg c7] at H
          have c7b0 : decide (a0 ≤ 65533) = false := decide_eq_false c7
          clear c7
          by_cases c8 : a0 ≥ 65536
          · rw [if_pos c8] at H
            have c8b0 : decide (65536 ≤ a0) = true := decide_eq_true c8
            clear c8
            obtain rfl := Option.some.inj H
            go_enter Try.func31, Try.ntmps31
            go_wp2
            go_ret
            exact ⟨by first | rfl | (simp; done) | (simp [*]; done), by repeat (first | exact Drawn0.refl _ | apply Drawn0.step)⟩
          · rw [if_neg c8] at H
            have c8b0 : decide (65536 ≤ a0) = false := decide_eq_false c8
            clear c8
            obtain rfl := Option.some.inj H
            go_enter Try.func31, Try.ntmps31
            go_wp2
            go_ret
            exact ⟨by first | rfl | (simp; done) | (simp [*]; done), by repeat (first | exact Drawn0.refl _ | apply Drawn0.step)⟩
    · rw [if_neg c5] at H
      have c5b0 : decide (55296 ≤ a0) = false := decide_eq_false c5
      clear c5
      by_cases c9 : a0 ≤ 65533
      · rw [if_pos c9] at H
        have c9b0 : decide (a0 ≤ 65533) = true := decide_eq_true c9
        clear c9
        obtain rfl := Option.some.inj H
        go_enter Try.func31, Try.ntmps31
        go_wp2
        go_ret
        exact ⟨by first | rfl | (simp; done) | (simp [*]; done), by repeat (first | exact Drawn0.refl _ | apply Drawn0.step)⟩
      · rw [if_neg c9] at H
        have c9b0 : decide (a0 ≤ 65533) = false := decide_eq_false c9
        clear c9
        by_cases c10 : a0 ≥ 65536
        · rw [if_pos c10] at H
          have c10b0 : decide (65536 ≤ a0) = true := decide_eq_true c10
          clear c10
          obtain rfl := Option.some.inj H
          go_enter Try.func31, Try.ntmps31
          go_wp2
          go_ret
          exact ⟨by first | rfl | (simp; done) | (simp [*]; done), by repeat (first | exact Drawn0.refl _ | apply Drawn0.step)⟩
        · rw [if_neg c10] at H
          have c10b0 : decide (65536 ≤ a0) = false := decide_eq_false c10
          clear c10
          obtain rfl := Option.some.inj H
          go_enter Try.func31, Try.ntmps31
          go_wp2
          go_ret
          exact ⟨by first | rfl | (simp; done) | (simp [*]; done), by repeat (first | exact Drawn0.refl _ | apply Drawn0.step)⟩

end Go.Proofs.Ytjogllgkdnomiaa.PCharJoins
