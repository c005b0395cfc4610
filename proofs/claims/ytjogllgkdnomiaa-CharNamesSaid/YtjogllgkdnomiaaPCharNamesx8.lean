-- Written by a turned copy of the print (wip/print/mkprint.py): contracts proved by hand are joined in. Lean checks it.
import Derived.Test.YtjogllgkdnomiaaPCharNamesx0
import Derived.Test.YtjogllgkdnomiaaPCharNamesx1
import Derived.Test.YtjogllgkdnomiaaPCharNamesx7
namespace Go.Proofs.Ytjogllgkdnomiaa.PCharNames
open Go.RowKit Go.Proofs.YtjogllgkdnomiaaW.PrintWords Go.Proofs.YtjogllgkdnomiaaW.PrintLast Go.Proofs.YtjogllgkdnomiaaW.PrintMore
attribute [local go_sem] max2_int min2_int max_two min_two max_three min_three max_four min_four   -- for this text's walks alone
set_option linter.unusedVariables false
set_option linter.unusedSimpArgs false

/-! ### rubricref1_Words: function 22 -/
mutual
def rubricref1_Words.l0 : Nat → ByteArray → List ByteArray → ByteArray → Int → Option (List ByteArray)
  | 0, _, _, _, _ => none
  | k + 1, x0, x3, x4, x5 => if x5 ≤ (x0.size : Int) then (if x5 < (x0.size : Int) then (if 0 ≤ x5 then ((rubricref1_White.f (wrap64 (bt x0 x5))).bind fun t206 => (rubricref1_Words.j1 k x0 x3 x4 x5 (!t206))) else (none)) else (rubricref1_Words.j1 k x0 x3 x4 x5 false)) else (some x3)
def rubricref1_Words.j1 : Nat → ByteArray → List ByteArray → ByteArray → Int → Bool → Option (List ByteArray)
  | 0, _, _, _, _, _ => none
  | k + 1, x0, x3, x4, x5, x23 => if x23 = true then (if 0 ≤ x5 then (if x5 ≤ (wrap64 (x5 + 1)) then (if (wrap64 (x5 + 1)) ≤ (x0.size : Int) then (if x4.size + (x0.extract (x5 : Int).toNat ((wrap64 (x5 + 1)) : Int).toNat).size ≤ 9223372036854775807 then (rubricref1_Words.l0 k x0 x3 (x4 ++ (x0.extract (x5 : Int).toNat ((wrap64 (x5 + 1)) : Int).toNat)) (wrap64 (x5 + 1))) else (none)) else (none)) else (none)) else (none)) else (if x4.toList = ([] : List UInt8) then (rubricref1_Words.l0 k x0 x3 (⟨#[]⟩ : ByteArray) (wrap64 (x5 + 1))) else (if x3.length < 8796093022208 then (rubricref1_Words.l0 k x0 (x3 ++ [x4]) (⟨#[]⟩ : ByteArray) (wrap64 (x5 + 1))) else (none)))
end
def rubricref1_Words.f (k : Nat) (a0 : ByteArray) : Option (List ByteArray) := rubricref1_Words.l0 k a0 ([] : List ByteArray) (⟨#[]⟩ : ByteArray) 0
theorem rubricref1_Words.mono_l : ∀ k, (∀ y0 y1 y2 y3, LeO (rubricref1_Words.l0 k y0 y1 y2 y3) (rubricref1_Words.l0 (k + 1) y0 y1 y2 y3)) ∧ (∀ y0 y1 y2 y3 y4, LeO (rubricref1_Words.j1 k y0 y1 y2 y3 y4) (rubricref1_Words.j1 (k + 1) y0 y1 y2 y3 y4))
  | 0 => ⟨fun _ _ _ _ r h => by simp [rubricref1_Words.l0] at h, fun _ _ _ _ _ r h => by simp [rubricref1_Words.j1] at h⟩
  | k + 1 => by
    obtain ⟨ih0, ih1⟩ := rubricref1_Words.mono_l k
    refine ⟨?_, ?_⟩
    · intro y0 y1 y2 y3
      unfold rubricref1_Words.l0
      repeat' first
      | (with_reducible exact ih0 _ _ _ _)
      | (with_reducible exact ih1 _ _ _ _ _)
      | (with_reducible exact LeO.refl _)
      | (with_reducible exact LeO.none _)
      | (with_reducible refine LeO.ite ?_ ?_)
      | (with_reducible refine LeO.bind ?_ (fun _ => ?_))
      | exact ih0 _ _ _ _
      | exact ih1 _ _ _ _ _
      | exact LeO.none _
      | refine LeO.ite ?_ ?_
      | refine LeO.bind ?_ (fun _ => ?_)
    · intro y0 y1 y2 y3 y4
      unfold rubricref1_Words.j1
      repeat' first
      | (with_reducible exact ih0 _ _ _ _)
      | (with_reducible exact ih1 _ _ _ _ _)
      | (with_reducible exact LeO.refl _)
      | (with_reducible exact LeO.none _)
      | (with_reducible refine LeO.ite ?_ ?_)
      | (with_reducible refine LeO.bind ?_ (fun _ => ?_))
      | exact ih0 _ _ _ _
      | exact ih1 _ _ _ _ _
      | exact LeO.none _
      | refine LeO.ite ?_ ?_
      | refine LeO.bind ?_ (fun _ => ?_)
theorem rubricref1_Words.mono : ∀ a0 k, LeO (rubricref1_Words.f k a0) (rubricref1_Words.f (k + 1) a0) := by
  intro a0 k
  obtain ⟨ih0, ih1⟩ := rubricref1_Words.mono_l k
  unfold rubricref1_Words.f
  repeat' first
      | (with_reducible exact ih0 _ _ _ _)
      | (with_reducible exact ih1 _ _ _ _ _)
      | (with_reducible exact LeO.refl _)
      | (with_reducible exact LeO.none _)
      | (with_reducible refine LeO.ite ?_ ?_)
      | (with_reducible refine LeO.bind ?_ (fun _ => ?_))
      | exact ih0 _ _ _ _
      | exact ih1 _ _ _ _ _
      | exact LeO.none _
      | refine LeO.ite ?_ ?_
      | refine LeO.bind ?_ (fun _ => ?_)
set_option maxHeartbeats 8000000 in
set_option maxRecDepth 100000 in
theorem rubricref1_Words.calls (k : Nat) (a0 : ByteArray) (r : List ByteArray) (w : World) (h : rubricref1_Words.f k a0 = some r) :
    Calls Try.prog 22 #[.string a0] w fun e w' => ∃ v0_ : Value, e = .returned (v0_) ∧ Kd.R Kd.string 9 w' w.heap.size (fun _ => True) v0_ r ∧ Below w.heap.size w w' := by
  have HB := Aside0.mk (Below.refl w.heap.size w)
  have H : (rubricref1_Words.l0 k a0 ([] : List ByteArray) (⟨#[]⟩ : ByteArray) 0) = some r := h
  clear h
  have H' := Aside0.mk H
  clear H
  go_enter Try.func22, Try.ntmps22
  go_wp2
  go_loopg [3, 4, 5] k (fun kq v3 v4 v5 w' => ∃ (x3_1 : List ByteArray) (x4_1 : ByteArray) (x5_1 : Int), v4 = .string x4_1 ∧ v5 = .int .i64 x5_1 ∧ Aside0 (rubricref1_Words.l0 kq a0 x3_1 x4_1 x5_1 = some r) ∧ Aside0 (kq ≤ k) ∧ Aside0 (Kd.R Kd.string 9 w' w.heap.size (fun _ => True) v3 x3_1) ∧ Aside0 (Below w.heap.size w w'))
  case atStart => exact ⟨(([] : List ByteArray)), ((⟨#[]⟩ : ByteArray)), (0), (by first | rfl | (simp; done) | (simp [*]; done)), (by first | rfl | (simp; done) | (simp [*]; done)), H', ⟨Nat.le_refl _⟩, ⟨by first | exact Kd.R_nil _ _ _ _ _ | exact Kd.N_nil _ _ _ _ _ | exact Kd.V_nil _ _ _ _ _ | exact Kd.Q_nil _ _ _ _ _ | exact Kd.S_nil _ _ _ _ _⟩, ⟨by repeat (first | (with_reducible first | exact HB.out | apply below_alloc | apply pw_below_drewN | apply below_drew1) | exact HB.out)⟩⟩
  case round =>
    clear H'
    obtain ⟨x3_1, x4_1, x5_1, rfl, rfl, HA, HK1, HO_3, HB⟩ := hrel
    cases gk with
    | zero => exact absurd HA.out (by simp [rubricref1_Words.l0])
    | succ k1 =>
      have H := HA.out
      clear HA
      simp only [rubricref1_Words.l0] at H
      by_cases c2 : x5_1 ≤ (a0.size : Int)
      · rw [if_pos c2] at H
        have c2b0 : decide (x5_1 ≤ (a0.size : Int)) = true := decide_eq_true c2
        clear c2
        have HC3 := Aside0.mk H
        clear H
        go_upto_region 6 with (fail)
        go_cut [23] (fun v23 wc => ∃ (kq : Nat) (x23_2 : Bool), v23 = .bool x23_2 ∧ Aside0 (rubricref1_Words.j1 kq a0 x3_1 x4_1 x5_1 x23_2 = some r) ∧ Aside0 (kq ≤ k1) ∧ Aside0 (Kd.R Kd.string 9 wc w.heap.size (fun _ => True) u3 x3_1) ∧ Aside0 (Below w.heap.size w wc))
        case first =>
          have H := HC3.out
          clear HC3
          by_cases c4 : x5_1 < (a0.size : Int)
          · rw [if_pos c4] at H
            have c4b0 : decide (x5_1 < (a0.size : Int)) = true := decide_eq_true c4
            clear c4
            (first | rw [c4b0] | (simp only [i64_w, i32_w]; rw [c4b0]) | skip)
            by_cases c5 : 0 ≤ x5_1
            · rw [if_pos c5] at H
              have c5b0 : decide (0 ≤ x5_1) = true := decide_eq_true c5
              clear c5
              replace H := Option.bind_eq_some_iff.mp H
              obtain ⟨t206, A70, H⟩ := H
              replace H : (rubricref1_Words.j1 k1 a0 x3_1 x4_1 x5_1 (!t206)) = some r := H
              have A7 := Aside0.mk A70
              clear A70
              have H' := Aside0.mk H
              clear H
              have p6 : 0 ≤ (x5_1 : Int) := of_decide_eq_true (by first | (with_reducible assumption) | assumption)
              have q6 : x5_1 < (a0.size : Int) := of_decide_eq_true (by first | (with_reducible assumption) | assumption)
              have hx6 := bt_at a0 x5_1
              replace p6 := eq_true p6
              replace q6 := eq_true q6
              go_wp2_with (first | (go_at_call 38; (with_reducible refine (rubricref1_White.calls (wrap64 (bt a0 x5_1)) t206 _ A7.out).mono ?_); rintro e w' ⟨rfl, ⟨nd, rfl⟩⟩))
              go_meet
              case rel => exact ⟨_, (!t206), (by first | rfl | (simp; done) | (simp [*]; done)), H', ⟨by have := HK1.out; first | omega | exact Nat.le_refl _⟩, ⟨by (with_reducible repeat (first | apply Kd.R_alloc | apply Kd.R_drewN | apply Kd.R_drew)); exact HO_3.out⟩, ⟨by repeat (first | (with_reducible first | exact HB.out | apply below_alloc | apply pw_below_drewN | apply below_drew1) | exact HB.out)⟩⟩
            · rw [if_neg c5] at H
              exact absurd H (by simp)
          · rw [if_neg c4] at H
            have c4b0 : decide (x5_1 < (a0.size : Int)) = false := decide_eq_false c4
            clear c4
            (first | rw [c4b0] | (simp only [i64_w, i32_w]; rw [c4b0]) | skip)
            have H' := Aside0.mk H
            clear H
            go_wp2
            go_meet
            case rel => exact ⟨_, (false), (by first | rfl | (simp; done) | (simp [*]; done)), H', ⟨by have := HK1.out; first | omega | exact Nat.le_refl _⟩, ⟨by (with_reducible repeat (first | apply Kd.R_alloc | apply Kd.R_drewN | apply Kd.R_drew)); exact HO_3.out⟩, ⟨by repeat (first | (with_reducible first | exact HB.out | apply below_alloc | apply pw_below_drewN | apply below_drew1) | exact HB.out)⟩⟩
        case rest =>
          clear HC3
          try clear c2
          try clear c2b0
          try clear p2
          try clear c4
          try clear c4b0
          try clear c5
          try clear c5b0
          try clear p6
          try clear q6
          try clear hx6
          try clear p6
          try clear q6
          obtain ⟨kq, x23_2, rfl, HA, HJ2, HO_3, HB⟩ := hcut
          cases kq with
          | zero => exact absurd HA.out (by simp [rubricref1_Words.j1])
          | succ kj2 =>
            have H := HA.out
            clear HA
            simp only [rubricref1_Words.j1] at H
            by_cases c8 : x23_2 = true
            · subst c8
              have H1 : (if 0 ≤ x5_1 then (if x5_1 ≤ (wrap64 (x5_1 + 1)) then (if (wrap64 (x5_1 + 1)) ≤ (a0.size : Int) then (if x4_1.size + (a0.extract (x5_1 : Int).toNat ((wrap64 (x5_1 + 1)) : Int).toNat).size ≤ 9223372036854775807 then (rubricref1_Words.l0 kj2 a0 x3_1 (x4_1 ++ (a0.extract (x5_1 : Int).toNat ((wrap64 (x5_1 + 1)) : Int).toNat)) (wrap64 (x5_1 + 1))) else (none)) else (none)) else (none)) else (none)) = some r := by rw [if_pos rfl] at H; exact H
              clear H
              have H := H1
              clear H1
              by_cases c9 : 0 ≤ x5_1
              · rw [if_pos c9] at H
                have c9b0 := eq_true c9
                have c9b1 : decide (0 ≤ x5_1) = true := decide_eq_true c9
                clear c9
                by_cases c10 : x5_1 ≤ (wrap64 (x5_1 + 1))
                · rw [if_pos c10] at H
                  have c10b0 := eq_true c10
                  have c10b1 : decide (x5_1 ≤ (wrap64 (x5_1 + 1))) = true := decide_eq_true c10
                  by_cases c11 : (wrap64 (x5_1 + 1)) ≤ (a0.size : Int)
                  · rw [if_pos c11] at H
                    have c11b0 := eq_true c11
                    have c11b1 : decide ((wrap64 (x5_1 + 1)) ≤ (a0.size : Int)) = true := decide_eq_true c11
                    by_cases c12 : x4_1.size + (a0.extract (x5_1 : Int).toNat ((wrap64 (x5_1 + 1)) : Int).toNat).size ≤ 9223372036854775807
                    · rw [if_pos c12] at H
                      have c12b0 := eq_true c12
                      have c12b1 : decide (x4_1.size + (a0.extract (x5_1 : Int).toNat ((wrap64 (x5_1 + 1)) : Int).toNat).size ≤ 9223372036854775807) = true := decide_eq_true c12
                      try have c12b2 : (9223372036854775807 < x4_1.size + (a0.extract (x5_1 : Int).toNat ((wrap64 (x5_1 + 1)) : Int).toNat).size) = False := eq_false (Nat.not_lt.2 c12)
                      have H' := Aside0.mk H
                      clear H
                      go_wp2
                      go_roundg kj2
                      case measure => have := HK1.out; have := HJ2.out; omega
                      case rel => exact ⟨(x3_1), (x4_1 ++ (a0.extract (x5_1 : Int).toNat ((wrap64 (x5_1 + 1)) : Int).toNat)), (wrap64 (x5_1 + 1)), (by first | rfl | (simp; done) | (simp [*]; done)), (by first | rfl | (simp; done) | (simp [*]; done)), H', ⟨by have := HK1.out; have := HJ2.out; omega⟩, ⟨by (with_reducible repeat (first | apply Kd.R_alloc | apply Kd.R_drewN | apply Kd.R_drew)); exact HO_3.out⟩, ⟨by repeat (first | (with_reducible first | exact HB.out | apply below_alloc | apply pw_below_drewN | apply below_drew1) | exact HB.out)⟩⟩
                    · rw [if_neg c12] at H
                      exact absurd H (by simp)
                  · rw [if_neg c11] at H
                    exact absurd H (by simp)
                · rw [if_neg c10] at H
                  exact absurd H (by simp)
              · rw [if_neg c9] at H
                exact absurd H (by simp)
            · replace c8 := Bool.eq_false_iff.mpr c8
              subst c8
              have H1 : (if x4_1.toList = ([] : List UInt8) then (rubricref1_Words.l0 kj2 a0 x3_1 (⟨#[]⟩ : ByteArray) (wrap64 (x5_1 + 1))) else (if x3_1.length < 8796093022208 then (rubricref1_Words.l0 kj2 a0 (x3_1 ++ [x4_1]) (⟨#[]⟩ : ByteArray) (wrap64 (x5_1 + 1))) else (none))) = some r := by rw [if_neg (show ¬ (false = true) by decide)] at H; exact H
              clear H
              have H := H1
              clear H1
              by_cases c13 : x4_1.toList = ([] : List UInt8)
              · rw [if_pos c13] at H
                have c13b0 : (x4_1.toList == ([] : List UInt8)) = true := beq_iff_eq.mpr c13
                have c13b1 : (x4_1.toList != ([] : List UInt8)) = false := bne_eq_false_iff_eq.mpr c13
                have c13b2 : x4_1.toList.isEmpty = true := by simpa using c13
                clear c13
                have H' := Aside0.mk H
                clear H
                go_wp2
                go_roundg kj2
                case measure => have := HK1.out; have := HJ2.out; omega
                case rel => exact ⟨(x3_1), ((⟨#[]⟩ : ByteArray)), (wrap64 (x5_1 + 1)), (by first | rfl | (simp; done) | (simp [*]; done)), (by first | rfl | (simp; done) | (simp [*]; done)), H', ⟨by have := HK1.out; have := HJ2.out; omega⟩, ⟨by (with_reducible repeat (first | apply Kd.R_alloc | apply Kd.R_drewN | apply Kd.R_drew)); exact HO_3.out⟩, ⟨by repeat (first | (with_reducible first | exact HB.out | apply below_alloc | apply pw_below_drewN | apply below_drew1) | exact HB.out)⟩⟩
              · rw [if_neg c13] at H
                have c13b0 : (x4_1.toList == ([] : List UInt8)) = false := beq_eq_false_iff_ne.mpr c13
                have c13b1 : (x4_1.toList != ([] : List UInt8)) = true := bne_iff_ne.mpr c13
                have c13b2 : x4_1.toList.isEmpty = false := by simpa using c13
                by_cases c14 : x3_1.length < 8796093022208
                · rw [if_pos c14] at H
                  have LMc14 := Aside0.mk c14
                  clear c14
                  obtain ⟨y207, hy207⟩ : ∃ y_ : List ByteArray, y_ = (x3_1 ++ [x4_1]) := ⟨_, rfl⟩
                  replace H : (rubricref1_Words.l0 kj2 a0 y207 (⟨#[]⟩ : ByteArray) (wrap64 (x5_1 + 1))) = some r := by first | (rw [hy207]; with_reducible exact H) | (have H2_ := (Option.bind_some _ _).symm.trans H; rw [hy207]; with_reducible exact H2_) | (have H2_ := (Option.bind_some _ _).symm.trans H; with_reducible exact H2_) | with_reducible exact H | (rw [hy207]; exact H) | exact H
                  have Ny207 := Aside0.mk hy207
                  clear hy207
                  have H' := Aside0.mk H
                  clear H
                  go_wp2_with (first | ((with_reducible refine gate_builtin (b := .append) (xs := #[.tmp 33, .tmp 35]) rfl ?_); at_builtin; refine Kd.R_append Kd.string (w0 := w) w.heap.size rfl (.tmp 33) (.tmp 35) 25 9 (.string ⟨#[]⟩) 16 rfl Try.underlying25 info9 rfl (by decide) (by omega) u3 x3_1 x4_1 [.string x4_1] (fun _ => True) (fun _ => False) rfl rfl ?aP (fun _ hk => hk.elim) ?aF ?aO ?aB ?aS ?aL ?_; (case aP => exact rfl); (case aB => exact (by repeat (first | (with_reducible first | exact HB.out | apply below_alloc | apply pw_below_drewN | apply below_drew1) | exact HB.out))); (case aF => exact (fun _ _ => trivial)); (case aO => exact (by (with_reducible repeat (first | apply Kd.R_alloc | apply Kd.R_drewN | apply Kd.R_drew)); exact HO_3.out)); (case aS => exact (below_size (by repeat (first | (with_reducible first | exact HB.out | apply below_alloc | apply pw_below_drewN | apply below_drew1) | exact HB.out)))); (case aL => have := LMc14.out; omega); intro v208 w15 ho hb hg hat; rw [← Ny207.out] at ho; have n0_ := Aside0.mk (hb); have n1_ := Aside0.mk (ho); clear HB; clear HO_3; have HB := n0_; have HO209 := n1_; clear n0_ n1_; clear ho hb hg hat))
                  go_roundg kj2
                  case measure => have := HK1.out; have := HJ2.out; omega
                  case rel => exact ⟨(y207), ((⟨#[]⟩ : ByteArray)), (wrap64 (x5_1 + 1)), (by first | rfl | (simp; done) | (simp [*]; done)), (by first | rfl | (simp; done) | (simp [*]; done)), H', ⟨by have := HK1.out; have := HJ2.out; omega⟩, ⟨by (with_reducible repeat (first | apply Kd.R_alloc | apply Kd.R_drewN | apply Kd.R_drew)); exact HO209.out⟩, ⟨by repeat (first | (with_reducible first | exact HB.out | apply below_alloc | apply pw_below_drewN | apply below_drew1) | exact HB.out)⟩⟩
                · rw [if_neg c14] at H
                  exact absurd H (by simp)
      · rw [if_neg c2] at H
        have c2b0 : decide (x5_1 ≤ (a0.size : Int)) = false := decide_eq_false c2
        clear c2
        obtain rfl := Option.some.inj H
        go_wp2
        go_ret
        exact ⟨_, by first | rfl | (simp [errW_none, errW_some] <;> rfl) | (simp [*, errW_none, errW_some] <;> rfl), by (with_reducible repeat (first | apply Kd.R_alloc | apply Kd.R_drewN | apply Kd.R_drew)); exact HO_3.out, by repeat (first | (with_reducible first | exact HB.out | apply below_alloc | apply pw_below_drewN | apply below_drew1) | exact HB.out)⟩

/-! ### rubricref1_Space0: function 21 -/
mutual
def rubricref1_Space0.l0 : Nat → List Int → Int → Option (ByteArray)
  | 0, _, _ => none
  | k + 1, x5, x6 => if x6 < (x5.length : Int) then (if 0 ≤ x6 then ((rubricref1_White.f (wrap64 (rd x5 x6))).bind fun t214 => (if t214 = true then (none) else (rubricref1_Space0.l0 k x5 (wrap64 (x6 + 1))))) else (none)) else (some (strOfNums x5))
def rubricref1_Space0.l1 : Nat → List ByteArray → ByteArray → Int → Option (ByteArray)
  | 0, _, _, _ => none
  | k + 1, x7, x8, x9 => if x9 < (x7.length : Int) then (if x9 > 0 then (if x8.size + 1 ≤ 9223372036854775807 then (if 0 ≤ x9 then (if (x8 ++ (⟨#[32]⟩ : ByteArray)).size + (rdOf ByteArray.empty x7 x9).size ≤ 9223372036854775807 then (rubricref1_Space0.l1 k x7 ((x8 ++ (⟨#[32]⟩ : ByteArray)) ++ (rdOf ByteArray.empty x7 x9)) (wrap64 (x9 + 1))) else (none)) else (none)) else (none)) else (if 0 ≤ x9 then (if x8.size + (rdOf ByteArray.empty x7 x9).size ≤ 9223372036854775807 then (rubricref1_Space0.l1 k x7 (x8 ++ (rdOf ByteArray.empty x7 x9)) (wrap64 (x9 + 1))) else (none)) else (none))) else (some x8)
end
def rubricref1_Space0.f (k : Nat) (a0 : ByteArray) (a1 : Int) : Option (ByteArray) := if a1 = 2 then ((conv_bytes.f a0).bind fun t210 => (rubricref1_Space0.l0 k t210 0)) else (if a1 = 3 then ((rubricref1_Words.f k a0).bind fun t215 => (rubricref1_Space0.l1 k t215 (⟨#[]⟩ : ByteArray) 0)) else (some a0))
theorem rubricref1_Space0.mono_l : ∀ k, (∀ y0 y1, LeO (rubricref1_Space0.l0 k y0 y1) (rubricref1_Space0.l0 (k + 1) y0 y1)) ∧ (∀ y0 y1 y2, LeO (rubricref1_Space0.l1 k y0 y1 y2) (rubricref1_Space0.l1 (k + 1) y0 y1 y2))
  | 0 => ⟨fun _ _ r h => by simp [rubricref1_Space0.l0] at h, fun _ _ _ r h => by simp [rubricref1_Space0.l1] at h⟩
  | k + 1 => by
    obtain ⟨ih0, ih1⟩ := rubricref1_Space0.mono_l k
    refine ⟨?_, ?_⟩
    · intro y0 y1
      unfold rubricref1_Space0.l0
      repeat' first
      | (with_reducible exact ih0 _ _)
      | (with_reducible exact ih1 _ _ _)
      | (with_reducible exact rubricref1_Words.mono _ _)
      | (with_reducible exact LeO.refl _)
      | (with_reducible exact LeO.none _)
      | (with_reducible refine LeO.ite ?_ ?_)
      | (with_reducible refine LeO.bind ?_ (fun _ => ?_))
      | exact ih0 _ _
      | exact ih1 _ _ _
      | exact rubricref1_Words.mono _ _
      | exact LeO.none _
      | refine LeO.ite ?_ ?_
      | refine LeO.bind ?_ (fun _ => ?_)
    · intro y0 y1 y2
      unfold rubricref1_Space0.l1
      repeat' first
      | (with_reducible exact ih0 _ _)
      | (with_reducible exact ih1 _ _ _)
      | (with_reducible exact rubricref1_Words.mono _ _)
      | (with_reducible exact LeO.refl _)
      | (with_reducible exact LeO.none _)
      | (with_reducible refine LeO.ite ?_ ?_)
      | (with_reducible refine LeO.bind ?_ (fun _ => ?_))
      | exact ih0 _ _
      | exact ih1 _ _ _
      | exact rubricref1_Words.mono _ _
      | exact LeO.none _
      | refine LeO.ite ?_ ?_
      | refine LeO.bind ?_ (fun _ => ?_)
theorem rubricref1_Space0.mono : ∀ a0 a1 k, LeO (rubricref1_Space0.f k a0 a1) (rubricref1_Space0.f (k + 1) a0 a1) := by
  intro a0 a1 k
  obtain ⟨ih0, ih1⟩ := rubricref1_Space0.mono_l k
  unfold rubricref1_Space0.f
  repeat' first
      | (with_reducible exact ih0 _ _)
      | (with_reducible exact ih1 _ _ _)
      | (with_reducible exact rubricref1_Words.mono _ _)
      | (with_reducible exact LeO.refl _)
      | (with_reducible exact LeO.none _)
      | (with_reducible refine LeO.ite ?_ ?_)
      | (with_reducible refine LeO.bind ?_ (fun _ => ?_))
      | exact ih0 _ _
      | exact ih1 _ _ _
      | exact rubricref1_Words.mono _ _
      | exact LeO.none _
      | refine LeO.ite ?_ ?_
      | refine LeO.bind ?_ (fun _ => ?_)
set_option maxHeartbeats 8000000 in
set_option maxRecDepth 100000 in
theorem rubricref1_Space0.calls (k : Nat) (a0 : ByteArray) (a1 : Int) (r : ByteArray) (w : World) (h : rubricref1_Space0.f k a0 a1 = some r) :
    Calls Try.prog 21 #[.string a0, .int .i64 a1] w fun e w' => e = .returned (.string r) ∧ Below w.heap.size w w' := by
  have HB := Aside0.mk (Below.refl w.heap.size w)
  have H : (if a1 = 2 then ((conv_bytes.f a0).bind fun t210 => (rubricref1_Space0.l0 k t210 0)) else (if a1 = 3 then ((rubricref1_Words.f k a0).bind fun t215 => (rubricref1_Space0.l1 k t215 (⟨#[]⟩ : ByteArray) 0)) else (some a0))) = some r := h
  clear h
  by_cases c3 : a1 = 2
  · rw [if_pos c3] at H
    have c3b0 : (a1 == 2) = true := beq_iff_eq.mpr c3
    have c3b1 : (a1 != 2) = false := bne_eq_false_iff_eq.mpr c3
    clear c3
    replace H := Option.bind_eq_some_iff.mp H
    obtain ⟨t210, A40, H⟩ := H
    replace H : (rubricref1_Space0.l0 k t210 0) = some r := H
    have A4 := Aside0.mk A40
    clear A40
    have H' := Aside0.mk H
    clear H
    go_enter Try.func21, Try.ntmps21
    go_wp2_with (first | ((with_reducible refine conv_bytes.gate (src := 9) (dst := 32) rfl ?_); refine conv_bytes.step 9 32 5 Try.underlying9 Try.underlying32 Try.underlying5 (some 14) rfl rfl rfl a0 t210 rfl A4.out ?_; rintro e w5 ⟨v211, rfl, ho0, hb⟩; refine ⟨_, rfl, ?_⟩; have n0_ := Aside0.mk (Kd.V_lower (Kd.V_mono (ok' := fun k_ => True) ho0 (fun k_ hk_ => trivial)) (below_size (by repeat (first | (with_reducible first | exact HB.out | apply below_alloc | apply pw_below_drewN | apply below_drew1) | exact HB.out)))); have n1_ := Aside0.mk (below_step (by repeat (first | (with_reducible first | exact HB.out | apply below_alloc | apply pw_below_drewN | apply below_drew1) | exact HB.out)) hb); clear HB; have HO212 := n0_; have HB := n1_; clear n0_ n1_; (try clear hb); (try clear hb2); (try clear hk); (try clear hi); (try clear ho0)))
    go_loopg [6] k (fun kq v6 w' => ∃ (x5_1 : List Int) (x6_1 : Int), v6 = .int .i64 x6_1 ∧ Aside0 (rubricref1_Space0.l0 kq x5_1 x6_1 = some r) ∧ Aside0 (kq ≤ k) ∧ Aside0 (Kd.V (Kd.int .u8) 5 w' w.heap.size (fun _ => True) v211 x5_1) ∧ Aside0 (Below w.heap.size w w'))
    case atStart => exact ⟨(t210), (0), (by first | rfl | (simp; done) | (simp [*]; done)), H', ⟨Nat.le_refl _⟩, ⟨by (with_reducible repeat (first | apply Kd.V_alloc | apply Kd.V_drewN | apply Kd.V_drew)); exact HO212.out⟩, ⟨by repeat (first | (with_reducible first | exact HB.out | apply below_alloc | apply pw_below_drewN | apply below_drew1) | exact HB.out)⟩⟩
    case round =>
      clear H'
      try clear c2
      try clear p2
      try clear c3
      try clear c3b0
      try clear c3b1
      obtain ⟨x5_1, x6_1, rfl, HA, HK1, HO_5, HB⟩ := hrel
      cases gk with
      | zero => exact absurd HA.out (by simp [rubricref1_Space0.l0])
      | succ k1 =>
        have H := HA.out
        clear HA
        simp only [rubricref1_Space0.l0] at H
        by_cases c6 : x6_1 < (x5_1.length : Int)
        · rw [if_pos c6] at H
          have c6b0 : decide (x6_1 < (x5_1.length : Int)) = true := decide_eq_true c6
          clear c6
          by_cases c7 : 0 ≤ x6_1
          · rw [if_pos c7] at H
            have c7b0 : decide (0 ≤ x6_1) = true := decide_eq_true c7
            clear c7
            replace H := Option.bind_eq_some_iff.mp H
            obtain ⟨t214, A80, H⟩ := H
            replace H : (if t214 = true then (none) else (rubricref1_Space0.l0 k1 x5_1 (wrap64 (x6_1 + 1)))) = some r := H
            have A8 := Aside0.mk A80
            clear A80
            by_cases c9 : t214 = true
            · subst c9
              have H1 : (none) = some r := by rw [if_pos rfl] at H; exact H
              clear H
              have H := H1
              clear H1
              exact absurd H (by simp)
            · replace c9 := Bool.eq_false_iff.mpr c9
              subst c9
              have H1 : (rubricref1_Space0.l0 k1 x5_1 (wrap64 (x6_1 + 1))) = some r := by rw [if_neg (show ¬ (false = true) by decide)] at H; exact H
              clear H
              have H := H1
              clear H1
              have H' := Aside0.mk H
              clear H
              obtain ⟨Ao10, co10, eo10⟩ := Kd.V_slice HO_5.out
              subst eo10
              have p213 : 0 ≤ (x6_1 : Int) := of_decide_eq_true (by first | (with_reducible assumption) | assumption)
              have q213 : x6_1 < (x5_1.length : Int) := of_decide_eq_true (by first | (with_reducible assumption) | assumption)
              obtain ⟨ad213, e213, hx213_0⟩ := Kd.at_int (Kd.V_reads' HO_5.out).2.2 x6_1 p213 q213
              cases e213
              replace p213 := eq_true p213
              replace q213 := eq_true q213
              go_wp2_with (first | ((with_reducible refine gate_callee (f := 38) rfl ?_); refine goesL_ (some 26) rfl rfl Try.func38 (by kernel_rfl) rfl #[.int .i64 (wrap64 (rd x5_1 x6_1))] rfl (by (try simp only [List.map_toArray, List.map_cons, List.map_nil]); first | done | rfl | (simp only [List.length_drop, List.length_take]; rfl)) ?_; (with_reducible refine (rubricref1_White.calls (wrap64 (rd x5_1 x6_1)) false _ A8.out).mono ?_); rintro e w' ⟨rfl, ⟨nd, rfl⟩⟩; refine ⟨_, rfl, ?_⟩))
              go_roundg k1
              case measure => have := HK1.out; omega
              case rel => exact ⟨(x5_1), (wrap64 (x6_1 + 1)), (by first | rfl | (simp; done) | (simp [*]; done)), H', ⟨by have := HK1.out; omega⟩, ⟨by (with_reducible repeat (first | apply Kd.V_alloc | apply Kd.V_drewN | apply Kd.V_drew)); exact HO_5.out⟩, ⟨by repeat (first | (with_reducible first | exact HB.out | apply below_alloc | apply pw_below_drewN | apply below_drew1) | exact HB.out)⟩⟩
          · rw [if_neg c7] at H
            exact absurd H (by simp)
        · rw [if_neg c6] at H
          have c6b0 : decide (x6_1 < (x5_1.length : Int)) = false := decide_eq_false c6
          clear c6
          obtain rfl := Option.some.inj H
          obtain ⟨Ao11, co11, eo11⟩ := Kd.V_slice HO_5.out
          subst eo11
          have hcv12 := Kd.C_string (P := Try.prog) (A := Ao11) (c := co11) Try.underlying32 Try.underlying5 Try.underlying9 (Kd.V_reads' HO_5.out).2.2
          go_wp2
          go_ret
          exact ⟨by first | rfl | (simp [errW_none, errW_some] <;> rfl) | (simp [*, errW_none, errW_some] <;> rfl), by repeat (first | (with_reducible first | exact HB.out | apply below_alloc | apply pw_below_drewN | apply below_drew1) | exact HB.out)⟩
  · rw [if_neg c3] at H
    have c3b0 : (a1 == 2) = false := beq_eq_false_iff_ne.mpr c3
    have c3b1 : (a1 != 2) = true := bne_iff_ne.mpr c3
    by_cases c13 : a1 = 3
    · rw [if_pos c13] at H
      have c13b0 : (a1 == 3) = true := beq_iff_eq.mpr c13
      have c13b1 : (a1 != 3) = false := bne_eq_false_iff_eq.mpr c13
      clear c13
      replace H := Option.bind_eq_some_iff.mp H
      obtain ⟨t215, A140, H⟩ := H
      replace H : (rubricref1_Space0.l1 k t215 (⟨#[]⟩ : ByteArray) 0) = some r := H
      have A14 := Aside0.mk A140
      clear A140
      have H' := Aside0.mk H
      clear H
      go_enter Try.func21, Try.ntmps21
      go_wp2_with (first | ((with_reducible refine gate_callee (f := 22) rfl ?_); refine goesL_ (some 35) rfl rfl Try.func22 (by kernel_rfl) rfl #[.string a0] rfl (by (try simp only [List.map_toArray, List.map_cons, List.map_nil]); first | done | rfl | (simp only [List.length_drop, List.length_take]; rfl)) ?_; (with_reducible refine (rubricref1_Words.calls k a0 t215 _ A14.out).mono ?_); rintro e w15 ⟨v216, rfl, ho0, hb⟩; refine ⟨_, rfl, ?_⟩; have n0_ := Aside0.mk (Kd.R_lower ho0 (below_size (by repeat (first | (with_reducible first | exact HB.out | apply below_alloc | apply pw_below_drewN | apply below_drew1) | exact HB.out)))); have n1_ := Aside0.mk (below_step (by repeat (first | (with_reducible first | exact HB.out | apply below_alloc | apply pw_below_drewN | apply below_drew1) | exact HB.out)) hb); clear HB; have HO217 := n0_; have HB := n1_; clear n0_ n1_; (try clear hb); (try clear hb2); (try clear hk); (try clear hi); (try clear ho0)))
      go_loopg [8, 9] k (fun kq v8 v9 w' => ∃ (x8_1 : ByteArray) (x9_1 : Int), v8 = .string x8_1 ∧ v9 = .int .i64 x9_1 ∧ Aside0 (rubricref1_Space0.l1 kq t215 x8_1 x9_1 = some r) ∧ Aside0 (kq ≤ k) ∧ Aside0 (Kd.R Kd.string 9 w' w.heap.size (fun _ => True) v216 t215) ∧ Aside0 (Below w.heap.size w w'))
      case atStart => exact ⟨((⟨#[]⟩ : ByteArray)), (0), (by first | rfl | (simp; done) | (simp [*]; done)), (by first | rfl | (simp; done) | (simp [*]; done)), H', ⟨Nat.le_refl _⟩, ⟨by (with_reducible repeat (first | apply Kd.R_alloc | apply Kd.R_drewN | apply Kd.R_drew)); exact HO217.out⟩, ⟨by repeat (first | (with_reducible first | exact HB.out | apply below_alloc | apply pw_below_drewN | apply below_drew1) | exact HB.out)⟩⟩
      case round =>
        clear H'
        try clear c1
        try clear hcv1
        try clear c2
        try clear p2
        try clear q2
        try clear hx2
        try clear c3
        try clear c3b0
        try clear c3b1
        try clear c6
        try clear c6b0
        try clear p6
        try clear c7
        try clear c7b0
        try clear c9
        try clear hcv12
        try clear c13
        try clear c13b0
        try clear c13b1
        try clear hx213_0
        try clear p2
        try clear p213
        try clear q213
        obtain ⟨x8_1, x9_1, rfl, rfl, HA, HK1, HO_7, HB⟩ := hrel
        cases gk with
        | zero => exact absurd HA.out (by simp [rubricref1_Space0.l1])
        | succ k1 =>
          have H := HA.out
          clear HA
          simp only [rubricref1_Space0.l1] at H
          by_cases c16 : x9_1 < (t215.length : Int)
          · rw [if_pos c16] at H
            have c16b0 : decide (x9_1 < (t215.length : Int)) = true := decide_eq_true c16
            clear c16
            by_cases c17 : x9_1 > 0
            · rw [if_pos c17] at H
              have c17b0 : decide (0 < x9_1) = true := decide_eq_true c17
              clear c17
              by_cases c18 : x8_1.size + 1 ≤ 9223372036854775807
              · rw [if_pos c18] at H
                have c18b0 := eq_true c18
                have c18b1 : decide (x8_1.size + 1 ≤ 9223372036854775807) = true := decide_eq_true c18
                try have c18b2 : (9223372036854775807 < x8_1.size + 1) = False := eq_false (Nat.not_lt.2 c18)
                by_cases c19 : 0 ≤ x9_1
                · rw [if_pos c19] at H
                  have c19b0 : decide (0 ≤ x9_1) = true := decide_eq_true c19
                  clear c19
                  by_cases c20 : (x8_1 ++ (⟨#[32]⟩ : ByteArray)).size + (rdOf ByteArray.empty t215 x9_1).size ≤ 9223372036854775807
                  · rw [if_pos c20] at H
                    have c20b0 := eq_true c20
                    have c20b1 : decide ((x8_1 ++ (⟨#[32]⟩ : ByteArray)).size + (rdOf ByteArray.empty t215 x9_1).size ≤ 9223372036854775807) = true := decide_eq_true c20
                    try have c20b2 : (9223372036854775807 < (x8_1 ++ (⟨#[32]⟩ : ByteArray)).size + (rdOf ByteArray.empty t215 x9_1).size) = False := eq_false (Nat.not_lt.2 c20)
                    have H' := Aside0.mk H
                    clear H
                    obtain ⟨Ao21, co21, eo21⟩ := Kd.R_slice HO_7.out
                    subst eo21
                    have p218 : 0 ≤ (x9_1 : Int) := of_decide_eq_true (by first | (with_reducible assumption) | assumption)
                    have q218 : x9_1 < (t215.length : Int) := of_decide_eq_true (by first | (with_reducible assumption) | assumption)
                    obtain ⟨ad218, e218, hx218_0⟩ := Kd.at_string (Kd.R_reads' HO_7.out).2.2 x9_1 p218 q218
                    cases e218
                    replace p218 := eq_true p218
                    replace q218 := eq_true q218
                    go_wp2
                    go_roundg k1
                    case measure => have := HK1.out; omega
                    case rel => exact ⟨((x8_1 ++ (⟨#[32]⟩ : ByteArray)) ++ (rdOf ByteArray.empty t215 x9_1)), (wrap64 (x9_1 + 1)), (by first | rfl | (simp; done) | (simp [*]; done)), (by first | rfl | (simp; done) | (simp [*]; done)), H', ⟨by have := HK1.out; omega⟩, ⟨by (with_reducible repeat (first | apply Kd.R_alloc | apply Kd.R_drewN | apply Kd.R_drew)); exact HO_7.out⟩, ⟨by repeat (first | (with_reducible first | exact HB.out | apply below_alloc | apply pw_below_drewN | apply below_drew1) | exact HB.out)⟩⟩
                  · rw [if_neg c20] at H
                    exact absurd H (by simp)
                · rw [if_neg c19] at H
                  exact absurd H (by simp)
              · rw [if_neg c18] at H
                exact absurd H (by simp)
            · rw [if_neg c17] at H
              have c17b0 : decide (0 < x9_1) = false := decide_eq_false c17
              clear c17
              by_cases c22 : 0 ≤ x9_1
              · rw [if_pos c22] at H
                have c22b0 : decide (0 ≤ x9_1) = true := decide_eq_true c22
                clear c22
                by_cases c23 : x8_1.size + (rdOf ByteArray.empty t215 x9_1).size ≤ 9223372036854775807
                · rw [if_pos c23] at H
                  have c23b0 := eq_true c23
                  have c23b1 : decide (x8_1.size + (rdOf ByteArray.empty t215 x9_1).size ≤ 9223372036854775807) = true := decide_eq_true c23
                  try have c23b2 : (9223372036854775807 < x8_1.size + (rdOf ByteArray.empty t215 x9_1).size) = False := eq_false (Nat.not_lt.2 c23)
                  have H' := Aside0.mk H
                  clear H
                  obtain ⟨Ao24, co24, eo24⟩ := Kd.R_slice HO_7.out
                  subst eo24
                  have p219 : 0 ≤ (x9_1 : Int) := of_decide_eq_true (by first | (with_reducible assumption) | assumption)
                  have q219 : x9_1 < (t215.length : Int) := of_decide_eq_true (by first | (with_reducible assumption) | assumption)
                  obtain ⟨ad219, e219, hx219_0⟩ := Kd.at_string (Kd.R_reads' HO_7.out).2.2 x9_1 p219 q219
                  cases e219
                  replace p219 := eq_true p219
                  replace q219 := eq_true q219
                  go_wp2
                  go_roundg k1
                  case measure => have := HK1.out; omega
                  case rel => exact ⟨(x8_1 ++ (rdOf ByteArray.empty t215 x9_1)), (wrap64 (x9_1 + 1)), (by first | rfl | (simp; done) | (simp [*]; done)), (by first | rfl | (simp; done) | (simp [*]; done)), H', ⟨by have := HK1.out; omega⟩, ⟨by (with_reducible repeat (first | apply Kd.R_alloc | apply Kd.R_drewN | apply Kd.R_drew)); exact HO_7.out⟩, ⟨by repeat (first | (with_reducible first | exact HB.out | apply below_alloc | apply pw_below_drewN | apply below_drew1) | exact HB.out)⟩⟩
                · rw [if_neg c23] at H
                  exact absurd H (by simp)
              · rw [if_neg c22] at H
                exact absurd H (by simp)
          · rw [if_neg c16] at H
            have c16b0 : decide (x9_1 < (t215.length : Int)) = false := decide_eq_false c16
            clear c16
            obtain rfl := Option.some.inj H
            obtain ⟨Ao25, co25, eo25⟩ := Kd.R_slice HO_7.out
            subst eo25
            go_wp2
            go_ret
            exact ⟨by first | rfl | (simp [errW_none, errW_some] <;> rfl) | (simp [*, errW_none, errW_some] <;> rfl), by repeat (first | (with_reducible first | exact HB.out | apply below_alloc | apply pw_below_drewN | apply below_drew1) | exact HB.out)⟩
    · rw [if_neg c13] at H
      have c13b0 : (a1 == 3) = false := beq_eq_false_iff_ne.mpr c13
      have c13b1 : (a1 != 3) = true := bne_iff_ne.mpr c13
      obtain rfl := Option.some.inj H
      go_enter Try.func21, Try.ntmps21
      go_wp2
      go_ret
      exact ⟨by first | rfl | (simp [errW_none, errW_some] <;> rfl) | (simp [*, errW_none, errW_some] <;> rfl), by repeat (first | (with_reducible first | exact HB.out | apply below_alloc | apply pw_below_drewN | apply below_drew1) | exact HB.out)⟩

/-! ### rubricref1_Space: function 21 -/
def rubricref1_Space.f (k : Nat) (a0 : ByteArray) (a1 : Int) : Option ByteArray :=
  if a1 = 2 then (if a0.size < 140737488355328 then some (strOfNums (repS (bytesOf a0))) else none) else rubricref1_Space0.f k a0 a1
theorem rubricref1_Space.mono : ∀ a0 a1 k, LeO (rubricref1_Space.f k a0 a1) (rubricref1_Space.f (k + 1) a0 a1) := by
  intro a0 a1 k
  unfold rubricref1_Space.f
  repeat' first
      | (with_reducible exact rubricref1_Space0.mono _ _ _)
      | (with_reducible exact LeO.refl _)
      | (with_reducible refine LeO.ite ?_ ?_)
theorem rwhite_some (x : Int) (h : 0 ≤ x) (h' : x < 256) : rubricref1_White.f (wrap64 x) = some (decide (x = 32 ∨ x = 9 ∨ x = 10 ∨ x = 13)) := by
  have e : wrap64 x = x := by unfold wrap64; omega
  rw [e]
  unfold rubricref1_White.f
  by_cases h1 : x = 32
  · simp [h1]
  by_cases h2 : x = 9
  · simp [h2]
  by_cases h3 : x = 10
  · simp [h3]
  by_cases h4 : x = 13
  · simp [h4]
  · simp [h1, h2, h3, h4]
set_option maxHeartbeats 3200000 in
set_option maxRecDepth 100000 in
theorem rspace_rep (a0 : ByteArray) (w : World) (hz : a0.size < 140737488355328) :
    Calls Try.prog 21 #[.string a0, .int .i64 2] w fun e w' => e = .returned (.string (strOfNums (repS (bytesOf a0)))) ∧ Below w.heap.size w w' := by
  have kb := fun W => print_bytes (P := Try.prog) 9 32 5 Try.underlying9 Try.underlying32 Try.underlying5 a0 W
  go_enter Try.func21, Try.ntmps21
  go_wp2
  have hr0 := Aside0.mk (bytes_repAt w a0)
  have hb0 := Aside0.mk (bytes_below (Below.refl w.heap.size w) (Nat.le_refl _) 5 a0)
  have hbl := Aside0.mk (bytesOf_length a0)
  go_loopw [6] (fun v wr => ∃ i : Nat, i ≤ a0.size ∧ v = .int .i64 i ∧ Aside0 (RepAt w.heap.size (bytesOf a0) i wr) ∧ Aside0 (Below w.heap.size w wr)) (fun v _ => a0.size - (intOf v).toNat)
  case atStart => exact ⟨0, Nat.zero_le _, rfl, hr0, hb0⟩
  case round =>
    clear hr0 hb0 kb
    obtain ⟨i, hi, rfl, HR, HB⟩ := hrel
    by_cases hlt : i < a0.size
    · have hx : wr.cell? ⟨w.heap.size, i, none⟩ = some (.int .u8 (rd (bytesOf a0) i)) ∧ wr.frozen? ⟨w.heap.size, i, none⟩ = false := by
        have := HR.out i (by rw [hbl.out]; exact hlt)
        rwa [repT_at _ _ (by rw [hbl.out]; exact hlt)] at this
      obtain ⟨hx1, hx2⟩ := hx
      have hbd := bytesOf_rd a0 i
      have hw := Aside0.mk (rwhite_some (rd (bytesOf a0) i) hbd.1 hbd.2)
      obtain ⟨x, hxe⟩ : ∃ x, rd (bytesOf a0) i = x := ⟨_, rfl⟩
      rw [hxe] at hx1 hw
      have HX := Aside0.mk hxe
      clear hxe hbd
      by_cases hn : x = 32 ∨ x = 9 ∨ x = 10 ∨ x = 13
      · have hw' : Aside0 (rubricref1_White.f (wrap64 x) = some true) := ⟨by rw [hw.out]; simp [hn]⟩
        clear hw
        have HN := Aside0.mk hn
        clear hn
        go_wp2_with (go_at_call 38; (with_reducible refine (rubricref1_White.calls _ true _ hw'.out).mono ?_); rintro e w' ⟨rfl, ⟨nd, rfl⟩⟩)
        go_roundw
        case rel => exact ⟨i + 1, by omega, by go_num, ⟨RepAt.put (HR.out.drewN _) (by rw [hbl.out]; exact hlt) (by rw [HX.out]; exact HN.out)⟩, ⟨(pw_below_drewN HB.out _).setCell (p := ⟨w.heap.size, i, none⟩) (Nat.le_refl _) _⟩⟩
        case measure => simp [intOf]; omega
      · have hw' : Aside0 (rubricref1_White.f (wrap64 x) = some false) := ⟨by rw [hw.out]; simp [hn]⟩
        clear hw
        have HN := Aside0.mk hn
        clear hn
        go_wp2_with (go_at_call 38; (with_reducible refine (rubricref1_White.calls _ false _ hw'.out).mono ?_); rintro e w' ⟨rfl, ⟨nd, rfl⟩⟩)
        go_roundw
        case rel => exact ⟨i + 1, by omega, by go_num, ⟨(RepAt.skip HR.out (by rw [hbl.out]; exact hlt) (by rw [HX.out]; exact HN.out)).drewN _⟩, ⟨pw_below_drewN HB.out _⟩⟩
        case measure => simp [intOf]; omega
    · have hback := Aside0.mk (show (convert 32 9 (.slice (some ⟨w.heap.size, 0, none⟩) a0.size (grownCap w a0.size 0 5))).run Try.prog wr = .ok (.string (strOfNums (repS (bytesOf a0)))) wr from by
        have e : repT (bytesOf a0) i = repS (bytesOf a0) := by
          have : (bytesOf a0).length ≤ i := by rw [hbl.out]; omega
          unfold repT
          rw [List.take_of_length_le this, List.drop_eq_nil_of_le this, List.append_nil]
        refine run_convert_bytes_arg wr 32 5 Try.underlying32 Try.underlying5 w.heap.size 0 a0.size _ (repS (bytesOf a0)) (by unfold repS; rw [List.length_map, hbl.out]) (fun j hj => ?_) 9 Try.underlying9
        have := (HR.out j (by rw [hbl.out]; exact hj)).1
        rw [e, rd_nat] at this
        rw [Nat.zero_add, this, List.getD_eq_getElem?_getD])
      have hb := hback.out
      clear hback hbl HR
      go_wp2
      go_ret
      exact ⟨rfl, HB.out⟩
theorem rubricref1_Space.calls (k : Nat) (a0 : ByteArray) (a1 : Int) (r : ByteArray) (w : World) (h : rubricref1_Space.f k a0 a1 = some r) :
    Calls Try.prog 21 #[.string a0, .int .i64 a1] w fun e w' => e = .returned (.string r) ∧ Below w.heap.size w w' := by
  unfold rubricref1_Space.f at h
  by_cases h2 : a1 = 2
  · subst h2
    rw [if_pos rfl] at h
    by_cases hz : a0.size < 140737488355328
    · rw [if_pos hz] at h
      obtain rfl := Option.some.inj h
      exact rspace_rep a0 w hz
    · rw [if_neg hz] at h; exact absurd h (by simp)
  rw [if_neg h2] at h
  exact rubricref1_Space0.calls k a0 a1 r w h

end Go.Proofs.Ytjogllgkdnomiaa.PCharNames
