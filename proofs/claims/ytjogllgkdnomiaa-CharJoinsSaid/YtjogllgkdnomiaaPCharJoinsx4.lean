-- Written by a turned copy of the print (wip/print/mkprint.py): contracts proved by hand are joined in. Lean checks it.
import Derived.Test.YtjogllgkdnomiaaPCharJoinsx0
import Derived.Test.YtjogllgkdnomiaaPCharJoinsx2
import Derived.Test.YtjogllgkdnomiaaPCharJoinsx3
namespace Go.Proofs.Ytjogllgkdnomiaa.PCharJoins
open Go.RowKit Go.Proofs.YtjogllgkdnomiaaW.PrintWords Go.Proofs.YtjogllgkdnomiaaW.PrintLast Go.Proofs.YtjogllgkdnomiaaW.PrintMore
attribute [local go_sem] max2_int min2_int max_two min_two max_three min_three max_four min_four   -- for this text's walks alone
set_option linter.unusedVariables false
set_option linter.unusedSimpArgs false

/-! ### char_every_char_Start_char_Part: function 41 -/
def char_every_char_Start_char_Part.l0 : Nat → ByteArray → List Int → Int → Option (Bool)
  | 0, _, _, _ => none
  | k + 1, x0, x7, x8 => if x8 < (x7.length : Int) then (if 0 ≤ x8 then (if x8 ≤ (x7.length : Int) then ((char_Decode.f (x7.drop (x8 : Int).toNat)).bind fun bt115 => (if bt115.2 = 0 then (some false) else (if x8 = 0 then ((char_Start.f k bt115.1).bind fun t117 => (if t117 = true then ((char_Part.f k bt115.1).bind fun t118 => (if t118 = true then (char_every_char_Start_char_Part.l0 k x0 x7 (wrap64 (x8 + bt115.2))) else (some false))) else (some false))) else ((char_Part.f k bt115.1).bind fun t119 => (if t119 = true then (char_every_char_Start_char_Part.l0 k x0 x7 (wrap64 (x8 + bt115.2))) else (some false)))))) else (none)) else (none)) else (some (!x0.toList.isEmpty))
def char_every_char_Start_char_Part.f (k : Nat) (a0 : ByteArray) : Option (Bool) := (conv_bytes.f a0).bind fun t107 => (char_every_char_Start_char_Part.l0 k a0 t107 0)
theorem char_every_char_Start_char_Part.mono_l : ∀ k, (∀ y0 y1 y2, LeO (char_every_char_Start_char_Part.l0 k y0 y1 y2) (char_every_char_Start_char_Part.l0 (k + 1) y0 y1 y2))
  | 0 => fun _ _ _ r h => by simp [char_every_char_Start_char_Part.l0] at h
  | k + 1 => by
    have ih0 := char_every_char_Start_char_Part.mono_l k
    · intro y0 y1 y2
      unfold char_every_char_Start_char_Part.l0
      repeat' first
      | (with_reducible exact ih0 _ _ _)
      | (with_reducible exact char_Part.mono _ _)
      | (with_reducible exact char_Start.mono _ _)
      | (with_reducible exact LeO.refl _)
      | (with_reducible exact LeO.none _)
      | (with_reducible refine LeO.ite ?_ ?_)
      | (with_reducible refine LeO.bind ?_ (fun _ => ?_))
      | exact ih0 _ _ _
      | exact char_Part.mono _ _
      | exact char_Start.mono _ _
      | exact LeO.none _
      | refine LeO.ite ?_ ?_
      | refine LeO.bind ?_ (fun _ => ?_)
theorem char_every_char_Start_char_Part.mono : ∀ a0 k, LeO (char_every_char_Start_char_Part.f k a0) (char_every_char_Start_char_Part.f (k + 1) a0) := by
  intro a0 k
  have ih0 := char_every_char_Start_char_Part.mono_l k
  unfold char_every_char_Start_char_Part.f
  repeat' first
      | (with_reducible exact ih0 _ _ _)
      | (with_reducible exact char_Part.mono _ _)
      | (with_reducible exact char_Start.mono _ _)
      | (with_reducible exact LeO.refl _)
      | (with_reducible exact LeO.none _)
      | (with_reducible refine LeO.ite ?_ ?_)
      | (with_reducible refine LeO.bind ?_ (fun _ => ?_))
      | exact ih0 _ _ _
      | exact char_Part.mono _ _
      | exact char_Start.mono _ _
      | exact LeO.none _
      | refine LeO.ite ?_ ?_
      | refine LeO.bind ?_ (fun _ => ?_)
set_option maxHeartbeats 8000000 in
set_option maxRecDepth 100000 in
theorem char_every_char_Start_char_Part.calls (k : Nat) (a0 : ByteArray) (r : Bool) (w : World) (h : char_every_char_Start_char_Part.f k a0 = some r) :
    Calls Try.prog 41 #[.string a0, .func (.func 33) #[] #[], .func (.func 35) #[] #[]] w fun e w' => e = .returned (.bool r) ∧ Below w.heap.size w w' := by
  have HB := Aside0.mk (Below.refl w.heap.size w)
  have H : ((conv_bytes.f a0).bind fun t107 => (char_every_char_Start_char_Part.l0 k a0 t107 0)) = some r := h
  clear h
  replace H := Option.bind_eq_some_iff.mp H
  obtain ⟨t107, A20, H⟩ := H
  replace H : (char_every_char_Start_char_Part.l0 k a0 t107 0) = some r := H
  have A2 := Aside0.mk A20
  clear A20
  have H' := Aside0.mk H
  clear H
  go_enter Try.func41, Try.ntmps41
  go_wp2_with (first | ((with_reducible refine conv_bytes.gate (src := 9) (dst := 32) rfl ?_); refine conv_bytes.step 9 32 5 Try.underlying9 Try.underlying32 Try.underlying5 (some 12) rfl rfl rfl a0 t107 rfl A2.out ?_; rintro e w3 ⟨v108, rfl, ho0, hb⟩; refine ⟨_, rfl, ?_⟩; have n0_ := Aside0.mk (Kd.V_lower (Kd.V_mono (ok' := fun k_ => True) ho0 (fun k_ hk_ => trivial)) (below_size (by repeat (first | (with_reducible first | exact HB.out | apply below_alloc | apply pw_below_drewN | apply below_drew1) | exact HB.out)))); have n1_ := Aside0.mk (below_step (by repeat (first | (with_reducible first | exact HB.out | apply below_alloc | apply pw_below_drewN | apply below_drew1) | exact HB.out)) hb); clear HB; have HO109 := n0_; have HB := n1_; clear n0_ n1_; (try clear hb); (try clear hb2); (try clear hk); (try clear hi); (try clear ho0)))
  go_loopg [8] k (fun kq v8 w' => ∃ (x8_1 : Int), v8 = .int .i64 x8_1 ∧ Aside0 (char_every_char_Start_char_Part.l0 kq a0 t107 x8_1 = some r) ∧ Aside0 (kq ≤ k) ∧ Aside0 (Kd.V (Kd.int .u8) 5 w' w.heap.size (fun _ => True) v108 t107) ∧ Aside0 (Below w.heap.size w w'))
  case atStart => exact ⟨(0), (by first | rfl | (simp; done) | (simp [*]; done)), H', ⟨Nat.le_refl _⟩, ⟨by (with_reducible repeat (first | apply Kd.V_alloc | apply Kd.V_drewN | apply Kd.V_drew)); exact HO109.out⟩, ⟨by repeat (first | (with_reducible first | exact HB.out | apply below_alloc | apply pw_below_drewN | apply below_drew1) | exact HB.out)⟩⟩
  case round =>
    clear H'
    try clear p2
    try clear c3
    obtain ⟨x8_1, rfl, HA, HK1, HO_7, HB⟩ := hrel
    cases gk with
    | zero => exact absurd HA.out (by simp [char_every_char_Start_char_Part.l0])
    | succ k1 =>
      have H := HA.out
      clear HA
      simp only [char_every_char_Start_char_Part.l0] at H
      by_cases c4 : x8_1 < (t107.length : Int)
      · rw [if_pos c4] at H
        have c4b0 : decide (x8_1 < (t107.length : Int)) = true := decide_eq_true c4
        clear c4
        by_cases c5 : 0 ≤ x8_1
        · rw [if_pos c5] at H
          have c5b0 := eq_true c5
          have c5b1 : decide (0 ≤ x8_1) = true := decide_eq_true c5
          clear c5
          by_cases c6 : x8_1 ≤ (t107.length : Int)
          · rw [if_pos c6] at H
            have c6b0 := eq_true c6
            have c6b1 : decide (x8_1 ≤ (t107.length : Int)) = true := decide_eq_true c6
            clear c6
            obtain ⟨y110, hy110⟩ : ∃ y_ : List Int, y_ = (t107.drop (x8_1 : Int).toNat) := ⟨_, rfl⟩
            replace H : ((char_Decode.f y110).bind fun bt115 => (if bt115.2 = 0 then (some false) else (if x8_1 = 0 then ((char_Start.f k1 bt115.1).bind fun t117 => (if t117 = true then ((char_Part.f k1 bt115.1).bind fun t118 => (if t118 = true then (char_every_char_Start_char_Part.l0 k1 a0 t107 (wrap64 (x8_1 + bt115.2))) else (some false))) else (some false))) else ((char_Part.f k1 bt115.1).bind fun t119 => (if t119 = true then (char_every_char_Start_char_Part.l0 k1 a0 t107 (wrap64 (x8_1 + bt115.2))) else (some false)))))) = some r := by first | (rw [hy110]; with_reducible exact H) | (have H2_ := (Option.bind_some _ _).symm.trans H; rw [hy110]; with_reducible exact H2_) | (have H2_ := (Option.bind_some _ _).symm.trans H; with_reducible exact H2_) | with_reducible exact H | (rw [hy110]; exact H) | exact H
            have Ny110 := Aside0.mk hy110
            clear hy110
            replace H := Option.bind_eq_some_iff.mp H
            obtain ⟨⟨t115, t116⟩, A70, H⟩ := H
            replace H : (if t116 = 0 then (some false) else (if x8_1 = 0 then ((char_Start.f k1 t115).bind fun t117 => (if t117 = true then ((char_Part.f k1 t115).bind fun t118 => (if t118 = true then (char_every_char_Start_char_Part.l0 k1 a0 t107 (wrap64 (x8_1 + t116))) else (some false))) else (some false))) else ((char_Part.f k1 t115).bind fun t119 => (if t119 = true then (char_every_char_Start_char_Part.l0 k1 a0 t107 (wrap64 (x8_1 + t116))) else (some false))))) = some r := H
            have A7 := Aside0.mk A70
            clear A70
            by_cases c8 : t116 = 0
            · rw [if_pos c8] at H
              have c8b0 : (t116 == 0) = true := beq_iff_eq.mpr c8
              have c8b1 : (t116 != 0) = false := bne_eq_false_iff_eq.mpr c8
              clear c8
              obtain rfl := Option.some.inj H
              obtain ⟨Ao9, co9, eo9⟩ := Kd.V_slice HO_7.out
              subst eo9
              have q10 : (x8_1 : Int) ≤ ((t107.length : Int) : Int) := of_decide_eq_true (by first | (with_reducible assumption) | assumption)
              obtain ⟨i010, hi010, _, hsz10, _⟩ := info_parts info5
              have hroom10 : t107.length ≤ co9 := (Kd.V_reads' HO_7.out).2.1
              have hC10 : Kd.F (Kd.int .u8) _ _ Ao9 t107.length t107 := (Kd.V_at (base := w.heap.size) HO_7.out).2.2
              have q010 : (0 : Int) ≤ (x8_1 : Int) := of_decide_eq_true (by first | (with_reducible assumption) | assumption)
              have hcut10 := cut_from (P := Try.prog) 32 5 .i64 Try.underlying32 hi010 1 hsz10 Ao9 t107.length co9 x8_1 q010 q10
              have hr10 := Kd.F_cut (m := (x8_1 : Int).toNat) (c := co9) hC10 (by omega) hroom10
              obtain ⟨A10, hA10⟩ : ∃ A1, A1 = (if co9 = (x8_1 : Int).toNat then Ao9 else (Ao9 : Option Addr).map (·.add ((x8_1 : Int).toNat * 1))) := ⟨_, rfl⟩
              obtain ⟨c10, hc10⟩ : ∃ c1, c1 = co9 - (x8_1 : Int).toNat := ⟨_, rfl⟩
              have hy10 : y110.length = t107.length - (x8_1 : Int).toNat := (by rw [Ny110.out, List.length_drop] <;> omega)
              rw [show (t107).drop (x8_1 : Int).toNat = y110 from Ny110.out.symm] at hr10
              replace hr10 : Kd.F (Kd.int .u8) _ _ A10 y110.length y110 := (by rw [hA10]; exact hr10)
              rw [← hy10, ← hA10, ← hc10] at hcut10
              have HO114 := Aside0.mk (show Kd.V (Kd.int .u8) 5 _ w.heap.size _ (.slice A10 y110.length c10) y110 from Kd.V_mk (by rw [hy10, hc10]; exact Nat.sub_le_sub_right hroom10 _) hr10)
              have HC114 := Aside0.mk (show y110.length ≤ c10 from by rw [hy10, hc10]; exact Nat.sub_le_sub_right hroom10 _)
              clear hr10 hC10 hroom10 hi010 hsz10 hc10
              have KY10 := Aside0.mk hy10
              have KA10 := Aside0.mk hA10
              clear hy10 hA10
              replace q10 := eq_true q10
              go_wp2_with (first | ((with_reducible refine gate_callee (f := 23) rfl ?_); refine goesL_ (some 21) rfl rfl Try.func23 (by kernel_rfl) rfl #[.slice A10 y110.length c10] rfl (by (try simp only [List.map_toArray, List.map_cons, List.map_nil]); first | done | rfl | (simp only [List.length_drop, List.length_take]; rfl)) ?_; (with_reducible refine (char_Decode.calls _ _ y110 t115 t116 _ ?side1 ?side2 A7.out).mono ?_); (case side1 => repeat (first | exact (Kd.V_reads' HO114.out).2.2 | (with_reducible refine Kd.C_alloc ?_ _) | (with_reducible refine Kd.C_drewN ?_ _) | (with_reducible refine Kd.C_drew ?_))); (case side2 => exact (Kd.V_reads' HO114.out).2.1); rintro e w' ⟨rfl, ⟨nd, rfl⟩⟩; refine ⟨_, rfl, ?_⟩))
              go_ret
              exact ⟨by first | rfl | (simp [errW_none, errW_some] <;> rfl) | (simp [*, errW_none, errW_some] <;> rfl), by repeat (first | (with_reducible first | exact HB.out | apply below_alloc | apply pw_below_drewN | apply below_drew1) | exact HB.out)⟩
            · rw [if_neg c8] at H
              have c8b0 : (t116 == 0) = false := beq_eq_false_iff_ne.mpr c8
              have c8b1 : (t116 != 0) = true := bne_iff_ne.mpr c8
              by_cases c11 : x8_1 = 0
              · rw [if_pos c11] at H
                have c11b0 : (x8_1 == 0) = true := beq_iff_eq.mpr c11
                have c11b1 : (x8_1 != 0) = false := bne_eq_false_iff_eq.mpr c11
                clear c11
                replace H := Option.bind_eq_some_iff.mp H
                obtain ⟨t117, A120, H⟩ := H
                replace H : (if t117 = true then ((char_Part.f k1 t115).bind fun t118 => (if t118 = true then (char_every_char_Start_char_Part.l0 k1 a0 t107 (wrap64 (x8_1 + t116))) else (some false))) else (some false)) = some r := H
                have A12 := Aside0.mk A120
                clear A120
                by_cases c13 : t117 = true
                · subst c13
                  have H1 : ((char_Part.f k1 t115).bind fun t118 => (if t118 = true then (char_every_char_Start_char_Part.l0 k1 a0 t107 (wrap64 (x8_1 + t116))) else (some false))) = some r := by rw [if_pos rfl] at H; exact H
                  clear H
                  have H := H1
                  clear H1
                  replace H := Option.bind_eq_some_iff.mp H
                  obtain ⟨t118, A140, H⟩ := H
                  replace H : (if t118 = true then (char_every_char_Start_char_Part.l0 k1 a0 t107 (wrap64 (x8_1 + t116))) else (some false)) = some r := H
                  have A14 := Aside0.mk A140
                  clear A140
                  by_cases c15 : t118 = true
                  · subst c15
                    have H1 : (char_every_char_Start_char_Part.l0 k1 a0 t107 (wrap64 (x8_1 + t116))) = some r := by rw [if_pos rfl] at H; exact H
                    clear H
                    have H := H1
                    clear H1
                    have H' := Aside0.mk H
                    clear H
                    obtain ⟨Ao16, co16, eo16⟩ := Kd.V_slice HO_7.out
                    subst eo16
                    have q17 : (x8_1 : Int) ≤ ((t107.length : Int) : Int) := of_decide_eq_true (by first | (with_reducible assumption) | assumption)
                    obtain ⟨i017, hi017, _, hsz17, _⟩ := info_parts info5
                    have hroom17 : t107.length ≤ co16 := (Kd.V_reads' HO_7.out).2.1
                    have hC17 : Kd.F (Kd.int .u8) _ _ Ao16 t107.length t107 := (Kd.V_at (base := w.heap.size) HO_7.out).2.2
                    have q017 : (0 : Int) ≤ (x8_1 : Int) := of_decide_eq_true (by first | (with_reducible assumption) | assumption)
                    have hcut17 := cut_from (P := Try.prog) 32 5 .i64 Try.underlying32 hi017 1 hsz17 Ao16 t107.length co16 x8_1 q017 q17
                    have hr17 := Kd.F_cut (m := (x8_1 : Int).toNat) (c := co16) hC17 (by omega) hroom17
                    obtain ⟨A17, hA17⟩ : ∃ A1, A1 = (if co16 = (x8_1 : Int).toNat then Ao16 else (Ao16 : Option Addr).map (·.add ((x8_1 : Int).toNat * 1))) := ⟨_, rfl⟩
                    obtain ⟨c17, hc17⟩ : ∃ c1, c1 = co16 - (x8_1 : Int).toNat := ⟨_, rfl⟩
                    have hy17 : y110.length = t107.length - (x8_1 : Int).toNat := (by rw [Ny110.out, List.length_drop] <;> omega)
                    rw [show (t107).drop (x8_1 : Int).toNat = y110 from Ny110.out.symm] at hr17
                    replace hr17 : Kd.F (Kd.int .u8) _ _ A17 y110.length y110 := (by rw [hA17]; exact hr17)
                    rw [← hy17, ← hA17, ← hc17] at hcut17
                    have HO114 := Aside0.mk (show Kd.V (Kd.int .u8) 5 _ w.heap.size _ (.slice A17 y110.length c17) y110 from Kd.V_mk (by rw [hy17, hc17]; exact Nat.sub_le_sub_right hroom17 _) hr17)
                    have HC114 := Aside0.mk (show y110.length ≤ c17 from by rw [hy17, hc17]; exact Nat.sub_le_sub_right hroom17 _)
                    clear hr17 hC17 hroom17 hi017 hsz17 hc17
                    have KY17 := Aside0.mk hy17
                    have KA17 := Aside0.mk hA17
                    clear hy17 hA17
                    replace q17 := eq_true q17
                    go_wp2_with (first | ((with_reducible refine gate_callee (f := 23) rfl ?_); refine goesL_ (some 21) rfl rfl Try.func23 (by kernel_rfl) rfl #[.slice A17 y110.length c17] rfl (by (try simp only [List.map_toArray, List.map_cons, List.map_nil]); first | done | rfl | (simp only [List.length_drop, List.length_take]; rfl)) ?_; (with_reducible refine (char_Decode.calls _ _ y110 t115 t116 _ ?side1 ?side2 A7.out).mono ?_); (case side1 => repeat (first | exact (Kd.V_reads' HO114.out).2.2 | (with_reducible refine Kd.C_alloc ?_ _) | (with_reducible refine Kd.C_drewN ?_ _) | (with_reducible refine Kd.C_drew ?_))); (case side2 => exact (Kd.V_reads' HO114.out).2.1); rintro e w' ⟨rfl, ⟨nd, rfl⟩⟩; refine ⟨_, rfl, ?_⟩) | (go_at_call 33; (with_reducible refine (char_Start.calls k1 t115 true _ A12.out).mono ?_); rintro e w' ⟨rfl, ⟨nd, rfl⟩⟩) | (go_at_call 35; (with_reducible refine (char_Part.calls k1 t115 true _ A14.out).mono ?_); rintro e w' ⟨rfl, ⟨nd, rfl⟩⟩))
                    go_roundg k1
                    case measure => have := HK1.out; omega
                    case rel => exact ⟨(wrap64 (x8_1 + t116)), (by first | rfl | (simp; done) | (simp [*]; done)), H', ⟨by have := HK1.out; omega⟩, ⟨by (with_reducible repeat (first | apply Kd.V_alloc | apply Kd.V_drewN | apply Kd.V_drew)); exact HO_7.out⟩, ⟨by repeat (first | (with_reducible first | exact HB.out | apply below_alloc | apply pw_below_drewN | apply below_drew1) | exact HB.out)⟩⟩
                  · replace c15 := Bool.eq_false_iff.mpr c15
                    subst c15
                    have H1 : (some false) = some r := by rw [if_neg (show ¬ (false = true) by decide)] at H; exact H
                    clear H
                    have H := H1
                    clear H1
                    obtain rfl := Option.some.inj H
                    obtain ⟨Ao18, co18, eo18⟩ := Kd.V_slice HO_7.out
                    subst eo18
                    have q19 : (x8_1 : Int) ≤ ((t107.length : Int) : Int) := of_decide_eq_true (by first | (with_reducible assumption) | assumption)
                    obtain ⟨i019, hi019, _, hsz19, _⟩ := info_parts info5
                    have hroom19 : t107.length ≤ co18 := (Kd.V_reads' HO_7.out).2.1
                    have hC19 : Kd.F (Kd.int .u8) _ _ Ao18 t107.length t107 := (Kd.V_at (base := w.heap.size) HO_7.out).2.2
                    have q019 : (0 : Int) ≤ (x8_1 : Int) := of_decide_eq_true (by first | (with_reducible assumption) | assumption)
                    have hcut19 := cut_from (P := Try.prog) 32 5 .i64 Try.underlying32 hi019 1 hsz19 Ao18 t107.length co18 x8_1 q019 q19
                    have hr19 := Kd.F_cut (m := (x8_1 : Int).toNat) (c := co18) hC19 (by omega) hroom19
                    obtain ⟨A19, hA19⟩ : ∃ A1, A1 = (if co18 = (x8_1 : Int).toNat then Ao18 else (Ao18 : Option Addr).map (·.add ((x8_1 : Int).toNat * 1))) := ⟨_, rfl⟩
                    obtain ⟨c19, hc19⟩ : ∃ c1, c1 = co18 - (x8_1 : Int).toNat := ⟨_, rfl⟩
                    have hy19 : y110.length = t107.length - (x8_1 : Int).toNat := (by rw [Ny110.out, List.length_drop] <;> omega)
                    rw [show (t107).drop (x8_1 : Int).toNat = y110 from Ny110.out.symm] at hr19
                    replace hr19 : Kd.F (Kd.int .u8) _ _ A19 y110.length y110 := (by rw [hA19]; exact hr19)
                    rw [← hy19, ← hA19, ← hc19] at hcut19
                    have HO114 := Aside0.mk (show Kd.V (Kd.int .u8) 5 _ w.heap.size _ (.slice A19 y110.length c19) y110 from Kd.V_mk (by rw [hy19, hc19]; exact Nat.sub_le_sub_right hroom19 _) hr19)
                    have HC114 := Aside0.mk (show y110.length ≤ c19 from by rw [hy19, hc19]; exact Nat.sub_le_sub_right hroom19 _)
                    clear hr19 hC19 hroom19 hi019 hsz19 hc19
                    have KY19 := Aside0.mk hy19
                    have KA19 := Aside0.mk hA19
                    clear hy19 hA19
                    replace q19 := eq_true q19
                    go_wp2_with (first | ((with_reducible refine gate_callee (f := 23) rfl ?_); refine goesL_ (some 21) rfl rfl Try.func23 (by kernel_rfl) rfl #[.slice A19 y110.length c19] rfl (by (try simp only [List.map_toArray, List.map_cons, List.map_nil]); first | done | rfl | (simp only [List.length_drop, List.length_take]; rfl)) ?_; (with_reducible refine (char_Decode.calls _ _ y110 t115 t116 _ ?side1 ?side2 A7.out).mono ?_); (case side1 => repeat (first | exact (Kd.V_reads' HO114.out).2.2 | (with_reducible refine Kd.C_alloc ?_ _) | (with_reducible refine Kd.C_drewN ?_ _) | (with_reducible refine Kd.C_drew ?_))); (case side2 => exact (Kd.V_reads' HO114.out).2.1); rintro e w' ⟨rfl, ⟨nd, rfl⟩⟩; refine ⟨_, rfl, ?_⟩) | (go_at_call 33; (with_reducible refine (char_Start.calls k1 t115 true _ A12.out).mono ?_); rintro e w' ⟨rfl, ⟨nd, rfl⟩⟩) | (go_at_call 35; (with_reducible refine (char_Part.calls k1 t115 false _ A14.out).mono ?_); rintro e w' ⟨rfl, ⟨nd, rfl⟩⟩))
                    go_ret
                    exact ⟨by first | rfl | (simp [errW_none, errW_some] <;> rfl) | (simp [*, errW_none, errW_some] <;> rfl), by repeat (first | (with_reducible first | exact HB.out | apply below_alloc | apply pw_below_drewN | apply below_drew1) | exact HB.out)⟩
                · replace c13 := Bool.eq_false_iff.mpr c13
                  subst c13
                  have H1 : (some false) = some r := by rw [if_neg (show ¬ (false = true) by decide)] at H; exact H
                  clear H
                  have H := H1
                  clear H1
                  obtain rfl := Option.some.inj H
                  obtain ⟨Ao20, co20, eo20⟩ := Kd.V_slice HO_7.out
                  subst eo20
                  have q21 : (x8_1 : Int) ≤ ((t107.length : Int) : Int) := of_decide_eq_true (by first | (with_reducible assumption) | assumption)
                  obtain ⟨i021, hi021, _, hsz21, _⟩ := info_parts info5
                  have hroom21 : t107.length ≤ co20 := (Kd.V_reads' HO_7.out).2.1
                  have hC21 : Kd.F (Kd.int .u8) _ _ Ao20 t107.length t107 := (Kd.V_at (base := w.heap.size) HO_7.out).2.2
                  have q021 : (0 : Int) ≤ (x8_1 : Int) := of_decide_eq_true (by first | (with_reducible assumption) | assumption)
                  have hcut21 := cut_from (P := Try.prog) 32 5 .i64 Try.underlying32 hi021 1 hsz21 Ao20 t107.length co20 x8_1 q021 q21
                  have hr21 := Kd.F_cut (m := (x8_1 : Int).toNat) (c := co20) hC21 (by omega) hroom21
                  obtain ⟨A21, hA21⟩ : ∃ A1, A1 = (if co20 = (x8_1 : Int).toNat then Ao20 else (Ao20 : Option Addr).map (·.add ((x8_1 : Int).toNat * 1))) := ⟨_, rfl⟩
                  obtain ⟨c21, hc21⟩ : ∃ c1, c1 = co20 - (x8_1 : Int).toNat := ⟨_, rfl⟩
                  have hy21 : y110.length = t107.length - (x8_1 : Int).toNat := (by rw [Ny110.out, List.length_drop] <;> omega)
                  rw [show (t107).drop (x8_1 : Int).toNat = y110 from Ny110.out.symm] at hr21
                  replace hr21 : Kd.F (Kd.int .u8) _ _ A21 y110.length y110 := (by rw [hA21]; exact hr21)
                  rw [← hy21, ← hA21, ← hc21] at hcut21
                  have HO114 := Aside0.mk (show Kd.V (Kd.int .u8) 5 _ w.heap.size _ (.slice A21 y110.length c21) y110 from Kd.V_mk (by rw [hy21, hc21]; exact Nat.sub_le_sub_right hroom21 _) hr21)
                  have HC114 := Aside0.mk (show y110.length ≤ c21 from by rw [hy21, hc21]; exact Nat.sub_le_sub_right hroom21 _)
                  clear hr21 hC21 hroom21 hi021 hsz21 hc21
                  have KY21 := Aside0.mk hy21
                  have KA21 := Aside0.mk hA21
                  clear hy21 hA21
                  replace q21 := eq_true q21
                  go_wp2_with (first | ((with_reducible refine gate_callee (f := 23) rfl ?_); refine goesL_ (some 21) rfl rfl Try.func23 (by kernel_rfl) rfl #[.slice A21 y110.length c21] rfl (by (try simp only [List.map_toArray, List.map_cons, List.map_nil]); first | done | rfl | (simp only [List.length_drop, List.length_take]; rfl)) ?_; (with_reducible refine (char_Decode.calls _ _ y110 t115 t116 _ ?side1 ?side2 A7.out).mono ?_); (case side1 => repeat (first | exact (Kd.V_reads' HO114.out).2.2 | (with_reducible refine Kd.C_alloc ?_ _) | (with_reducible refine Kd.C_drewN ?_ _) | (with_reducible refine Kd.C_drew ?_))); (case side2 => exact (Kd.V_reads' HO114.out).2.1); rintro e w' ⟨rfl, ⟨nd, rfl⟩⟩; refine ⟨_, rfl, ?_⟩) | (go_at_call 33; (with_reducible refine (char_Start.calls k1 t115 false _ A12.out).mono ?_); rintro e w' ⟨rfl, ⟨nd, rfl⟩⟩))
                  go_ret
                  exact ⟨by first | rfl | (simp [errW_none, errW_some] <;> rfl) | (simp [*, errW_none, errW_some] <;> rfl), by repeat (first | (with_reducible first | exact HB.out | apply below_alloc | apply pw_below_drewN | apply below_drew1) | exact HB.out)⟩
              · rw [if_neg c11] at H
                have c11b0 : (x8_1 == 0) = false := beq_eq_false_iff_ne.mpr c11
                have c11b1 : (x8_1 != 0) = true := bne_iff_ne.mpr c11
                replace H := Option.bind_eq_some_iff.mp H
                obtain ⟨t119, A220, H⟩ := H
                replace H : (if t119 = true then (char_every_char_Start_char_Part.l0 k1 a0 t107 (wrap64 (x8_1 + t116))) else (some false)) = some r := H
                have A22 := Aside0.mk A220
                clear A220
                by_cases c23 : t119 = true
                · subst c23
                  have H1 : (char_every_char_Start_char_Part.l0 k1 a0 t107 (wrap64 (x8_1 + t116))) = some r := by rw [if_pos rfl] at H; exact H
                  clear H
                  have H := H1
                  clear H1
                  have H' := Aside0.mk H
                  clear H
                  obtain ⟨Ao24, co24, eo24⟩ := Kd.V_slice HO_7.out
                  subst eo24
                  have q25 : (x8_1 : Int) ≤ ((t107.length : Int) : Int) := of_decide_eq_true (by first | (with_reducible assumption) | assumption)
                  obtain ⟨i025, hi025, _, hsz25, _⟩ := info_parts info5
                  have hroom25 : t107.length ≤ co24 := (Kd.V_reads' HO_7.out).2.1
                  have hC25 : Kd.F (Kd.int .u8) _ _ Ao24 t107.length t107 := (Kd.V_at (base := w.heap.size) HO_7.out).2.2
                  have q025 : (0 : Int) ≤ (x8_1 : Int) := of_decide_eq_true (by first | (with_reducible assumption) | assumption)
                  have hcut25 := cut_from (P := Try.prog) 32 5 .i64 Try.underlying32 hi025 1 hsz25 Ao24 t107.length co24 x8_1 q025 q25
                  have hr25 := Kd.F_cut (m := (x8_1 : Int).toNat) (c := co24) hC25 (by omega) hroom25
                  obtain ⟨A25, hA25⟩ : ∃ A1, A1 = (if co24 = (x8_1 : Int).toNat then Ao24 else (Ao24 : Option Addr).map (·.add ((x8_1 : Int).toNat * 1))) := ⟨_, rfl⟩
                  obtain ⟨c25, hc25⟩ : ∃ c1, c1 = co24 - (x8_1 : Int).toNat := ⟨_, rfl⟩
                  have hy25 : y110.length = t107.length - (x8_1 : Int).toNat := (by rw [Ny110.out, List.length_drop] <;> omega)
                  rw [show (t107).drop (x8_1 : Int).toNat = y110 from Ny110.out.symm] at hr25
                  replace hr25 : Kd.F (Kd.int .u8) _ _ A25 y110.length y110 := (by rw [hA25]; exact hr25)
                  rw [← hy25, ← hA25, ← hc25] at hcut25
                  have HO114 := Aside0.mk (show Kd.V (Kd.int .u8) 5 _ w.heap.size _ (.slice A25 y110.length c25) y110 from Kd.V_mk (by rw [hy25, hc25]; exact Nat.sub_le_sub_right hroom25 _) hr25)
                  have HC114 := Aside0.mk (show y110.length ≤ c25 from by rw [hy25, hc25]; exact Nat.sub_le_sub_right hroom25 _)
                  clear hr25 hC25 hroom25 hi025 hsz25 hc25
                  have KY25 := Aside0.mk hy25
                  have KA25 := Aside0.mk hA25
                  clear hy25 hA25
                  replace q25 := eq_true q25
                  go_wp2_with (first | ((with_reducible refine gate_callee (f := 23) rfl ?_); refine goesL_ (some 21) rfl rfl Try.func23 (by kernel_rfl) rfl #[.slice A25 y110.length c25] rfl (by (try simp only [List.map_toArray, List.map_cons, List.map_nil]); first | done | rfl | (simp only [List.length_drop, List.length_take]; rfl)) ?_; (with_reducible refine (char_Decode.calls _ _ y110 t115 t116 _ ?side1 ?side2 A7.out).mono ?_); (case side1 => repeat (first | exact (Kd.V_reads' HO114.out).2.2 | (with_reducible refine Kd.C_alloc ?_ _) | (with_reducible refine Kd.C_drewN ?_ _) | (with_reducible refine Kd.C_drew ?_))); (case side2 => exact (Kd.V_reads' HO114.out).2.1); rintro e w' ⟨rfl, ⟨nd, rfl⟩⟩; refine ⟨_, rfl, ?_⟩) | (go_at_call 35; (with_reducible refine (char_Part.calls k1 t115 true _ A22.out).mono ?_); rintro e w' ⟨rfl, ⟨nd, rfl⟩⟩))
                  go_roundg k1
                  case measure => have := HK1.out; omega
                  case rel => exact ⟨(wrap64 (x8_1 + t116)), (by first | rfl | (simp; done) | (simp [*]; done)), H', ⟨by have := HK1.out; omega⟩, ⟨by (with_reducible repeat (first | apply Kd.V_alloc | apply Kd.V_drewN | apply Kd.V_drew)); exact HO_7.out⟩, ⟨by repeat (first | (with_reducible first | exact HB.out | apply below_alloc | apply pw_below_drewN | apply below_drew1) | exact HB.out)⟩⟩
                · replace c23 := Bool.eq_false_iff.mpr c23
                  subst c23
                  have H1 : (some false) = some r := by rw [if_neg (show ¬ (false = true) by decide)] at H; exact H
                  clear H
                  have H := H1
                  clear H1
                  obtain rfl := Option.some.inj H
                  obtain ⟨Ao26, co26, eo26⟩ := Kd.V_slice HO_7.out
                  subst eo26
                  have q27 : (x8_1 : Int) ≤ ((t107.length : Int) : Int) := of_decide_eq_true (by first | (with_reducible assumption) | assumption)
                  obtain ⟨i027, hi027, _, hsz27, _⟩ := info_parts info5
                  have hroom27 : t107.length ≤ co26 := (Kd.V_reads' HO_7.out).2.1
                  have hC27 : Kd.F (Kd.int .u8) _ _ Ao26 t107.length t107 := (Kd.V_at (base := w.heap.size) HO_7.out).2.2
                  have q027 : (0 : Int) ≤ (x8_1 : Int) := of_decide_eq_true (by first | (with_reducible assumption) | assumption)
                  have hcut27 := cut_from (P := Try.prog) 32 5 .i64 Try.underlying32 hi027 1 hsz27 Ao26 t107.length co26 x8_1 q027 q27
                  have hr27 := Kd.F_cut (m := (x8_1 : Int).toNat) (c := co26) hC27 (by omega) hroom27
                  obtain ⟨A27, hA27⟩ : ∃ A1, A1 = (if co26 = (x8_1 : Int).toNat then Ao26 else (Ao26 : Option Addr).map (·.add ((x8_1 : Int).toNat * 1))) := ⟨_, rfl⟩
                  obtain ⟨c27, hc27⟩ : ∃ c1, c1 = co26 - (x8_1 : Int).toNat := ⟨_, rfl⟩
                  have hy27 : y110.length = t107.length - (x8_1 : Int).toNat := (by rw [Ny110.out, List.length_drop] <;> omega)
                  rw [show (t107).drop (x8_1 : Int).toNat = y110 from Ny110.out.symm] at hr27
                  replace hr27 : Kd.F (Kd.int .u8) _ _ A27 y110.length y110 := (by rw [hA27]; exact hr27)
                  rw [← hy27, ← hA27, ← hc27] at hcut27
                  have HO114 := Aside0.mk (show Kd.V (Kd.int .u8) 5 _ w.heap.size _ (.slice A27 y110.length c27) y110 from Kd.V_mk (by rw [hy27, hc27]; exact Nat.sub_le_sub_right hroom27 _) hr27)
                  have HC114 := Aside0.mk (show y110.length ≤ c27 from by rw [hy27, hc27]; exact Nat.sub_le_sub_right hroom27 _)
                  clear hr27 hC27 hroom27 hi027 hsz27 hc27
                  have KY27 := Aside0.mk hy27
                  have KA27 := Aside0.mk hA27
                  clear hy27 hA27
                  replace q27 := eq_true q27
                  go_wp2_with (first | ((with_reducible refine gate_callee (f := 23) rfl ?_); refine goesL_ (some 21) rfl rfl Try.func23 (by kernel_rfl) rfl #[.slice A27 y110.length c27] rfl (by (try simp only [List.map_toArray, List.map_cons, List.map_nil]); first | done | rfl | (simp only [List.length_drop, List.length_take]; rfl)) ?_; (with_reducible refine (char_Decode.calls _ _ y110 t115 t116 _ ?side1 ?side2 A7.out).mono ?_); (case side1 => repeat (first | exact (Kd.V_reads' HO114.out).2.2 | (with_reducible refine Kd.C_alloc ?_ _) | (with_reducible refine Kd.C_drewN ?_ _) | (with_reducible refine Kd.C_drew ?_))); (case side2 => exact (Kd.V_reads' HO114.out).2.1); rintro e w' ⟨rfl, ⟨nd, rfl⟩⟩; refine ⟨_, rfl, ?_⟩) | (go_at_call 35; (with_reducible refine (char_Part.calls k1 t115 false _ A22.out).mono ?_); rintro e w' ⟨rfl, ⟨nd, rfl⟩⟩))
                  go_ret
                  exact ⟨by first | rfl | (simp [errW_none, errW_some] <;> rfl) | (simp [*, errW_none, errW_some] <;> rfl), by repeat (first | (with_reducible first | exact HB.out | apply below_alloc | apply pw_below_drewN | apply below_drew1) | exact HB.out)⟩
          · rw [if_neg c6] at H
            exact absurd H (by simp)
        · rw [if_neg c5] at H
          exact absurd H (by simp)
      · rw [if_neg c4] at H
        have c4b0 : decide (x8_1 < (t107.length : Int)) = false := decide_eq_false c4
        clear c4
        obtain rfl := Option.some.inj H
        obtain ⟨Ao28, co28, eo28⟩ := Kd.V_slice HO_7.out
        subst eo28
        go_wp2
        go_ret
        exact ⟨by first | rfl | (simp [errW_none, errW_some] <;> rfl) | (simp [*, errW_none, errW_some] <;> rfl), by repeat (first | (with_reducible first | exact HB.out | apply below_alloc | apply pw_below_drewN | apply below_drew1) | exact HB.out)⟩

/-! ### char_Name: function 15 -/
def char_Name.f (k : Nat) (a0 : ByteArray) : Option (Bool) := (char_every_char_Start_char_Part.f k a0).bind fun t120 => (some t120)
theorem char_Name.mono : ∀ a0 k, LeO (char_Name.f k a0) (char_Name.f (k + 1) a0) := by
  intro a0 k
  unfold char_Name.f
  repeat' first
      | (with_reducible exact char_every_char_Start_char_Part.mono _ _)
      | (with_reducible exact LeO.refl _)
      | (with_reducible exact LeO.none _)
      | (with_reducible refine LeO.ite ?_ ?_)
      | (with_reducible refine LeO.bind ?_ (fun _ => ?_))
      | exact char_every_char_Start_char_Part.mono _ _
      | exact LeO.none _
      | refine LeO.ite ?_ ?_
      | refine LeO.bind ?_ (fun _ => ?_)
set_option maxHeartbeats 8000000 in
set_option maxRecDepth 100000 in
theorem char_Name.calls (k : Nat) (a0 : ByteArray) (r : Bool) (w : World) (h : char_Name.f k a0 = some r) :
    Calls Try.prog 15 #[.string a0] w fun e w' => e = .returned (.bool r) ∧ Below w.heap.size w w' := by
  have HB := Aside0.mk (Below.refl w.heap.size w)
  have H : ((char_every_char_Start_char_Part.f k a0).bind fun t120 => (some t120)) = some r := h
  clear h
  replace H := Option.bind_eq_some_iff.mp H
  obtain ⟨t120, A20, H⟩ := H
  replace H : (some t120) = some r := H
  have A2 := Aside0.mk A20
  clear A20
  obtain rfl := Option.some.inj H
  go_enter Try.func15, Try.ntmps15
  go_wp2_with (first | ((with_reducible refine gate_callee (f := 41) rfl ?_); refine goesL_ (some 4) rfl rfl Try.func41 (by kernel_rfl) rfl #[.string a0, .func (.func 33) #[] #[], .func (.func 35) #[] #[]] rfl (by (try simp only [List.map_toArray, List.map_cons, List.map_nil]); first | done | rfl | (simp only [List.length_drop, List.length_take]; rfl)) ?_; (with_reducible refine (char_every_char_Start_char_Part.calls k a0 t120 _ A2.out).mono ?_); rintro e w3 ⟨rfl, hb⟩; refine ⟨_, rfl, ?_⟩; have n0_ := Aside0.mk (below_step (by repeat (first | (with_reducible first | exact HB.out | apply below_alloc | apply pw_below_drewN | apply below_drew1) | exact HB.out)) hb); clear HB; have HB := n0_; clear n0_; (try clear hb); (try clear hb2); (try clear hk); (try clear hi)))
  go_ret
  exact ⟨by first | rfl | (simp [errW_none, errW_some] <;> rfl) | (simp [*, errW_none, errW_some] <;> rfl), by repeat (first | (with_reducible first | exact HB.out | apply below_alloc | apply pw_below_drewN | apply below_drew1) | exact HB.out)⟩

-- NOT PRINTED: function 56 (bytealg_IndexByteString)

-- NOT PRINTED: function 52 (stringslite_IndexByte)

/-! ### strings_IndexByte: function 43 -/
def strings_IndexByte.f (a0 : ByteArray) (a1 : Int) : Option Int := some (Lib.indexByte a0.data.toList a1.toNat.toUInt8)
theorem strings_IndexByte.calls (a0 : ByteArray) (a1 : Int) (r : Int) (w : World) (h : strings_IndexByte.f a0 a1 = some r) :
    Calls Try.prog 43 #[.string a0, .int .u8 a1] w fun e w' => e = .returned (.int .i64 r) ∧ Drawn0 w w' := by
  obtain rfl := Option.some.inj h
  refine (Try.strings_IndexByte a0 a1 w).mono fun e w' hh => ?_
  obtain ⟨rfl, rfl⟩ := hh
  exact ⟨rfl, Drawn0.refl _⟩

/-! ### char_NCName: function 17 -/
def char_NCName.f (k : Nat) (a0 : ByteArray) : Option (Bool) := (char_Name.f k a0).bind fun t121 => (if t121 = true then ((strings_IndexByte.f a0 58).bind fun t122 => (some (decide (t122 < 0)))) else (some false))
theorem char_NCName.mono : ∀ a0 k, LeO (char_NCName.f k a0) (char_NCName.f (k + 1) a0) := by
  intro a0 k
  unfold char_NCName.f
  repeat' first
      | (with_reducible exact char_Name.mono _ _)
      | (with_reducible exact LeO.refl _)
      | (with_reducible exact LeO.none _)
      | (with_reducible refine LeO.ite ?_ ?_)
      | (with_reducible refine LeO.bind ?_ (fun _ => ?_))
      | exact char_Name.mono _ _
      | exact LeO.none _
      | refine LeO.ite ?_ ?_
      | refine LeO.bind ?_ (fun _ => ?_)
set_option maxHeartbeats 8000000 in
set_option maxRecDepth 100000 in
theorem char_NCName.calls (k : Nat) (a0 : ByteArray) (r : Bool) (w : World) (h : char_NCName.f k a0 = some r) :
    Calls Try.prog 17 #[.string a0] w fun e w' => e = .returned (.bool r) ∧ Below w.heap.size w w' := by
  have HB := Aside0.mk (Below.refl w.heap.size w)
  have H : ((char_Name.f k a0).bind fun t121 => (if t121 = true then ((strings_IndexByte.f a0 58).bind fun t122 => (some (decide (t122 < 0)))) else (some false))) = some r := h
  clear h
  replace H := Option.bind_eq_some_iff.mp H
  obtain ⟨t121, A20, H⟩ := H
  replace H : (if t121 = true then ((strings_IndexByte.f a0 58).bind fun t122 => (some (decide (t122 < 0)))) else (some false)) = some r := H
  have A2 := Aside0.mk A20
  clear A20
  by_cases c3 : t121 = true
  · subst c3
    have H1 : ((strings_IndexByte.f a0 58).bind fun t122 => (some (decide (t122 < 0)))) = some r := by rw [if_pos rfl] at H; exact H
    clear H
    have H := H1
    clear H1
    replace H := Option.bind_eq_some_iff.mp H
    obtain ⟨t122, A40, H⟩ := H
    replace H : (some (decide (t122 < 0))) = some r := H
    have A4 := Aside0.mk A40
    clear A40
    obtain rfl := Option.some.inj H
    go_enter Try.func17, Try.ntmps17
    go_wp2_with (first | ((with_reducible refine gate_callee (f := 15) rfl ?_); refine goesL_ (some 4) rfl rfl Try.func15 (by kernel_rfl) rfl #[.string a0] rfl (by (try simp only [List.map_toArray, List.map_cons, List.map_nil]); first | done | rfl | (simp only [List.length_drop, List.length_take]; rfl)) ?_; (with_reducible refine (char_Name.calls k a0 true _ A2.out).mono ?_); rintro e w5 ⟨rfl, hb⟩; refine ⟨_, rfl, ?_⟩; have n0_ := Aside0.mk (below_step (by repeat (first | (with_reducible first | exact HB.out | apply below_alloc | apply pw_below_drewN | apply below_drew1) | exact HB.out)) hb); clear HB; have HB := n0_; clear n0_; (try clear hb); (try clear hb2); (try clear hk); (try clear hi)) | (go_at_call 43; (with_reducible refine (strings_IndexByte.calls a0 58 t122 _ A4.out).mono ?_); rintro e w' ⟨rfl, ⟨nd, rfl⟩⟩))
    go_ret
    exact ⟨by first | rfl | (simp [errW_none, errW_some] <;> rfl) | (simp [*, errW_none, errW_some] <;> rfl), by repeat (first | (with_reducible first | exact HB.out | apply below_alloc | apply pw_below_drewN | apply below_drew1) | exact HB.out)⟩
  · replace c3 := Bool.eq_false_iff.mpr c3
    subst c3
    have H1 : (some false) = some r := by rw [if_neg (show ¬ (false = true) by decide)] at H; exact H
    clear H
    have H := H1
    clear H1
    obtain rfl := Option.some.inj H
    go_enter Try.func17, Try.ntmps17
    go_wp2_with (first | ((with_reducible refine gate_callee (f := 15) rfl ?_); refine goesL_ (some 4) rfl rfl Try.func15 (by kernel_rfl) rfl #[.string a0] rfl (by (try simp only [List.map_toArray, List.map_cons, List.map_nil]); first | done | rfl | (simp only [List.length_drop, List.length_take]; rfl)) ?_; (with_reducible refine (char_Name.calls k a0 false _ A2.out).mono ?_); rintro e w6 ⟨rfl, hb⟩; refine ⟨_, rfl, ?_⟩; have n0_ := Aside0.mk (below_step (by repeat (first | (with_reducible first | exact HB.out | apply below_alloc | apply pw_below_drewN | apply below_drew1) | exact HB.out)) hb); clear HB; have HB := n0_; clear n0_; (try clear hb); (try clear hb2); (try clear hk); (try clear hi)))
    go_ret
    exact ⟨by first | rfl | (simp [errW_none, errW_some] <;> rfl) | (simp [*, errW_none, errW_some] <;> rfl), by repeat (first | (with_reducible first | exact HB.out | apply below_alloc | apply pw_below_drewN | apply below_drew1) | exact HB.out)⟩

-- NOT PRINTED: function 59 (bytealg_IndexString)

-- NOT PRINTED: function 60 (bytealg_Cutover)

-- NOT PRINTED: function 62 (bytealg_hashStr_string)

-- NOT PRINTED: function 61 (bytealg_IndexRabinKarp_string)

-- NOT PRINTED: function 55 (stringslite_Index)

-- NOT PRINTED: function 51 (stringslite_Cut)

/-! ### strings_Cut: function 40 -/
/-- strings.Cut at a separator of one byte. -/
def strings_Cut.f (a0 a1 : ByteArray) : Option (ByteArray × ByteArray × Bool) :=
  if a0.size < 140737488355328 then match a1.data.toList with
  | [c] => if Lib.indexByte a0.data.toList c < 0 then some (a0, ⟨#[]⟩, false) else some (a0.extract 0 (Lib.indexByte a0.data.toList c).toNat, a0.extract ((Lib.indexByte a0.data.toList c).toNat + 1) a0.size, true)
  | _ => none
  else none
theorem indexByte_range (l : List UInt8) (c : UInt8) : -1 ≤ Lib.indexByte l c ∧ Lib.indexByte l c < l.length := by
  induction l with
  | nil => simp [Lib.indexByte]
  | cons b l ih =>
    unfold Lib.indexByte
    simp only [List.length_cons]
    split
    · omega
    · split
      · omega
      · omega
set_option maxHeartbeats 1600000 in
set_option maxRecDepth 100000 in
theorem cut_no (a0 : ByteArray) (c : UInt8) (w : World) (hi : Lib.indexByte a0.data.toList c < 0) :
    Calls Try.prog 51 #[.string a0, .string ⟨#[c]⟩] w fun e w' => e = .returned (.tuple #[.string a0, .string ⟨#[]⟩, .bool false]) ∧ Drawn0 w w' := by
  have hd : decide (Lib.indexByte a0.data.toList c ≥ 0) = false := by rw [decide_eq_false_iff_not]; omega
  go_enter Try.func51, Try.ntmps51
  go_wp2_with (go_at_call 55; (with_reducible refine (Try.stringslite_Index_one a0 c _).mono ?_); rintro e w' ⟨rfl, rfl⟩)
  go_ret3
  exact ⟨by first | rfl | (simp; done) | (simp [*]; done), by repeat (first | exact Drawn0.refl _ | apply Drawn0.step)⟩
set_option maxHeartbeats 1600000 in
set_option maxRecDepth 100000 in
theorem cut_yes (a0 : ByteArray) (c : UInt8) (i : Nat) (w : World) (hi : Lib.indexByte a0.data.toList c = i) (hs : i < a0.size) (hz : a0.size < 140737488355328) :
    Calls Try.prog 51 #[.string a0, .string ⟨#[c]⟩] w fun e w' => e = .returned (.tuple #[.string (a0.extract 0 i), .string (a0.extract (i + 1) a0.size), .bool true]) ∧ Drawn0 w w' := by
  have HI := Aside0.mk hi
  clear hi
  have c1 : (0 : Int) ≤ ↑i := by omega
  have c0 : IntKind.i64.wrap ((i : Int) + 1) = (i : Int) + 1 := IntWalk.i64_in _ (by omega)
  have c5 : ((i : Int) + 1).toNat = i + 1 := by omega
  have c2 : (↑i : Int) ≤ ↑a0.size := by omega
  have c3 : (0 : Int) ≤ ↑i + 1 := by omega
  have c4 : (↑i + 1 : Int) ≤ ↑a0.size := by omega
  go_enter Try.func51, Try.ntmps51
  go_wp2_with (go_at_call 55; (with_reducible refine (Try.stringslite_Index_one a0 c _).mono ?_); rintro e w' ⟨rfl, rfl⟩; rw [HI.out])
  go_region
  all_goals
    go_wp2
    go_ret3
    exact ⟨by first | rfl | (simp; done) | (simp [*]; done), ⟨⟨1, rfl⟩⟩⟩
theorem strings_Cut.calls (a0 : ByteArray) (a1 : ByteArray) (r1 : ByteArray) (r2 : ByteArray) (r3 : Bool) (w : World) (h : strings_Cut.f a0 a1 = some (r1, r2, r3)) :
    Calls Try.prog 40 #[.string a0, .string a1] w fun e w' => e = .returned (.tuple #[.string r1, .string r2, .bool r3]) ∧ Drawn0 w w' := by
  have key : Calls Try.prog 51 #[.string a0, .string a1] w fun e w' => e = .returned (.tuple #[.string r1, .string r2, .bool r3]) ∧ Drawn0 w w' := by
    unfold strings_Cut.f at h
    obtain ⟨⟨l1⟩⟩ := a1
    by_cases hz : a0.size < 140737488355328
    rotate_left
    · rw [if_neg hz] at h; exact absurd h (by simp)
    rw [if_pos hz] at h
    match l1, h with
    | [c], h =>
      simp only [] at h
      have hr := indexByte_range a0.data.toList c
      by_cases hi : Lib.indexByte a0.data.toList c < 0
      · rw [if_pos hi] at h
        simp only [Option.some.injEq, Prod.mk.injEq] at h
        obtain ⟨rfl, rfl, rfl⟩ := h
        exact cut_no a0 c w hi
      · rw [if_neg hi] at h
        simp only [Option.some.injEq, Prod.mk.injEq] at h
        obtain ⟨rfl, rfl, rfl⟩ := h
        obtain ⟨i, hi'⟩ : ∃ i : Nat, Lib.indexByte a0.data.toList c = i := ⟨(Lib.indexByte a0.data.toList c).toNat, by omega⟩
        rw [hi', Int.toNat_natCast]
        have hs : i < a0.size := by
          have := hr.2
          rw [hi', data_length] at this
          omega
        exact cut_yes a0 c i w hi' hs hz
  go_enter Try.func40, Try.ntmps40
  go_wp2_with fail
  refine key.mono ?_
  rintro e w' ⟨rfl, ⟨nd, rfl⟩⟩
  go_wp2
  go_ret3
  exact ⟨by first | rfl | (simp; done) | (simp [*]; done), by repeat (first | exact Drawn0.refl _ | apply Drawn0.step)⟩

/-! ### char_QName: function 13 -/
def char_QName.j0 : Nat → ByteArray → ByteArray → Bool → Option (ByteArray × ByteArray × Bool)
  | 0, _, _, _ => none
  | k + 1, x5, x6, x7 => if x7 = true then ((char_NCName.f k x5).bind fun t126 => (if t126 = true then ((char_NCName.f k x6).bind fun t127 => (if t127 = true then (some (x5, x6, true)) else (some ((⟨#[]⟩ : ByteArray), (⟨#[]⟩ : ByteArray), false)))) else (some ((⟨#[]⟩ : ByteArray), (⟨#[]⟩ : ByteArray), false)))) else ((char_NCName.f k x6).bind fun t128 => (if t128 = true then (some (x5, x6, true)) else (some ((⟨#[]⟩ : ByteArray), (⟨#[]⟩ : ByteArray), false))))
def char_QName.f (k : Nat) (a0 : ByteArray) : Option (ByteArray × ByteArray × Bool) := (strings_Cut.f a0 (⟨#[58]⟩ : ByteArray)).bind fun bt123 => (if bt123.2.2 = true then (char_QName.j0 k bt123.1 bt123.2.1 bt123.2.2) else (char_QName.j0 k (⟨#[]⟩ : ByteArray) a0 bt123.2.2))
theorem char_QName.mono_l : ∀ k, (∀ y0 y1 y2, LeO (char_QName.j0 k y0 y1 y2) (char_QName.j0 (k + 1) y0 y1 y2))
  | 0 => fun _ _ _ r h => by simp [char_QName.j0] at h
  | k + 1 => by
    have ih0 := char_QName.mono_l k
    · intro y0 y1 y2
      unfold char_QName.j0
      repeat' first
      | (with_reducible exact ih0 _ _ _)
      | (with_reducible exact char_NCName.mono _ _)
      | (with_reducible exact LeO.refl _)
      | (with_reducible exact LeO.none _)
      | (with_reducible refine LeO.ite ?_ ?_)
      | (with_reducible refine LeO.bind ?_ (fun _ => ?_))
      | exact ih0 _ _ _
      | exact char_NCName.mono _ _
      | exact LeO.none _
      | refine LeO.ite ?_ ?_
      | refine LeO.bind ?_ (fun _ => ?_)
theorem char_QName.mono : ∀ a0 k, LeO (char_QName.f k a0) (char_QName.f (k + 1) a0) := by
  intro a0 k
  have ih0 := char_QName.mono_l k
  unfold char_QName.f
  repeat' first
      | (with_reducible exact ih0 _ _ _)
      | (with_reducible exact char_NCName.mono _ _)
      | (with_reducible exact LeO.refl _)
      | (with_reducible exact LeO.none _)
      | (with_reducible refine LeO.ite ?_ ?_)
      | (with_reducible refine LeO.bind ?_ (fun _ => ?_))
      | exact ih0 _ _ _
      | exact char_NCName.mono _ _
      | exact LeO.none _
      | refine LeO.ite ?_ ?_
      | refine LeO.bind ?_ (fun _ => ?_)
set_option maxHeartbeats 8000000 in
set_option maxRecDepth 100000 in
theorem char_QName.calls (k : Nat) (a0 : ByteArray) (r1 : ByteArray) (r2 : ByteArray) (r3 : Bool) (w : World) (h : char_QName.f k a0 = some (r1, r2, r3)) :
    Calls Try.prog 13 #[.string a0] w fun e w' => e = .returned (.tuple #[.string r1, .string r2, .bool r3]) ∧ Below w.heap.size w w' := by
  have HB := Aside0.mk (Below.refl w.heap.size w)
  have H : ((strings_Cut.f a0 (⟨#[58]⟩ : ByteArray)).bind fun bt123 => (if bt123.2.2 = true then (char_QName.j0 k bt123.1 bt123.2.1 bt123.2.2) else (char_QName.j0 k (⟨#[]⟩ : ByteArray) a0 bt123.2.2))) = some (r1, r2, r3) := h
  clear h
  replace H := Option.bind_eq_some_iff.mp H
  obtain ⟨⟨t123, t124, t125⟩, A20, H⟩ := H
  replace H : (if t125 = true then (char_QName.j0 k t123 t124 t125) else (char_QName.j0 k (⟨#[]⟩ : ByteArray) a0 t125)) = some (r1, r2, r3) := H
  have A2 := Aside0.mk A20
  clear A20
  have HC3 := Aside0.mk H
  clear H
  go_enter Try.func13, Try.ntmps13
  go_upto_if 15 with (first | ((with_reducible refine gate_callee (f := 40) rfl ?_); refine goesL_ (some 10) rfl rfl Try.func40 (by kernel_rfl) rfl #[.string a0, .string (⟨#[58]⟩ : ByteArray)] rfl (by (try simp only [List.map_toArray, List.map_cons, List.map_nil]); first | done | rfl | (simp only [List.length_drop, List.length_take]; rfl)) ?_; (with_reducible refine (strings_Cut.calls a0 (⟨#[58]⟩ : ByteArray) t123 t124 t125 _ A2.out).mono ?_); rintro e w' ⟨rfl, ⟨nd, rfl⟩⟩; refine ⟨_, rfl, ?_⟩))
  (try simp only [Act.put, List.setIfInBounds_toArray, List.set_cons_zero, List.set_cons_succ])
  go_cut [5, 6] (fun v5 v6 wc => ∃ (kq : Nat) (x5_2 : ByteArray) (x6_2 : ByteArray), v5 = .string x5_2 ∧ v6 = .string x6_2 ∧ Aside0 (char_QName.j0 kq x5_2 x6_2 t125 = some (r1, r2, r3)) ∧ Aside0 (kq ≤ k) ∧ Aside0 (Below w.heap.size w wc))
  case first =>
    have H := HC3.out
    clear HC3
    by_cases c4 : t125 = true
    · subst c4
      have H1 : (char_QName.j0 k t123 t124 true) = some (r1, r2, r3) := by rw [if_pos rfl] at H; exact H
      clear H
      have H := H1
      clear H1
      have H' := Aside0.mk H
      clear H
      go_wp2
      go_meet
      case rel => exact ⟨_, (t123), (t124), (by first | rfl | (simp; done) | (simp [*]; done)), (by first | rfl | (simp; done) | (simp [*]; done)), H', ⟨by first | omega | exact Nat.le_refl _⟩, ⟨by repeat (first | (with_reducible first | exact HB.out | apply below_alloc | apply pw_below_drewN | apply below_drew1) | exact HB.out)⟩⟩
    · replace c4 := Bool.eq_false_iff.mpr c4
      subst c4
      have H1 : (char_QName.j0 k (⟨#[]⟩ : ByteArray) a0 false) = some (r1, r2, r3) := by rw [if_neg (show ¬ (false = true) by decide)] at H; exact H
      clear H
      have H := H1
      clear H1
      have H' := Aside0.mk H
      clear H
      go_wp2
      go_meet
      case rel => exact ⟨_, ((⟨#[]⟩ : ByteArray)), (a0), (by first | rfl | (simp; done) | (simp [*]; done)), (by first | rfl | (simp; done) | (simp [*]; done)), H', ⟨by first | omega | exact Nat.le_refl _⟩, ⟨by repeat (first | (with_reducible first | exact HB.out | apply below_alloc | apply pw_below_drewN | apply below_drew1) | exact HB.out)⟩⟩
  case rest =>
    clear HC3
    try clear c1
    try clear p2
    try clear c4
    obtain ⟨kq, x5_2, x6_2, rfl, rfl, HA, HJ2, HB⟩ := hcut
    cases kq with
    | zero => exact absurd HA.out (by simp [char_QName.j0])
    | succ kj2 =>
      have H := HA.out
      clear HA
      simp only [char_QName.j0] at H
      by_cases c5 : t125 = true
      · subst c5
        have H1 : ((char_NCName.f kj2 x5_2).bind fun t126 => (if t126 = true then ((char_NCName.f kj2 x6_2).bind fun t127 => (if t127 = true then (some (x5_2, x6_2, true)) else (some ((⟨#[]⟩ : ByteArray), (⟨#[]⟩ : ByteArray), false)))) else (some ((⟨#[]⟩ : ByteArray), (⟨#[]⟩ : ByteArray), false)))) = some (r1, r2, r3) := by rw [if_pos rfl] at H; exact H
        clear H
        have H := H1
        clear H1
        replace H := Option.bind_eq_some_iff.mp H
        obtain ⟨t126, A60, H⟩ := H
        replace H : (if t126 = true then ((char_NCName.f kj2 x6_2).bind fun t127 => (if t127 = true then (some (x5_2, x6_2, true)) else (some ((⟨#[]⟩ : ByteArray), (⟨#[]⟩ : ByteArray), false)))) else (some ((⟨#[]⟩ : ByteArray), (⟨#[]⟩ : ByteArray), false))) = some (r1, r2, r3) := H
        have A6 := Aside0.mk A60
        clear A60
        by_cases c7 : t126 = true
        · subst c7
          have H1 : ((char_NCName.f kj2 x6_2).bind fun t127 => (if t127 = true then (some (x5_2, x6_2, true)) else (some ((⟨#[]⟩ : ByteArray), (⟨#[]⟩ : ByteArray), false)))) = some (r1, r2, r3) := by rw [if_pos rfl] at H; exact H
          clear H
          have H := H1
          clear H1
          replace H := Option.bind_eq_some_iff.mp H
          obtain ⟨t127, A80, H⟩ := H
          replace H : (if t127 = true then (some (x5_2, x6_2, true)) else (some ((⟨#[]⟩ : ByteArray), (⟨#[]⟩ : ByteArray), false))) = some (r1, r2, r3) := H
          have A8 := Aside0.mk A80
          clear A80
          by_cases c9 : t127 = true
          · subst c9
            have H1 : (some (x5_2, x6_2, true)) = some (r1, r2, r3) := by rw [if_pos rfl] at H; exact H
            clear H
            have H := H1
            clear H1
            simp only [Option.some.injEq, Prod.mk.injEq] at H
            obtain ⟨rfl, rfl, rfl⟩ := H
            go_wp2_with (first | (go_at_call 17; (with_reducible refine (char_NCName.calls kj2 x5_2 true _ A6.out).mono ?_); rintro e w10 ⟨rfl, hb⟩; have n0_ := Aside0.mk (below_step (by repeat (first | (with_reducible first | exact HB.out | apply below_alloc | apply pw_below_drewN | apply below_drew1) | exact HB.out)) hb); clear HB; have HB := n0_; clear n0_; (try clear hb); (try clear hb2); (try clear hk); (try clear hi)) | (go_at_call 17; (with_reducible refine (char_NCName.calls kj2 x6_2 true _ A8.out).mono ?_); rintro e w11 ⟨rfl, hb⟩; have n0_ := Aside0.mk (below_step (by repeat (first | (with_reducible first | exact HB.out | apply below_alloc | apply pw_below_drewN | apply below_drew1) | exact HB.out)) hb); clear HB; have HB := n0_; clear n0_; (try clear hb); (try clear hb2); (try clear hk); (try clear hi)))
            go_ret3
            exact ⟨by first | rfl | (simp [errW_none, errW_some] <;> rfl) | (simp [*, errW_none, errW_some] <;> rfl), by repeat (first | (with_reducible first | exact HB.out | apply below_alloc | apply pw_below_drewN | apply below_drew1) | exact HB.out)⟩
          · replace c9 := Bool.eq_false_iff.mpr c9
            subst c9
            have H1 : (some ((⟨#[]⟩ : ByteArray), (⟨#[]⟩ : ByteArray), false)) = some (r1, r2, r3) := by rw [if_neg (show ¬ (false = true) by decide)] at H; exact H
            clear H
            have H := H1
            clear H1
            simp only [Option.some.injEq, Prod.mk.injEq] at H
            obtain ⟨rfl, rfl, rfl⟩ := H
            go_wp2_with (first | (go_at_call 17; (with_reducible refine (char_NCName.calls kj2 x5_2 true _ A6.out).mono ?_); rintro e w12 ⟨rfl, hb⟩; have n0_ := Aside0.mk (below_step (by repeat (first | (with_reducible first | exact HB.out | apply below_alloc | apply pw_below_drewN | apply below_drew1) | exact HB.out)) hb); clear HB; have HB := n0_; clear n0_; (try clear hb); (try clear hb2); (try clear hk); (try clear hi)) | (go_at_call 17; (with_reducible refine (char_NCName.calls kj2 x6_2 false _ A8.out).mono ?_); rintro e w13 ⟨rfl, hb⟩; have n0_ := Aside0.mk (below_step (by repeat (first | (with_reducible first | exact HB.out | apply below_alloc | apply pw_below_drewN | apply below_drew1) | exact HB.out)) hb); clear HB; have HB := n0_; clear n0_; (try clear hb); (try clear hb2); (try clear hk); (try clear hi)))
            go_ret3
            exact ⟨by first | rfl | (simp [errW_none, errW_some] <;> rfl) | (simp [*, errW_none, errW_some] <;> rfl), by repeat (first | (with_reducible first | exact HB.out | apply below_alloc | apply pw_below_drewN | apply below_drew1) | exact HB.out)⟩
        · replace c7 := Bool.eq_false_iff.mpr c7
          subst c7
          have H1 : (some ((⟨#[]⟩ : ByteArray), (⟨#[]⟩ : ByteArray), false)) = some (r1, r2, r3) := by rw [if_neg (show ¬ (false = true) by decide)] at H; exact H
          clear H
          have H := H1
          clear H1
          simp only [Option.some.injEq, Prod.mk.injEq] at H
          obtain ⟨rfl, rfl, rfl⟩ := H
          go_wp2_with (first | (go_at_call 17; (with_reducible refine (char_NCName.calls kj2 x5_2 false _ A6.out).mono ?_); rintro e w14 ⟨rfl, hb⟩; have n0_ := Aside0.mk (below_step (by repeat (first | (with_reducible first | exact HB.out | apply below_alloc | apply pw_below_drewN | apply below_drew1) | exact HB.out)) hb); clear HB; have HB := n0_; clear n0_; (try clear hb); (try clear hb2); (try clear hk); (try clear hi)))
          go_ret3
          exact ⟨by first | rfl | (simp [errW_none, errW_some] <;> rfl) | (simp [*, errW_none, errW_some] <;> rfl), by repeat (first | (with_reducible first | exact HB.out | apply below_alloc | apply pw_below_drewN | apply below_drew1) | exact HB.out)⟩
      · replace c5 := Bool.eq_false_iff.mpr c5
        subst c5
        have H1 : ((char_NCName.f kj2 x6_2).bind fun t128 => (if t128 = true then (some (x5_2, x6_2, true)) else (some ((⟨#[]⟩ : ByteArray), (⟨#[]⟩ : ByteArray), false)))) = some (r1, r2, r3) := by rw [if_neg (show ¬ (false = true) by decide)] at H; exact H
        clear H
        have H := H1
        clear H1
        replace H := Option.bind_eq_some_iff.mp H
        obtain ⟨t128, A150, H⟩ := H
        replace H : (if t128 = true then (some (x5_2, x6_2, true)) else (some ((⟨#[]⟩ : ByteArray), (⟨#[]⟩ : ByteArray), false))) = some (r1, r2, r3) := H
        have A15 := Aside0.mk A150
        clear A150
        by_cases c16 : t128 = true
        · subst c16
          have H1 : (some (x5_2, x6_2, true)) = some (r1, r2, r3) := by rw [if_pos rfl] at H; exact H
          clear H
          have H := H1
          clear H1
          simp only [Option.some.injEq, Prod.mk.injEq] at H
          obtain ⟨rfl, rfl, rfl⟩ := H
          go_wp2_with (first | (go_at_call 17; (with_reducible refine (char_NCName.calls kj2 x6_2 true _ A15.out).mono ?_); rintro e w17 ⟨rfl, hb⟩; have n0_ := Aside0.mk (below_step (by repeat (first | (with_reducible first | exact HB.out | apply below_alloc | apply pw_below_drewN | apply below_drew1) | exact HB.out)) hb); clear HB; have HB := n0_; clear n0_; (try clear hb); (try clear hb2); (try clear hk); (try clear hi)))
          go_ret3
          exact ⟨by first | rfl | (simp [errW_none, errW_some] <;> rfl) | (simp [*, errW_none, errW_some] <;> rfl), by repeat (first | (with_reducible first | exact HB.out | apply below_alloc | apply pw_below_drewN | apply below_drew1) | exact HB.out)⟩
        · replace c16 := Bool.eq_false_iff.mpr c16
          subst c16
          have H1 : (some ((⟨#[]⟩ : ByteArray), (⟨#[]⟩ : ByteArray), false)) = some (r1, r2, r3) := by rw [if_neg (show ¬ (false = true) by decide)] at H; exact H
          clear H
          have H := H1
          clear H1
          simp only [Option.some.injEq, Prod.mk.injEq] at H
          obtain ⟨rfl, rfl, rfl⟩ := H
          go_wp2_with (first | (go_at_call 17; (with_reducible refine (char_NCName.calls kj2 x6_2 false _ A15.out).mono ?_); rintro e w18 ⟨rfl, hb⟩; have n0_ := Aside0.mk (below_step (by repeat (first | (with_reducible first | exact HB.out | apply below_alloc | apply pw_below_drewN | apply below_drew1) | exact HB.out)) hb); clear HB; have HB := n0_; clear n0_; (try clear hb); (try clear hb2); (try clear hk); (try clear hi)))
          go_ret3
          exact ⟨by first | rfl | (simp [errW_none, errW_some] <;> rfl) | (simp [*, errW_none, errW_some] <;> rfl), by repeat (first | (with_reducible first | exact HB.out | apply below_alloc | apply pw_below_drewN | apply below_drew1) | exact HB.out)⟩

/-! ### char_Count: function 27 -/
def char_Count.l0 : Nat → List Int → Int → Int → Option (Int)
  | 0, _, _, _ => none
  | k + 1, x3, x4, x5 => if x5 < (x3.length : Int) then (if 0 ≤ x5 then (if x5 ≤ (x3.length : Int) then ((char_Decode.f (x3.drop (x5 : Int).toNat)).bind fun bt137 => (char_Count.l0 k x3 (wrap64 (x4 + 1)) (wrap64 (x5 + (mx bt137.2 1))))) else (none)) else (none)) else (some x4)
def char_Count.f (k : Nat) (a0 : ByteArray) : Option (Int) := (conv_bytes.f a0).bind fun t129 => (char_Count.l0 k t129 0 0)
theorem char_Count.mono_l : ∀ k, (∀ y0 y1 y2, LeO (char_Count.l0 k y0 y1 y2) (char_Count.l0 (k + 1) y0 y1 y2))
  | 0 => fun _ _ _ r h => by simp [char_Count.l0] at h
  | k + 1 => by
    have ih0 := char_Count.mono_l k
    · intro y0 y1 y2
      unfold char_Count.l0
      repeat' first
      | (with_reducible exact ih0 _ _ _)
      | (with_reducible exact LeO.refl _)
      | (with_reducible exact LeO.none _)
      | (with_reducible refine LeO.ite ?_ ?_)
      | (with_reducible refine LeO.bind ?_ (fun _ => ?_))
      | exact ih0 _ _ _
      | exact LeO.none _
      | refine LeO.ite ?_ ?_
      | refine LeO.bind ?_ (fun _ => ?_)
theorem char_Count.mono : ∀ a0 k, LeO (char_Count.f k a0) (char_Count.f (k + 1) a0) := by
  intro a0 k
  have ih0 := char_Count.mono_l k
  unfold char_Count.f
  repeat' first
      | (with_reducible exact ih0 _ _ _)
      | (with_reducible exact LeO.refl _)
      | (with_reducible exact LeO.none _)
      | (with_reducible refine LeO.ite ?_ ?_)
      | (with_reducible refine LeO.bind ?_ (fun _ => ?_))
      | exact ih0 _ _ _
      | exact LeO.none _
      | refine LeO.ite ?_ ?_
      | refine LeO.bind ?_ (fun _ => ?_)
set_option maxHeartbeats 8000000 in
set_option maxRecDepth 100000 in
theorem char_Count.calls (k : Nat) (a0 : ByteArray) (r : Int) (w : World) (h : char_Count.f k a0 = some r) :
    Calls Try.prog 27 #[.string a0] w fun e w' => e = .returned (.int .i64 r) ∧ Below w.heap.size w w' := by
  have HB := Aside0.mk (Below.refl w.heap.size w)
  have H : ((conv_bytes.f a0).bind fun t129 => (char_Count.l0 k t129 0 0)) = some r := h
  clear h
  replace H := Option.bind_eq_some_iff.mp H
  obtain ⟨t129, A20, H⟩ := H
  replace H : (char_Count.l0 k t129 0 0) = some r := H
  have A2 := Aside0.mk A20
  clear A20
  have H' := Aside0.mk H
  clear H
  go_enter Try.func27, Try.ntmps27
  go_wp2_with (first | ((with_reducible refine conv_bytes.gate (src := 9) (dst := 32) rfl ?_); refine conv_bytes.step 9 32 5 Try.underlying9 Try.underlying32 Try.underlying5 (some 9) rfl rfl rfl a0 t129 rfl A2.out ?_; rintro e w3 ⟨v130, rfl, ho0, hb⟩; refine ⟨_, rfl, ?_⟩; have n0_ := Aside0.mk (Kd.V_lower (Kd.V_mono (ok' := fun k_ => True) ho0 (fun k_ hk_ => trivial)) (below_size (by repeat (first | (with_reducible first | exact HB.out | apply below_alloc | apply pw_below_drewN | apply below_drew1) | exact HB.out)))); have n1_ := Aside0.mk (below_step (by repeat (first | (with_reducible first | exact HB.out | apply below_alloc | apply pw_below_drewN | apply below_drew1) | exact HB.out)) hb); clear HB; have HO131 := n0_; have HB := n1_; clear n0_ n1_; (try clear hb); (try clear hb2); (try clear hk); (try clear hi); (try clear ho0)))
  go_loopg [4, 5] k (fun kq v4 v5 w' => ∃ (x4_1 : Int) (x5_1 : Int), v4 = .int .i64 x4_1 ∧ v5 = .int .i64 x5_1 ∧ Aside0 (char_Count.l0 kq t129 x4_1 x5_1 = some r) ∧ Aside0 (kq ≤ k) ∧ Aside0 (Kd.V (Kd.int .u8) 5 w' w.heap.size (fun _ => True) v130 t129) ∧ Aside0 (Below w.heap.size w w'))
  case atStart => exact ⟨(0), (0), (by first | rfl | (simp; done) | (simp [*]; done)), (by first | rfl | (simp; done) | (simp [*]; done)), H', ⟨Nat.le_refl _⟩, ⟨by (with_reducible repeat (first | apply Kd.V_alloc | apply Kd.V_drewN | apply Kd.V_drew)); exact HO131.out⟩, ⟨by repeat (first | (with_reducible first | exact HB.out | apply below_alloc | apply pw_below_drewN | apply below_drew1) | exact HB.out)⟩⟩
  case round =>
    clear H'
    try clear c2
    try clear p2
    obtain ⟨x4_1, x5_1, rfl, rfl, HA, HK1, HO_3, HB⟩ := hrel
    cases gk with
    | zero => exact absurd HA.out (by simp [char_Count.l0])
    | succ k1 =>
      have H := HA.out
      clear HA
      simp only [char_Count.l0] at H
      by_cases c4 : x5_1 < (t129.length : Int)
      · rw [if_pos c4] at H
        have c4b0 : decide (x5_1 < (t129.length : Int)) = true := decide_eq_true c4
        clear c4
        by_cases c5 : 0 ≤ x5_1
        · rw [if_pos c5] at H
          have c5b0 := eq_true c5
          have c5b1 : decide (0 ≤ x5_1) = true := decide_eq_true c5
          clear c5
          by_cases c6 : x5_1 ≤ (t129.length : Int)
          · rw [if_pos c6] at H
            have c6b0 := eq_true c6
            have c6b1 : decide (x5_1 ≤ (t129.length : Int)) = true := decide_eq_true c6
            clear c6
            obtain ⟨y132, hy132⟩ : ∃ y_ : List Int, y_ = (t129.drop (x5_1 : Int).toNat) := ⟨_, rfl⟩
            replace H : ((char_Decode.f y132).bind fun bt137 => (char_Count.l0 k1 t129 (wrap64 (x4_1 + 1)) (wrap64 (x5_1 + (mx bt137.2 1))))) = some r := by first | (rw [hy132]; with_reducible exact H) | (have H2_ := (Option.bind_some _ _).symm.trans H; rw [hy132]; with_reducible exact H2_) | (have H2_ := (Option.bind_some _ _).symm.trans H; with_reducible exact H2_) | with_reducible exact H | (rw [hy132]; exact H) | exact H
            have Ny132 := Aside0.mk hy132
            clear hy132
            replace H := Option.bind_eq_some_iff.mp H
            obtain ⟨⟨t137, t138⟩, A70, H⟩ := H
            replace H : (char_Count.l0 k1 t129 (wrap64 (x4_1 + 1)) (wrap64 (x5_1 + (mx t138 1)))) = some r := H
            have A7 := Aside0.mk A70
            clear A70
            obtain ⟨ji8, hji8⟩ : ∃ j_ : Int, (mx t138 1) = j_ := ⟨_, rfl⟩
            replace H : (char_Count.l0 k1 t129 (wrap64 (x4_1 + 1)) (wrap64 (x5_1 + (ji8)))) = some r := by first | (rw [hji8] at H; exact H) | (simp only [hji8] at H ⊢; exact H)
            (try rw [hji8] at A7)
            (try (have hji8l : 1 ≤ ji8 := by (rw [← hji8]; unfold mx; (repeat' split) <;> omega)))
            (try (have hji8m : 0 ≤ ji8 := by omega))
            have hji8_ : (if t138 < 1 then 1 else t138) = ji8 := hji8
            have H' := Aside0.mk H
            clear H
            obtain ⟨Ao9, co9, eo9⟩ := Kd.V_slice HO_3.out
            subst eo9
            have q10 : (x5_1 : Int) ≤ ((t129.length : Int) : Int) := of_decide_eq_true (by first | (with_reducible assumption) | assumption)
            obtain ⟨i010, hi010, _, hsz10, _⟩ := info_parts info5
            have hroom10 : t129.length ≤ co9 := (Kd.V_reads' HO_3.out).2.1
            have hC10 : Kd.F (Kd.int .u8) _ _ Ao9 t129.length t129 := (Kd.V_at (base := w.heap.size) HO_3.out).2.2
            have q010 : (0 : Int) ≤ (x5_1 : Int) := of_decide_eq_true (by first | (with_reducible assumption) | assumption)
            have hcut10 := cut_from (P := Try.prog) 32 5 .i64 Try.underlying32 hi010 1 hsz10 Ao9 t129.length co9 x5_1 q010 q10
            have hr10 := Kd.F_cut (m := (x5_1 : Int).toNat) (c := co9) hC10 (by omega) hroom10
            obtain ⟨A10, hA10⟩ : ∃ A1, A1 = (if co9 = (x5_1 : Int).toNat then Ao9 else (Ao9 : Option Addr).map (·.add ((x5_1 : Int).toNat * 1))) := ⟨_, rfl⟩
            obtain ⟨c10, hc10⟩ : ∃ c1, c1 = co9 - (x5_1 : Int).toNat := ⟨_, rfl⟩
            have hy10 : y132.length = t129.length - (x5_1 : Int).toNat := (by rw [Ny132.out, List.length_drop] <;> omega)
            rw [show (t129).drop (x5_1 : Int).toNat = y132 from Ny132.out.symm] at hr10
            replace hr10 : Kd.F (Kd.int .u8) _ _ A10 y132.length y132 := (by rw [hA10]; exact hr10)
            rw [← hy10, ← hA10, ← hc10] at hcut10
            have HO136 := Aside0.mk (show Kd.V (Kd.int .u8) 5 _ w.heap.size _ (.slice A10 y132.length c10) y132 from Kd.V_mk (by rw [hy10, hc10]; exact Nat.sub_le_sub_right hroom10 _) hr10)
            have HC136 := Aside0.mk (show y132.length ≤ c10 from by rw [hy10, hc10]; exact Nat.sub_le_sub_right hroom10 _)
            clear hr10 hC10 hroom10 hi010 hsz10 hc10
            have KY10 := Aside0.mk hy10
            have KA10 := Aside0.mk hA10
            clear hy10 hA10
            replace q10 := eq_true q10
            go_wp2_with (first | ((with_reducible refine gate_callee (f := 23) rfl ?_); refine goesL_ (some 20) rfl rfl Try.func23 (by kernel_rfl) rfl #[.slice A10 y132.length c10] rfl (by (try simp only [List.map_toArray, List.map_cons, List.map_nil]); first | done | rfl | (simp only [List.length_drop, List.length_take]; rfl)) ?_; (with_reducible refine (char_Decode.calls _ _ y132 t137 t138 _ ?side1 ?side2 A7.out).mono ?_); (case side1 => repeat (first | exact (Kd.V_reads' HO136.out).2.2 | (with_reducible refine Kd.C_alloc ?_ _) | (with_reducible refine Kd.C_drewN ?_ _) | (with_reducible refine Kd.C_drew ?_))); (case side2 => exact (Kd.V_reads' HO136.out).2.1); rintro e w' ⟨rfl, ⟨nd, rfl⟩⟩; refine ⟨_, rfl, ?_⟩))
            go_roundg k1
            case measure => have := HK1.out; omega
            case rel => exact ⟨(wrap64 (x4_1 + 1)), (wrap64 (x5_1 + (ji8))), (by first | rfl | (simp; done) | (simp [*]; done)), (by first | rfl | (simp; done) | (simp only [← hji8] <;> (first | rfl | simp)) | (simp [*]; done)), H', ⟨by have := HK1.out; omega⟩, ⟨by (with_reducible repeat (first | apply Kd.V_alloc | apply Kd.V_drewN | apply Kd.V_drew)); exact HO_3.out⟩, ⟨by repeat (first | (with_reducible first | exact HB.out | apply below_alloc | apply pw_below_drewN | apply below_drew1) | exact HB.out)⟩⟩
          · rw [if_neg c6] at H
            exact absurd H (by simp)
        · rw [if_neg c5] at H
          exact absurd H (by simp)
      · rw [if_neg c4] at H
        have c4b0 : decide (x5_1 < (t129.length : Int)) = false := decide_eq_false c4
        clear c4
        obtain rfl := Option.some.inj H
        obtain ⟨Ao11, co11, eo11⟩ := Kd.V_slice HO_3.out
        subst eo11
        go_wp2
        go_ret
        exact ⟨by first | rfl | (simp [errW_none, errW_some] <;> rfl) | (simp [*, errW_none, errW_some] <;> rfl), by repeat (first | (with_reducible first | exact HB.out | apply below_alloc | apply pw_below_drewN | apply below_drew1) | exact HB.out)⟩

end Go.Proofs.Ytjogllgkdnomiaa.PCharJoins
