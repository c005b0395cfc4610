-- Written by a turned copy of the print (wip/print/mkprint.py): contracts proved by hand are joined in. Lean checks it.
import Derived.Test.YtjogllgkdnomiaaPCharJoinsx0
import Derived.Test.YtjogllgkdnomiaaPCharJoinsx1
import Derived.Test.YtjogllgkdnomiaaPCharJoinsx2
import Derived.Test.YtjogllgkdnomiaaPCharJoinsx3
import Derived.Test.YtjogllgkdnomiaaPCharJoinsx4
namespace Go.Proofs.Ytjogllgkdnomiaa.PCharJoins
open Go.RowKit Go.Proofs.YtjogllgkdnomiaaW.PrintWords Go.Proofs.YtjogllgkdnomiaaW.PrintLast Go.Proofs.YtjogllgkdnomiaaW.PrintMore
attribute [local go_sem] max2_int min2_int max_two min_two max_three min_three max_four min_four   -- for this text's walks alone
set_option linter.unusedVariables false
set_option linter.unusedSimpArgs false

/-! ### rubriclaw1_known: function 9 -/
def rubriclaw1_known.f (k : Nat)  : Option (Bool) := (conv_lit.f ([240, 159, 152, 128, 120] : List Int)).bind fun t139 => ((char_Decode.f t139).bind fun bt142 => ((char_QName.f k (⟨#[97, 58, 98]⟩ : ByteArray)).bind fun bt144 => (if bt142.1 = 128512 then (if bt142.2 = 4 then (if bt144.1.toList = ([97] : List UInt8) then (if bt144.2.1.toList = ([98] : List UInt8) then (if bt144.2.2 = true then ((char_Space.f k (⟨#[32, 97, 32, 9, 32, 98, 32]⟩ : ByteArray) 3).bind fun t147 => (if t147.toList = ([97, 32, 98] : List UInt8) then ((char_Name.f k (⟨#[120, 49]⟩ : ByteArray)).bind fun t148 => (if t148 = true then ((char_Name.f k (⟨#[49, 120]⟩ : ByteArray)).bind fun t149 => (if t149 = true then (some false) else ((char_Count.f k (⟨#[97, 195, 169]⟩ : ByteArray)).bind fun t150 => (some (t150 == 2))))) else (some false))) else (some false))) else (some false)) else (some false)) else (some false)) else (some false)) else (some false))))
theorem rubriclaw1_known.mono : ∀ k, LeO (rubriclaw1_known.f k ) (rubriclaw1_known.f (k + 1) ) := by
  intro  k
  unfold rubriclaw1_known.f
  repeat' first
      | (with_reducible exact char_Count.mono _ _)
      | (with_reducible exact char_Name.mono _ _)
      | (with_reducible exact char_QName.mono _ _)
      | (with_reducible exact char_Space.mono _ _ _)
      | (with_reducible exact LeO.refl _)
      | (with_reducible exact LeO.none _)
      | (with_reducible refine LeO.ite ?_ ?_)
      | (with_reducible refine LeO.bind ?_ (fun _ => ?_))
      | exact char_Count.mono _ _
      | exact char_Name.mono _ _
      | exact char_QName.mono _ _
      | exact char_Space.mono _ _ _
      | exact LeO.none _
      | refine LeO.ite ?_ ?_
      | refine LeO.bind ?_ (fun _ => ?_)
set_option maxHeartbeats 8000000 in
set_option maxRecDepth 100000 in
theorem rubriclaw1_known.calls (k : Nat)  (r : Bool) (w : World) (h : rubriclaw1_known.f k  = some r) :
    Calls Try.prog 9 #[] w fun e w' => e = .returned (.bool r) ∧ Below w.heap.size w w' := by
  have HB := Aside0.mk (Below.refl w.heap.size w)
  have H : ((conv_lit.f ([240, 159, 152, 128, 120] : List Int)).bind fun t139 => ((char_Decode.f t139).bind fun bt142 => ((char_QName.f k (⟨#[97, 58, 98]⟩ : ByteArray)).bind fun bt144 => (if bt142.1 = 128512 then (if bt142.2 = 4 then (if bt144.1.toList = ([97] : List UInt8) then (if bt144.2.1.toList = ([98] : List UInt8) then (if bt144.2.2 = true then ((char_Space.f k (⟨#[32, 97, 32, 9, 32, 98, 32]⟩ : ByteArray) 3).bind fun t147 => (if t147.toList = ([97, 32, 98] : List UInt8) then ((char_Name.f k (⟨#[120, 49]⟩ : ByteArray)).bind fun t148 => (if t148 = true then ((char_Name.f k (⟨#[49, 120]⟩ : ByteArray)).bind fun t149 => (if t149 = true then (some false) else ((char_Count.f k (⟨#[97, 195, 169]⟩ : ByteArray)).bind fun t150 => (some (t150 == 2))))) else (some false))) else (some false))) else (some false)) else (some false)) else (some false)) else (some false)) else (some false))))) = some r := h
  clear h
  replace H := Option.bind_eq_some_iff.mp H
  obtain ⟨t139, A10, H⟩ := H
  replace H : ((char_Decode.f t139).bind fun bt142 => ((char_QName.f k (⟨#[97, 58, 98]⟩ : ByteArray)).bind fun bt144 => (if bt142.1 = 128512 then (if bt142.2 = 4 then (if bt144.1.toList = ([97] : List UInt8) then (if bt144.2.1.toList = ([98] : List UInt8) then (if bt144.2.2 = true then ((char_Space.f k (⟨#[32, 97, 32, 9, 32, 98, 32]⟩ : ByteArray) 3).bind fun t147 => (if t147.toList = ([97, 32, 98] : List UInt8) then ((char_Name.f k (⟨#[120, 49]⟩ : ByteArray)).bind fun t148 => (if t148 = true then ((char_Name.f k (⟨#[49, 120]⟩ : ByteArray)).bind fun t149 => (if t149 = true then (some false) else ((char_Count.f k (⟨#[97, 195, 169]⟩ : ByteArray)).bind fun t150 => (some (t150 == 2))))) else (some false))) else (some false))) else (some false)) else (some false)) else (some false)) else (some false)) else (some false)))) = some r := H
  have A1 := Aside0.mk A10
  clear A10
  replace H := Option.bind_eq_some_iff.mp H
  obtain ⟨⟨t142, t143⟩, A20, H⟩ := H
  replace H : ((char_QName.f k (⟨#[97, 58, 98]⟩ : ByteArray)).bind fun bt144 => (if t142 = 128512 then (if t143 = 4 then (if bt144.1.toList = ([97] : List UInt8) then (if bt144.2.1.toList = ([98] : List UInt8) then (if bt144.2.2 = true then ((char_Space.f k (⟨#[32, 97, 32, 9, 32, 98, 32]⟩ : ByteArray) 3).bind fun t147 => (if t147.toList = ([97, 32, 98] : List UInt8) then ((char_Name.f k (⟨#[120, 49]⟩ : ByteArray)).bind fun t148 => (if t148 = true then ((char_Name.f k (⟨#[49, 120]⟩ : ByteArray)).bind fun t149 => (if t149 = true then (some false) else ((char_Count.f k (⟨#[97, 195, 169]⟩ : ByteArray)).bind fun t150 => (some (t150 == 2))))) else (some false))) else (some false))) else (some false)) else (some false)) else (some false)) else (some false)) else (some false))) = some r := H
  have A2 := Aside0.mk A20
  clear A20
  replace H := Option.bind_eq_some_iff.mp H
  obtain ⟨⟨t144, t145, t146⟩, A30, H⟩ := H
  replace H : (if t142 = 128512 then (if t143 = 4 then (if t144.toList = ([97] : List UInt8) then (if t145.toList = ([98] : List UInt8) then (if t146 = true then ((char_Space.f k (⟨#[32, 97, 32, 9, 32, 98, 32]⟩ : ByteArray) 3).bind fun t147 => (if t147.toList = ([97, 32, 98] : List UInt8) then ((char_Name.f k (⟨#[120, 49]⟩ : ByteArray)).bind fun t148 => (if t148 = true then ((char_Name.f k (⟨#[49, 120]⟩ : ByteArray)).bind fun t149 => (if t149 = true then (some false) else ((char_Count.f k (⟨#[97, 195, 169]⟩ : ByteArray)).bind fun t150 => (some (t150 == 2))))) else (some false))) else (some false))) else (some false)) else (some false)) else (some false)) else (some false)) else (some false)) = some r := H
  have A3 := Aside0.mk A30
  clear A30
  by_cases c4 : t142 = 128512
  · rw [if_pos c4] at H
    have c4b0 : (t142 == 128512) = true := beq_iff_eq.mpr c4
    have c4b1 : (t142 != 128512) = false := bne_eq_false_iff_eq.mpr c4
    clear c4
    by_cases c5 : t143 = 4
    · rw [if_pos c5] at H
      have c5b0 : (t143 == 4) = true := beq_iff_eq.mpr c5
      have c5b1 : (t143 != 4) = false := bne_eq_false_iff_eq.mpr c5
      clear c5
      by_cases c6 : t144.toList = ([97] : List UInt8)
      · rw [if_pos c6] at H
        have c6b0 : (t144.toList == ([97] : List UInt8)) = true := beq_iff_eq.mpr c6
        have c6b1 : (t144.toList != ([97] : List UInt8)) = false := bne_eq_false_iff_eq.mpr c6
        clear c6
        by_cases c7 : t145.toList = ([98] : List UInt8)
        · rw [if_pos c7] at H
          have c7b0 : (t145.toList == ([98] : List UInt8)) = true := beq_iff_eq.mpr c7
          have c7b1 : (t145.toList != ([98] : List UInt8)) = false := bne_eq_false_iff_eq.mpr c7
          clear c7
          by_cases c8 : t146 = true
          · subst c8
            have H1 : ((char_Space.f k (⟨#[32, 97, 32, 9, 32, 98, 32]⟩ : ByteArray) 3).bind fun t147 => (if t147.toList = ([97, 32, 98] : List UInt8) then ((char_Name.f k (⟨#[120, 49]⟩ : ByteArray)).bind fun t148 => (if t148 = true then ((char_Name.f k (⟨#[49, 120]⟩ : ByteArray)).bind fun t149 => (if t149 = true then (some false) else ((char_Count.f k (⟨#[97, 195, 169]⟩ : ByteArray)).bind fun t150 => (some (t150 == 2))))) else (some false))) else (some false))) = some r := by rw [if_pos rfl] at H; exact H
            clear H
            have H := H1
            clear H1
            replace H := Option.bind_eq_some_iff.mp H
            obtain ⟨t147, A90, H⟩ := H
            replace H : (if t147.toList = ([97, 32, 98] : List UInt8) then ((char_Name.f k (⟨#[120, 49]⟩ : ByteArray)).bind fun t148 => (if t148 = true then ((char_Name.f k (⟨#[49, 120]⟩ : ByteArray)).bind fun t149 => (if t149 = true then (some false) else ((char_Count.f k (⟨#[97, 195, 169]⟩ : ByteArray)).bind fun t150 => (some (t150 == 2))))) else (some false))) else (some false)) = some r := H
            have A9 := Aside0.mk A90
            clear A90
            by_cases c10 : t147.toList = ([97, 32, 98] : List UInt8)
            · rw [if_pos c10] at H
              have c10b0 : (t147.toList == ([97, 32, 98] : List UInt8)) = true := beq_iff_eq.mpr c10
              have c10b1 : (t147.toList != ([97, 32, 98] : List UInt8)) = false := bne_eq_false_iff_eq.mpr c10
              clear c10
              replace H := Option.bind_eq_some_iff.mp H
              obtain ⟨t148, A110, H⟩ := H
              replace H : (if t148 = true then ((char_Name.f k (⟨#[49, 120]⟩ : ByteArray)).bind fun t149 => (if t149 = true then (some false) else ((char_Count.f k (⟨#[97, 195, 169]⟩ : ByteArray)).bind fun t150 => (some (t150 == 2))))) else (some false)) = some r := H
              have A11 := Aside0.mk A110
              clear A110
              by_cases c12 : t148 = true
              · subst c12
                have H1 : ((char_Name.f k (⟨#[49, 120]⟩ : ByteArray)).bind fun t149 => (if t149 = true then (some false) else ((char_Count.f k (⟨#[97, 195, 169]⟩ : ByteArray)).bind fun t150 => (some (t150 == 2))))) = some r := by rw [if_pos rfl] at H; exact H
                clear H
                have H := H1
                clear H1
                replace H := Option.bind_eq_some_iff.mp H
                obtain ⟨t149, A130, H⟩ := H
                replace H : (if t149 = true then (some false) else ((char_Count.f k (⟨#[97, 195, 169]⟩ : ByteArray)).bind fun t150 => (some (t150 == 2)))) = some r := H
                have A13 := Aside0.mk A130
                clear A130
                by_cases c14 : t149 = true
                · subst c14
                  have H1 : (some false) = some r := by rw [if_pos rfl] at H; exact H
                  clear H
                  have H := H1
                  clear H1
                  obtain rfl := Option.some.inj H
                  go_enter Try.func9, Try.ntmps9
                  go_wp2_with (first | ((with_reducible refine conv_lit.gate (N := 7) rfl ?_); refine conv_lit.step 32 5 Try.underlying32 Try.underlying5 7 (some 8) rfl rfl rfl rfl rfl ([240, 159, 152, 128, 120] : List Int) t139 A1.out (fun _ => rfl) ?hr ?_; (case hr => first | (go_simp; done) | (go_simp; rfl)); rintro e w15 ⟨v140, rfl, ho0, hb⟩; refine ⟨_, rfl, ?_⟩; have n0_ := Aside0.mk (Kd.V_lower (Kd.V_mono (ok' := fun k_ => True) ho0 (fun k_ hk_ => trivial)) (below_size (by repeat (first | (with_reducible first | exact HB.out | apply below_alloc | apply pw_below_drewN | apply below_drew1) | exact HB.out)))); have n1_ := Aside0.mk (below_step (by repeat (first | (with_reducible first | exact HB.out | apply below_alloc | apply pw_below_drewN | apply below_drew1) | exact HB.out)) hb); clear HB; have HO141 := n0_; have HB := n1_; clear n0_ n1_; (try clear hb); (try clear hb2); (try clear hk); (try clear hi); (try clear ho0); obtain ⟨Ao16, co16, eo16⟩ := Kd.V_slice HO141.out; subst eo16) | ((with_reducible refine gate_callee (f := 23) rfl ?_); refine goesL_ (some 9) rfl rfl Try.func23 (by kernel_rfl) rfl #[.slice Ao16 t139.length co16] rfl (by (try simp only [List.map_toArray, List.map_cons, List.map_nil]); first | done | rfl | (simp only [List.length_drop, List.length_take]; rfl)) ?_; (with_reducible refine (char_Decode.calls _ _ t139 t142 t143 _ ?side1 ?side2 A2.out).mono ?_); (case side1 => repeat (first | exact (Kd.V_reads' HO141.out).2.2 | (with_reducible refine Kd.C_alloc ?_ _) | (with_reducible refine Kd.C_drewN ?_ _) | (with_reducible refine Kd.C_drew ?_))); (case side2 => exact (Kd.V_reads' HO141.out).2.1); rintro e w' ⟨rfl, ⟨nd, rfl⟩⟩; refine ⟨_, rfl, ?_⟩) | ((with_reducible refine gate_callee (f := 13) rfl ?_); refine goesL_ (some 13) rfl rfl Try.func13 (by kernel_rfl) rfl #[.string (⟨#[97, 58, 98]⟩ : ByteArray)] rfl (by (try simp only [List.map_toArray, List.map_cons, List.map_nil]); first | done | rfl | (simp only [List.length_drop, List.length_take]; rfl)) ?_; (with_reducible refine (char_QName.calls k (⟨#[97, 58, 98]⟩ : ByteArray) t144 t145 true _ A3.out).mono ?_); rintro e w17 ⟨rfl, hb⟩; refine ⟨_, rfl, ?_⟩; have n0_ := Aside0.mk (Kd.V_below (by (with_reducible repeat (first | apply Kd.V_alloc | apply Kd.V_drewN | apply Kd.V_drew)); exact HO141.out) hb); have n1_ := Aside0.mk (below_step (by repeat (first | (with_reducible first | exact HB.out | apply below_alloc | apply pw_below_drewN | apply below_drew1) | exact HB.out)) hb); clear HO141; clear HB; have HO141 := n0_; have HB := n1_; clear n0_ n1_; (try clear hb); (try clear hb2); (try clear hk); (try clear hi)) | (go_at_call 10; (with_reducible refine (char_Space.calls k (⟨#[32, 97, 32, 9, 32, 98, 32]⟩ : ByteArray) 3 t147 _ A9.out).mono ?_); rintro e w18 ⟨rfl, hb⟩; have n0_ := Aside0.mk (Kd.V_below (by (with_reducible repeat (first | apply Kd.V_alloc | apply Kd.V_drewN | apply Kd.V_drew)); exact HO141.out) hb); have n1_ := Aside0.mk (below_step (by repeat (first | (with_reducible first | exact HB.out | apply below_alloc | apply pw_below_drewN | apply below_drew1) | exact HB.out)) hb); clear HO141; clear HB; have HO141 := n0_; have HB := n1_; clear n0_ n1_; (try clear hb); (try clear hb2); (try clear hk); (try clear hi)) | (go_at_call 15; (with_reducible refine (char_Name.calls k (⟨#[120, 49]⟩ : ByteArray) true _ A11.out).mono ?_); rintro e w19 ⟨rfl, hb⟩; have n0_ := Aside0.mk (Kd.V_below (by (with_reducible repeat (first | apply Kd.V_alloc | apply Kd.V_drewN | apply Kd.V_drew)); exact HO141.out) hb); have n1_ := Aside0.mk (below_step (by repeat (first | (with_reducible first | exact HB.out | apply below_alloc | apply pw_below_drewN | apply below_drew1) | exact HB.out)) hb); clear HO141; clear HB; have HO141 := n0_; have HB := n1_; clear n0_ n1_; (try clear hb); (try clear hb2); (try clear hk); (try clear hi)) | (go_at_call 15; (with_reducible refine (char_Name.calls k (⟨#[49, 120]⟩ : ByteArray) true _ A13.out).mono ?_); rintro e w20 ⟨rfl, hb⟩; have n0_ := Aside0.mk (Kd.V_below (by (with_reducible repeat (first | apply Kd.V_alloc | apply Kd.V_drewN | apply Kd.V_drew)); exact HO141.out) hb); have n1_ := Aside0.mk (below_step (by repeat (first | (with_reducible first | exact HB.out | apply below_alloc | apply pw_below_drewN | apply below_drew1) | exact HB.out)) hb); clear HO141; clear HB; have HO141 := n0_; have HB := n1_; clear n0_ n1_; (try clear hb); (try clear hb2); (try clear hk); (try clear hi)))
                  go_ret
                  exact ⟨by first | rfl | (simp [errW_none, errW_some] <;> rfl) | (simp [*, errW_none, errW_some] <;> rfl), by repeat (first | (with_reducible first | exact HB.out | apply below_alloc | apply pw_below_drewN | apply below_drew1) | exact HB.out)⟩
                · replace c14 := Bool.eq_false_iff.mpr c14
                  subst c14
                  have H1 : ((char_Count.f k (⟨#[97, 195, 169]⟩ : ByteArray)).bind fun t150 => (some (t150 == 2))) = some r := by rw [if_neg (show ¬ (false = true) by decide)] at H; exact H
                  clear H
                  have H := H1
                  clear H1
                  replace H := Option.bind_eq_some_iff.mp H
                  obtain ⟨t150, A210, H⟩ := H
                  replace H : (some (t150 == 2)) = some r := H
                  have A21 := Aside0.mk A210
                  clear A210
                  obtain rfl := Option.some.inj H
                  go_enter Try.func9, Try.ntmps9
                  go_wp2_with (first | ((with_reducible refine conv_lit.gate (N := 7) rfl ?_); refine conv_lit.step 32 5 Try.underlying32 Try.underlying5 7 (some 8) rfl rfl rfl rfl rfl ([240, 159, 152, 128, 120] : List Int) t139 A1.out (fun _ => rfl) ?hr ?_; (case hr => first | (go_simp; done) | (go_simp; rfl)); rintro e w22 ⟨v140, rfl, ho0, hb⟩; refine ⟨_, rfl, ?_⟩; have n0_ := Aside0.mk (Kd.V_lower (Kd.V_mono (ok' := fun k_ => True) ho0 (fun k_ hk_ => trivial)) (below_size (by repeat (first | (with_reducible first | exact HB.out | apply below_alloc | apply pw_below_drewN | apply below_drew1) | exact HB.out)))); have n1_ := Aside0.mk (below_step (by repeat (first | (with_reducible first | exact HB.out | apply below_alloc | apply pw_below_drewN | apply below_drew1) | exact HB.out)) hb); clear HB; have HO141 := n0_; have HB := n1_; clear n0_ n1_; (try clear hb); (try clear hb2); (try clear hk); (try clear hi); (try clear ho0); obtain ⟨Ao23, co23, eo23⟩ := Kd.V_slice HO141.out; subst eo23) | ((with_reducible refine gate_callee (f := 23) rfl ?_); refine goesL_ (some 9) rfl rfl Try.func23 (by kernel_rfl) rfl #[.slice Ao23 t139.length co23] rfl (by (try simp only [List.map_toArray, List.map_cons, List.map_nil]); first | done | rfl | (simp only [List.length_drop, List.length_take]; rfl)) ?_; (with_reducible refine (char_Decode.calls _ _ t139 t142 t143 _ ?side1 ?side2 A2.out).mono ?_); (case side1 => repeat (first | exact (Kd.V_reads' HO141.out).2.2 | (with_reducible refine Kd.C_alloc ?_ _) | (with_reducible refine Kd.C_drewN ?_ _) | (with_reducible refine Kd.C_drew ?_))); (case side2 => exact (Kd.V_reads' HO141.out).2.1); rintro e w' ⟨rfl, ⟨nd, rfl⟩⟩; refine ⟨_, rfl, ?_⟩) | ((with_reducible refine gate_callee (f := 13) rfl ?_); refine goesL_ (some 13) rfl rfl Try.func13 (by kernel_rfl) rfl #[.string (⟨#[97, 58, 98]⟩ : ByteArray)] rfl (by (try simp only [List.map_toArray, List.map_cons, List.map_nil]); first | done | rfl | (simp only [List.length_drop, List.length_take]; rfl)) ?_; (with_reducible refine (char_QName.calls k (⟨#[97, 58, 98]⟩ : ByteArray) t144 t145 true _ A3.out).mono ?_); rintro e w24 ⟨rfl, hb⟩; refine ⟨_, rfl, ?_⟩; have n0_ := Aside0.mk (Kd.V_below (by (with_reducible repeat (first | apply Kd.V_alloc | apply Kd.V_drewN | apply Kd.V_drew)); exact HO141.out) hb); have n1_ := Aside0.mk (below_step (by repeat (first | (with_reducible first | exact HB.out | apply below_alloc | apply pw_below_drewN | apply below_drew1) | exact HB.out)) hb); clear HO141; clear HB; have HO141 := n0_; have HB := n1_; clear n0_ n1_; (try clear hb); (try clear hb2); (try clear hk); (try clear hi)) | (go_at_call 10; (with_reducible refine (char_Space.calls k (⟨#[32, 97, 32, 9, 32, 98, 32]⟩ : ByteArray) 3 t147 _ A9.out).mono ?_); rintro e w25 ⟨rfl, hb⟩; have n0_ := Aside0.mk (Kd.V_below (by (with_reducible repeat (first | apply Kd.V_alloc | apply Kd.V_drewN | apply Kd.V_drew)); exact HO141.out) hb); have n1_ := Aside0.mk (below_step (by repeat (first | (with_reducible first | exact HB.out | apply below_alloc | apply pw_below_drewN | apply below_drew1) | exact HB.out)) hb); clear HO141; clear HB; have HO141 := n0_; have HB := n1_; clear n0_ n1_; (try clear hb); (try clear hb2); (try clear hk); (try clear hi)) | (go_at_call 15; (with_reducible refine (char_Name.calls k (⟨#[120, 49]⟩ : ByteArray) true _ A11.out).mono ?_); rintro e w26 ⟨rfl, hb⟩; have n0_ := Aside0.mk (Kd.V_below (by (with_reducible repeat (first | apply Kd.V_alloc | apply Kd.V_drewN | apply Kd.V_drew)); exact HO141.out) hb); have n1_ := Aside0.mk (below_step (by repeat (first | (with_reducible first | exact HB.out | apply below_alloc | apply pw_below_drewN | apply below_drew1) | exact HB.out)) hb); clear HO141; clear HB; have HO141 := n0_; have HB := n1_; clear n0_ n1_; (try clear hb); (try clear hb2); (try clear hk); (try clear hi)) | (go_at_call 15; (with_reducible refine (char_Name.calls k (⟨#[49, 120]⟩ : ByteArray) false _ A13.out).mono ?_); rintro e w27 ⟨rfl, hb⟩; have n0_ := Aside0.mk (Kd.V_below (by (with_reducible repeat (first | apply Kd.V_alloc | apply Kd.V_drewN | apply Kd.V_drew)); exact HO141.out) hb); have n1_ := Aside0.mk (below_step (by repeat (first | (with_reducible first | exact HB.out | apply below_alloc | apply pw_below_drewN | apply below_drew1) | exact HB.out)) hb); clear HO141; clear HB; have HO141 := n0_; have HB := n1_; clear n0_ n1_; (try clear hb); (try clear hb2); (try clear hk); (try clear hi)) | (go_at_call 27; (with_reducible refine (char_Count.calls k (⟨#[97, 195, 169]⟩ : ByteArray) t150 _ A21.out).mono ?_); rintro e w28 ⟨rfl, hb⟩; have n0_ := Aside0.mk (Kd.V_below (by (with_reducible repeat (first | apply Kd.V_alloc | apply Kd.V_drewN | apply Kd.V_drew)); exact HO141.out) hb); have n1_ := Aside0.mk (below_step (by repeat (first | (with_reducible first | exact HB.out | apply below_alloc | apply pw_below_drewN | apply below_drew1) | exact HB.out)) hb); clear HO141; clear HB; have HO141 := n0_; have HB := n1_; clear n0_ n1_; (try clear hb); (try clear hb2); (try clear hk); (try clear hi)))
                  go_ret
                  exact ⟨by first | rfl | (simp [errW_none, errW_some] <;> rfl) | (simp [*, errW_none, errW_some] <;> rfl), by repeat (first | (with_reducible first | exact HB.out | apply below_alloc | apply pw_below_drewN | apply below_drew1) | exact HB.out)⟩
              · replace c12 := Bool.eq_false_iff.mpr c12
                subst c12
                have H1 : (some false) = some r := by rw [if_neg (show ¬ (false = true) by decide)] at H; exact H
                clear H
                have H := H1
                clear H1
                obtain rfl := Option.some.inj H
                go_enter Try.func9, Try.ntmps9
                go_wp2_with (first | ((with_reducible refine conv_lit.gate (N := 7) rfl ?_); refine conv_lit.step 32 5 Try.underlying32 Try.underlying5 7 (some 8) rfl rfl rfl rfl rfl ([240, 159, 152, 128, 120] : List Int) t139 A1.out (fun _ => rfl) ?hr ?_; (case hr => first | (go_simp; done) | (go_simp; rfl)); rintro e w29 ⟨v140, rfl, ho0, hb⟩; refine ⟨_, rfl, ?_⟩; have n0_ := Aside0.mk (Kd.V_lower (Kd.V_mono (ok' := fun k_ => True) ho0 (fun k_ hk_ => trivial)) (below_size (by repeat (first | (with_reducible first | exact HB.out | apply below_alloc | apply pw_below_drewN | apply below_drew1) | exact HB.out)))); have n1_ := Aside0.mk (below_step (by repeat (first | (with_reducible first | exact HB.out | apply below_alloc | apply pw_below_drewN | apply below_drew1) | exact HB.out)) hb); clear HB; have HO141 := n0_; have HB := n1_; clear n0_ n1_; (try clear hb); (try clear hb2); (try clear hk); (try clear hi); (try clear ho0); obtain ⟨Ao30, co30, eo30⟩ := Kd.V_slice HO141.out; subst eo30) | ((with_reducible refine gate_callee (f := 23) rfl ?_); refine goesL_ (some 9) rfl rfl Try.func23 (by kernel_rfl) rfl #[.slice Ao30 t139.length co30] rfl (by (try simp only [List.map_toArray, List.map_cons, List.map_nil]); first | done | rfl | (simp only [List.length_drop, List.length_take]; rfl)) ?_; (with_reducible refine (char_Decode.calls _ _ t139 t142 t143 _ ?side1 ?side2 A2.out).mono ?_); (case side1 => repeat (first | exact (Kd.V_reads' HO141.out).2.2 | (with_reducible refine Kd.C_alloc ?_ _) | (with_reducible refine Kd.C_drewN ?_ _) | (with_reducible refine Kd.C_drew ?_))); (case side2 => exact (Kd.V_reads' HO141.out).2.1); rintro e w' ⟨rfl, ⟨nd, rfl⟩⟩; refine ⟨_, rfl, ?_⟩) | ((with_reducible refine gate_callee (f := 13) rfl ?_); refine goesL_ (some 13) rfl rfl Try.func13 (by kernel_rfl) rfl #[.string (⟨#[97, 58, 98]⟩ : ByteArray)] rfl (by (try simp only [List.map_toArray, List.map_cons, List.map_nil]); first | done | rfl | (simp only [List.length_drop, List.length_take]; rfl)) ?_; (with_reducible refine (char_QName.calls k (⟨#[97, 58, 98]⟩ : ByteArray) t144 t145 true _ A3.out).mono ?_); rintro e w31 ⟨rfl, hb⟩; refine ⟨_, rfl, ?_⟩; have n0_ := Aside0.mk (Kd.V_below (by (with_reducible repeat (first | apply Kd.V_alloc | apply Kd.V_drewN | apply Kd.V_drew)); exact HO141.out) hb); have n1_ := Aside0.mk (below_step (by repeat (first | (with_reducible first | exact HB.out | apply below_alloc | apply pw_below_drewN | apply below_drew1) | exact HB.out)) hb); clear HO141; clear HB; have HO141 := n0_; have HB := n1_; clear n0_ n1_; (try clear hb); (try clear hb2); (try clear hk); (try clear hi)) | (go_at_call 10; (with_reducible refine (char_Space.calls k (⟨#[32, 97, 32, 9, 32, 98, 32]⟩ : ByteArray) 3 t147 _ A9.out).mono ?_); rintro e w32 ⟨rfl, hb⟩; have n0_ := Aside0.mk (Kd.V_below (by (with_reducible repeat (first | apply Kd.V_alloc | apply Kd.V_drewN | apply Kd.V_drew)); exact HO141.out) hb); have n1_ := Aside0.mk (below_step (by repeat (first | (with_reducible first | exact HB.out | apply below_alloc | apply pw_below_drewN | apply below_drew1) | exact HB.out)) hb); clear HO141; clear HB; have HO141 := n0_; have HB := n1_; clear n0_ n1_; (try clear hb); (try clear hb2); (try clear hk); (try clear hi)) | (go_at_call 15; (with_reducible refine (char_Name.calls k (⟨#[120, 49]⟩ : ByteArray) false _ A11.out).mono ?_); rintro e w33 ⟨rfl, hb⟩; have n0_ := Aside0.mk (Kd.V_below (by (with_reducible repeat (first | apply Kd.V_alloc | apply Kd.V_drewN | apply Kd.V_drew)); exact HO141.out) hb); have n1_ := Aside0.mk (below_step (by repeat (first | (with_reducible first | exact HB.out | apply below_alloc | apply pw_below_drewN | apply below_drew1) | exact HB.out)) hb); clear HO141; clear HB; have HO141 := n0_; have HB := n1_; clear n0_ n1_; (try clear hb); (try clear hb2); (try clear hk); (try clear hi)))
                go_ret
                exact ⟨by first | rfl | (simp [errW_none, errW_some] <;> rfl) | (simp [*, errW_none, errW_some] <;> rfl), by repeat (first | (with_reducible first | exact HB.out | apply below_alloc | apply pw_below_drewN | apply below_drew1) | exact HB.out)⟩
            · rw [if_neg c10] at H
              have c10b0 : (t147.toList == ([97, 32, 98] : List UInt8)) = false := beq_eq_false_iff_ne.mpr c10
              have c10b1 : (t147.toList != ([97, 32, 98] : List UInt8)) = true := bne_iff_ne.mpr c10
              obtain rfl := Option.some.inj H
              go_enter Try.func9, Try.ntmps9
              go_wp2_with (first | ((with_reducible refine conv_lit.gate (N := 7) rfl ?_); refine conv_lit.step 32 5 Try.underlying32 Try.underlying5 7 (some 8) rfl rfl rfl rfl rfl ([240, 159, 152, 128, 120] : List Int) t139 A1.out (fun _ => rfl) ?hr ?_; (case hr => first | (go_simp; done) | (go_simp; rfl)); rintro e w34 ⟨v140, rfl, ho0, hb⟩; refine ⟨_, rfl, ?_⟩; have n0_ := Aside0.mk (Kd.V_lower (Kd.V_mono (ok' := fun k_ => True) ho0 (fun k_ hk_ => trivial)) (below_size (by repeat (first | (with_reducible first | exact HB.out | apply below_alloc | apply pw_below_drewN | apply below_drew1) | exact HB.out)))); have n1_ := Aside0.mk (below_step (by repeat (first | (with_reducible first | exact HB.out | apply below_alloc | apply pw_below_drewN | apply below_drew1) | exact HB.out)) hb); clear HB; have HO141 := n0_; have HB := n1_; clear n0_ n1_; (try clear hb); (try clear hb2); (try clear hk); (try clear hi); (try clear ho0); obtain ⟨Ao35, co35, eo35⟩ := Kd.V_slice HO141.out; subst eo35) | ((with_reducible refine gate_callee (f := 23) rfl ?_); refine goesL_ (some 9) rfl rfl Try.func23 (by kernel_rfl) rfl #[.slice Ao35 t139.length co35] rfl (by (try simp only [List.map_toArray, List.map_cons, List.map_nil]); first | done | rfl | (simp only [List.length_drop, List.length_take]; rfl)) ?_; (with_reducible refine (char_Decode.calls _ _ t139 t142 t143 _ ?side1 ?side2 A2.out).mono ?_); (case side1 => repeat (first | exact (Kd.V_reads' HO141.out).2.2 | (with_reducible refine Kd.C_alloc ?_ _) | (with_reducible refine Kd.C_drewN ?_ _) | (with_reducible refine Kd.C_drew ?_))); (case side2 => exact (Kd.V_reads' HO141.out).2.1); rintro e w' ⟨rfl, ⟨nd, rfl⟩⟩; refine ⟨_, rfl, ?_⟩) | ((with_reducible refine gate_callee (f := 13) rfl ?_); refine goesL_ (some 13) rfl rfl Try.func13 (by kernel_rfl) rfl #[.string (⟨#[97, 58, 98]⟩ : ByteArray)] rfl (by (try simp only [List.map_toArray, List.map_cons, List.map_nil]); first | done | rfl | (simp only [List.length_drop, List.length_take]; rfl)) ?_; (with_reducible refine (char_QName.calls k (⟨#[97, 58, 98]⟩ : ByteArray) t144 t145 true _ A3.out).mono ?_); rintro e w36 ⟨rfl, hb⟩; refine ⟨_, rfl, ?_⟩; have n0_ := Aside0.mk (Kd.V_below (by (with_reducible repeat (first | apply Kd.V_alloc | apply Kd.V_drewN | apply Kd.V_drew)); exact HO141.out) hb); have n1_ := Aside0.mk (below_step (by repeat (first | (with_reducible first | exact HB.out | apply below_alloc | apply pw_below_drewN | apply below_drew1) | exact HB.out)) hb); clear HO141; clear HB; have HO141 := n0_; have HB := n1_; clear n0_ n1_; (try clear hb); (try clear hb2); (try clear hk); (try clear hi)) | (go_at_call 10; (with_reducible refine (char_Space.calls k (⟨#[32, 97, 32, 9, 32, 98, 32]⟩ : ByteArray) 3 t147 _ A9.out).mono ?_); rintro e w37 ⟨rfl, hb⟩; have n0_ := Aside0.mk (Kd.V_below (by (with_reducible repeat (first | apply Kd.V_alloc | apply Kd.V_drewN | apply Kd.V_drew)); exact HO141.out) hb); have n1_ := Aside0.mk (below_step (by repeat (first | (with_reducible first | exact HB.out | apply below_alloc | apply pw_below_drewN | apply below_drew1) | exact HB.out)) hb); clear HO141; clear HB; have HO141 := n0_; have HB := n1_; clear n0_ n1_; (try clear hb); (try clear hb2); (try clear hk); (try clear hi)))
              go_ret
              exact ⟨by first | rfl | (simp [errW_none, errW_some] <;> rfl) | (simp [*, errW_none, errW_some] <;> rfl), by repeat (first | (with_reducible first | exact HB.out | apply below_alloc | apply pw_below_drewN | apply below_drew1) | exact HB.out)⟩
          · replace c8 := Bool.eq_false_iff.mpr c8
            subst c8
            have H1 : (some false) = some r := by rw [if_neg (show ¬ (false = true) by decide)] at H; exact H
            clear H
            have H := H1
            clear H1
            obtain rfl := Option.some.inj H
            go_enter Try.func9, Try.ntmps9
            go_wp2_with (first | ((with_reducible refine conv_lit.gate (N := 7) rfl ?_); refine conv_lit.step 32 5 Try.underlying32 Try.underlying5 7 (some 8) rfl rfl rfl rfl rfl ([240, 159, 152, 128, 120] : List Int) t139 A1.out (fun _ => rfl) ?hr ?_; (case hr => first | (go_simp; done) | (go_simp; rfl)); rintro e w38 ⟨v140, rfl, ho0, hb⟩; refine ⟨_, rfl, ?_⟩; have n0_ := Aside0.mk (Kd.V_lower (Kd.V_mono (ok' := fun k_ => True) ho0 (fun k_ hk_ => trivial)) (below_size (by repeat (first | (with_reducible first | exact HB.out | apply below_alloc | apply pw_below_drewN | apply below_drew1) | exact HB.out)))); have n1_ := Aside0.mk (below_step (by repeat (first | (with_reducible first | exact HB.out | apply below_alloc | apply pw_below_drewN | apply below_drew1) | exact HB.out)) hb); clear HB; have HO141 := n0_; have HB := n1_; clear n0_ n1_; (try clear hb); (try clear hb2); (try clear hk); (try clear hi); (try clear ho0); obtain ⟨Ao39, co39, eo39⟩ := Kd.V_slice HO141.out; subst eo39) | ((with_reducible refine gate_callee (f := 23) rfl ?_); refine goesL_ (some 9) rfl rfl Try.func23 (by kernel_rfl) rfl #[.slice Ao39 t139.length co39] rfl (by (try simp only [List.map_toArray, List.map_cons, List.map_nil]); first | done | rfl | (simp only [List.length_drop, List.length_take]; rfl)) ?_; (with_reducible refine (char_Decode.calls _ _ t139 t142 t143 _ ?side1 ?side2 A2.out).mono ?_); (case side1 => repeat (first | exact (Kd.V_reads' HO141.out).2.2 | (with_reducible refine Kd.C_alloc ?_ _) | (with_reducible refine Kd.C_drewN ?_ _) | (with_reducible refine Kd.C_drew ?_))); (case side2 => exact (Kd.V_reads' HO141.out).2.1); rintro e w' ⟨rfl, ⟨nd, rfl⟩⟩; refine ⟨_, rfl, ?_⟩) | ((with_reducible refine gate_callee (f := 13) rfl ?_); refine goesL_ (some 13) rfl rfl Try.func13 (by kernel_rfl) rfl #[.string (⟨#[97, 58, 98]⟩ : ByteArray)] rfl (by (try simp only [List.map_toArray, List.map_cons, List.map_nil]); first | done | rfl | (simp only [List.length_drop, List.length_take]; rfl)) ?_; (with_reducible refine (char_QName.calls k (⟨#[97, 58, 98]⟩ : ByteArray) t144 t145 false _ A3.out).mono ?_); rintro e w40 ⟨rfl, hb⟩; refine ⟨_, rfl, ?_⟩; have n0_ := Aside0.mk (Kd.V_below (by (with_reducible repeat (first | apply Kd.V_alloc | apply Kd.V_drewN | apply Kd.V_drew)); exact HO141.out) hb); have n1_ := Aside0.mk (below_step (by repeat (first | (with_reducible first | exact HB.out | apply below_alloc | apply pw_below_drewN | apply below_drew1) | exact HB.out)) hb); clear HO141; clear HB; have HO141 := n0_; have HB := n1_; clear n0_ n1_; (try clear hb); (try clear hb2); (try clear hk); (try clear hi)))
            go_ret
            exact ⟨by first | rfl | (simp [errW_none, errW_some] <;> rfl) | (simp [*, errW_none, errW_some] <;> rfl), by repeat (first | (with_reducible first | exact HB.out | apply below_alloc | apply pw_below_drewN | apply below_drew1) | exact HB.out)⟩
        · rw [if_neg c7] at H
          have c7b0 : (t145.toList == ([98] : List UInt8)) = false := beq_eq_false_iff_ne.mpr c7
          have c7b1 : (t145.toList != ([98] : List UInt8)) = true := bne_iff_ne.mpr c7
          obtain rfl := Option.some.inj H
          go_enter Try.func9, Try.ntmps9
          go_wp2_with (first | ((with_reducible refine conv_lit.gate (N := 7) rfl ?_); refine conv_lit.step 32 5 Try.underlying32 Try.underlying5 7 (some 8) rfl rfl rfl rfl rfl ([240, 159, 152, 128, 120] : List Int) t139 A1.out (fun _ => rfl) ?hr ?_; (case hr => first | (go_simp; done) | (go_simp; rfl)); rintro e w41 ⟨v140, rfl, ho0, hb⟩; refine ⟨_, rfl, ?_⟩; have n0_ := Aside0.mk (Kd.V_lower (Kd.V_mono (ok' := fun k_ => True) ho0 (fun k_ hk_ => trivial)) (below_size (by repeat (first | (with_reducible first | exact HB.out | apply below_alloc | apply pw_below_drewN | apply below_drew1) | exact HB.out)))); have n1_ := Aside0.mk (below_step (by repeat (first | (with_reducible first | exact HB.out | apply below_alloc | apply pw_below_drewN | apply below_drew1) | exact HB.out)) hb); clear HB; have HO141 := n0_; have HB := n1_; clear n0_ n1_; (try clear hb); (try clear hb2); (try clear hk); (try clear hi); (try clear ho0); obtain ⟨Ao42, co42, eo42⟩ := Kd.V_slice HO141.out; subst eo42) | ((with_reducible refine gate_callee (f := 23) rfl ?_); refine goesL_ (some 9) rfl rfl Try.func23 (by kernel_rfl) rfl #[.slice Ao42 t139.length co42] rfl (by (try simp only [List.map_toArray, List.map_cons, List.map_nil]); first | done | rfl | (simp only [List.length_drop, List.length_take]; rfl)) ?_; (with_reducible refine (char_Decode.calls _ _ t139 t142 t143 _ ?side1 ?side2 A2.out).mono ?_); (case side1 => repeat (first | exact (Kd.V_reads' HO141.out).2.2 | (with_reducible refine Kd.C_alloc ?_ _) | (with_reducible refine Kd.C_drewN ?_ _) | (with_reducible refine Kd.C_drew ?_))); (case side2 => exact (Kd.V_reads' HO141.out).2.1); rintro e w' ⟨rfl, ⟨nd, rfl⟩⟩; refine ⟨_, rfl, ?_⟩) | ((with_reducible refine gate_callee (f := 13) rfl ?_); refine goesL_ (some 13) rfl rfl Try.func13 (by kernel_rfl) rfl #[.string (⟨#[97, 58, 98]⟩ : ByteArray)] rfl (by (try simp only [List.map_toArray, List.map_cons, List.map_nil]); first | done | rfl | (simp only [List.length_drop, List.length_take]; rfl)) ?_; (with_reducible refine (char_QName.calls k (⟨#[97, 58, 98]⟩ : ByteArray) t144 t145 t146 _ A3.out).mono ?_); rintro e w43 ⟨rfl, hb⟩; refine ⟨_, rfl, ?_⟩; have n0_ := Aside0.mk (Kd.V_below (by (with_reducible repeat (first | apply Kd.V_alloc | apply Kd.V_drewN | apply Kd.V_drew)); exact HO141.out) hb); have n1_ := Aside0.mk (below_step (by repeat (first | (with_reducible first | exact HB.out | apply below_alloc | apply pw_below_drewN | apply below_drew1) | exact HB.out)) hb); clear HO141; clear HB; have HO141 := n0_; have HB := n1_; clear n0_ n1_; (try clear hb); (try clear hb2); (try clear hk); (try clear hi)))
          go_ret
          exact ⟨by first | rfl | (simp [errW_none, errW_some] <;> rfl) | (simp [*, errW_none, errW_some] <;> rfl), by repeat (first | (with_reducible first | exact HB.out | apply below_alloc | apply pw_below_drewN | apply below_drew1) | exact HB.out)⟩
      · rw [if_neg c6] at H
        have c6b0 : (t144.toList == ([97] : List UInt8)) = false := beq_eq_false_iff_ne.mpr c6
        have c6b1 : (t144.toList != ([97] : List UInt8)) = true := bne_iff_ne.mpr c6
        obtain rfl := Option.some.inj H
        go_enter Try.func9, Try.ntmps9
        go_wp2_with (first | ((with_reducible refine conv_lit.gate (N := 7) rfl ?_); refine conv_lit.step 32 5 Try.underlying32 Try.underlying5 7 (some 8) rfl rfl rfl rfl rfl ([240, 159, 152, 128, 120] : List Int) t139 A1.out (fun _ => rfl) ?hr ?_; (case hr => first | (go_simp; done) | (go_simp; rfl)); rintro e w44 ⟨v140, rfl, ho0, hb⟩; refine ⟨_, rfl, ?_⟩; have n0_ := Aside0.mk (Kd.V_lower (Kd.V_mono (ok' := fun k_ => True) ho0 (fun k_ hk_ => trivial)) (below_size (by repeat (first | (with_reducible first | exact HB.out | apply below_alloc | apply pw_below_drewN | apply below_drew1) | exact HB.out)))); have n1_ := Aside0.mk (below_step (by repeat (first | (with_reducible first | exact HB.out | apply below_alloc | apply pw_below_drewN | apply below_drew1) | exact HB.out)) hb); clear HB; have HO141 := n0_; have HB := n1_; clear n0_ n1_; (try clear hb); (try clear hb2); (try clear hk); (try clear hi); (try clear ho0); obtain ⟨Ao45, co45, eo45⟩ := Kd.V_slice HO141.out; subst eo45) | ((with_reducible refine gate_callee (f := 23) rfl ?_); refine goesL_ (some 9) rfl rfl Try.func23 (by kernel_rfl) rfl #[.slice Ao45 t139.length co45] rfl (by (try simp only [List.map_toArray, List.map_cons, List.map_nil]); first | done | rfl | (simp only [List.length_drop, List.length_take]; rfl)) ?_; (with_reducible refine (char_Decode.calls _ _ t139 t142 t143 _ ?side1 ?side2 A2.out).mono ?_); (case side1 => repeat (first | exact (Kd.V_reads' HO141.out).2.2 | (with_reducible refine Kd.C_alloc ?_ _) | (with_reducible refine Kd.C_drewN ?_ _) | (with_reducible refine Kd.C_drew ?_))); (case side2 => exact (Kd.V_reads' HO141.out).2.1); rintro e w' ⟨rfl, ⟨nd, rfl⟩⟩; refine ⟨_, rfl, ?_⟩) | ((with_reducible refine gate_callee (f := 13) rfl ?_); refine goesL_ (some 13) rfl rfl Try.func13 (by kernel_rfl) rfl #[.string (⟨#[97, 58, 98]⟩ : ByteArray)] rfl (by (try simp only [List.map_toArray, List.map_cons, List.map_nil]); first | done | rfl | (simp only [List.length_drop, List.length_take]; rfl)) ?_; (with_reducible refine (char_QName.calls k (⟨#[97, 58, 98]⟩ : ByteArray) t144 t145 t146 _ A3.out).mono ?_); rintro e w46 ⟨rfl, hb⟩; refine ⟨_, rfl, ?_⟩; have n0_ := Aside0.mk (Kd.V_below (by (with_reducible repeat (first | apply Kd.V_alloc | apply Kd.V_drewN | apply Kd.V_drew)); exact HO141.out) hb); have n1_ := Aside0.mk (below_step (by repeat (first | (with_reducible first | exact HB.out | apply below_alloc | apply pw_below_drewN | apply below_drew1) | exact HB.out)) hb); clear HO141; clear HB; have HO141 := n0_; have HB := n1_; clear n0_ n1_; (try clear hb); (try clear hb2); (try clear hk); (try clear hi)))
        go_ret
        exact ⟨by first | rfl | (simp [errW_none, errW_some] <;> rfl) | (simp [*, errW_none, errW_some] <;> rfl), by repeat (first | (with_reducible first | exact HB.out | apply below_alloc | apply pw_below_drewN | apply below_drew1) | exact HB.out)⟩
    · rw [if_neg c5] at H
      have c5b0 : (t143 == 4) = false := beq_eq_false_iff_ne.mpr c5
      have c5b1 : (t143 != 4) = true := bne_iff_ne.mpr c5
      obtain rfl := Option.some.inj H
      go_enter Try.func9, Try.ntmps9
      go_wp2_with (first | ((with_reducible refine conv_lit.gate (N := 7) rfl ?_); refine conv_lit.step 32 5 Try.underlying32 Try.underlying5 7 (some 8) rfl rfl rfl rfl rfl ([240, 159, 152, 128, 120] : List Int) t139 A1.out (fun _ => rfl) ?hr ?_; (case hr => first | (go_simp; done) | (go_simp; rfl)); rintro e w47 ⟨v140, rfl, ho0, hb⟩; refine ⟨_, rfl, ?_⟩; have n0_ := Aside0.mk (Kd.V_lower (Kd.V_mono (ok' := fun k_ => True) ho0 (fun k_ hk_ => trivial)) (below_size (by repeat (first | (with_reducible first | exact HB.out | apply below_alloc | apply pw_below_drewN | apply below_drew1) | exact HB.out)))); have n1_ := Aside0.mk (below_step (by repeat (first | (with_reducible first | exact HB.out | apply below_alloc | apply pw_below_drewN | apply below_drew1) | exact HB.out)) hb); clear HB; have HO141 := n0_; have HB := n1_; clear n0_ n1_; (try clear hb); (try clear hb2); (try clear hk); (try clear hi); (try clear ho0); obtain ⟨Ao48, co48, eo48⟩ := Kd.V_slice HO141.out; subst eo48) | ((with_reducible refine gate_callee (f := 23) rfl ?_); refine goesL_ (some 9) rfl rfl Try.func23 (by kernel_rfl) rfl #[.slice Ao48 t139.length co48] rfl (by (try simp only [List.map_toArray, List.map_cons, List.map_nil]); first | done | rfl | (simp only [List.length_drop, List.length_take]; rfl)) ?_; (with_reducible refine (char_Decode.calls _ _ t139 t142 t143 _ ?side1 ?side2 A2.out).mono ?_); (case side1 => repeat (first | exact (Kd.V_reads' HO141.out).2.2 | (with_reducible refine Kd.C_alloc ?_ _) | (with_reducible refine Kd.C_drewN ?_ _) | (with_reducible refine Kd.C_drew ?_))); (case side2 => exact (Kd.V_reads' HO141.out).2.1); rintro e w' ⟨rfl, ⟨nd, rfl⟩⟩; refine ⟨_, rfl, ?_⟩) | ((with_reducible refine gate_callee (f := 13) rfl ?_); refine goesL_ (some 13) rfl rfl Try.func13 (by kernel_rfl) rfl #[.string (⟨#[97, 58, 98]⟩ : ByteArray)] rfl (by (try simp only [List.map_toArray, List.map_cons, List.map_nil]); first | done | rfl | (simp only [List.length_drop, List.length_take]; rfl)) ?_; (with_reducible refine (char_QName.calls k (⟨#[97, 58, 98]⟩ : ByteArray) t144 t145 t146 _ A3.out).mono ?_); rintro e w49 ⟨rfl, hb⟩; refine ⟨_, rfl, ?_⟩; have n0_ := Aside0.mk (Kd.V_below (by (with_reducible repeat (first | apply Kd.V_alloc | apply Kd.V_drewN | apply Kd.V_drew)); exact HO141.out) hb); have n1_ := Aside0.mk (below_step (by repeat (first | (with_reducible first | exact HB.out | apply below_alloc | apply pw_below_drewN | apply below_drew1) | exact HB.out)) hb); clear HO141; clear HB; have HO141 := n0_; have HB := n1_; clear n0_ n1_; (try clear hb); (try clear hb2); (try clear hk); (try clear hi)))
      go_ret
      exact ⟨by first | rfl | (simp [errW_none, errW_some] <;> rfl) | (simp [*, errW_none, errW_some] <;> rfl), by repeat (first | (with_reducible first | exact HB.out | apply below_alloc | apply pw_below_drewN | apply below_drew1) | exact HB.out)⟩
  · rw [if_neg c4] at H
    have c4b0 : (t142 == 128512) = false := beq_eq_false_iff_ne.mpr c4
    have c4b1 : (t142 != 128512) = true := bne_iff_ne.mpr c4
    obtain rfl := Option.some.inj H
    go_enter Try.func9, Try.ntmps9
    go_wp2_with (first | ((with_reducible refine conv_lit.gate (N := 7) rfl ?_); refine conv_lit.step 32 5 Try.underlying32 Try.underlying5 7 (some 8) rfl rfl rfl rfl rfl ([240, 159, 152, 128, 120] : List Int) t139 A1.out (fun _ => rfl) ?hr ?_; (case hr => first | (go_simp; done) | (go_simp; rfl)); rintro e w50 ⟨v140, rfl, ho0, hb⟩; refine ⟨_, rfl, ?_⟩; have n0_ := Aside0.mk (Kd.V_lower (Kd.V_mono (ok' := fun k_ => True) ho0 (fun k_ hk_ => trivial)) (below_size (by repeat (first | (with_reducible first | exact HB.out | apply below_alloc | apply pw_below_drewN | apply below_drew1) | exact HB.out)))); have n1_ := Aside0.mk (below_step (by repeat (first | (with_reducible first | exact HB.out | apply below_alloc | apply pw_below_drewN | apply below_drew1) | exact HB.out)) hb); clear HB; have HO141 := n0_; have HB := n1_; clear n0_ n1_; (try clear hb); (try clear hb2); (try clear hk); (try clear hi); (try clear ho0); obtain ⟨Ao51, co51, eo51⟩ := Kd.V_slice HO141.out; subst eo51) | ((with_reducible refine gate_callee (f := 23) rfl ?_); refine goesL_ (some 9) rfl rfl Try.func23 (by kernel_rfl) rfl #[.slice Ao51 t139.length co51] rfl (by (try simp only [List.map_toArray, List.map_cons, List.map_nil]); first | done | rfl | (simp only [List.length_drop, List.length_take]; rfl)) ?_; (with_reducible refine (char_Decode.calls _ _ t139 t142 t143 _ ?side1 ?side2 A2.out).mono ?_); (case side1 => repeat (first | exact (Kd.V_reads' HO141.out).2.2 | (with_reducible refine Kd.C_alloc ?_ _) | (with_reducible refine Kd.C_drewN ?_ _) | (with_reducible refine Kd.C_drew ?_))); (case side2 => exact (Kd.V_reads' HO141.out).2.1); rintro e w' ⟨rfl, ⟨nd, rfl⟩⟩; refine ⟨_, rfl, ?_⟩) | ((with_reducible refine gate_callee (f := 13) rfl ?_); refine goesL_ (some 13) rfl rfl Try.func13 (by kernel_rfl) rfl #[.string (⟨#[97, 58, 98]⟩ : ByteArray)] rfl (by (try simp only [List.map_toArray, List.map_cons, List.map_nil]); first | done | rfl | (simp only [List.length_drop, List.length_take]; rfl)) ?_; (with_reducible refine (char_QName.calls k (⟨#[97, 58, 98]⟩ : ByteArray) t144 t145 t146 _ A3.out).mono ?_); rintro e w52 ⟨rfl, hb⟩; refine ⟨_, rfl, ?_⟩; have n0_ := Aside0.mk (Kd.V_below (by (with_reducible repeat (first | apply Kd.V_alloc | apply Kd.V_drewN | apply Kd.V_drew)); exact HO141.out) hb); have n1_ := Aside0.mk (below_step (by repeat (first | (with_reducible first | exact HB.out | apply below_alloc | apply pw_below_drewN | apply below_drew1) | exact HB.out)) hb); clear HO141; clear HB; have HO141 := n0_; have HB := n1_; clear n0_ n1_; (try clear hb); (try clear hb2); (try clear hk); (try clear hi)))
    go_ret
    exact ⟨by first | rfl | (simp [errW_none, errW_some] <;> rfl) | (simp [*, errW_none, errW_some] <;> rfl), by repeat (first | (with_reducible first | exact HB.out | apply below_alloc | apply pw_below_drewN | apply below_drew1) | exact HB.out)⟩

/-! ### char_every_char_Part_char_Part: function 41 -/
def char_every_char_Part_char_Part.l0 : Nat → ByteArray → List Int → Int → Option (Bool)
  | 0, _, _, _ => none
  | k + 1, x0, x7, x8 => if x8 < (x7.length : Int) then (if 0 ≤ x8 then (if x8 ≤ (x7.length : Int) then ((char_Decode.f (x7.drop (x8 : Int).toNat)).bind fun bt159 => (if bt159.2 = 0 then (some false) else (if x8 = 0 then ((char_Part.f k bt159.1).bind fun t161 => (if t161 = true then (char_every_char_Part_char_Part.l0 k x0 x7 (wrap64 (x8 + bt159.2))) else (some false))) else ((char_Part.f k bt159.1).bind fun t162 => (if t162 = true then (char_every_char_Part_char_Part.l0 k x0 x7 (wrap64 (x8 + bt159.2))) else (some false)))))) else (none)) else (none)) else (some (!x0.toList.isEmpty))
def char_every_char_Part_char_Part.f (k : Nat) (a0 : ByteArray) : Option (Bool) := (conv_bytes.f a0).bind fun t151 => (char_every_char_Part_char_Part.l0 k a0 t151 0)
theorem char_every_char_Part_char_Part.mono_l : ∀ k, (∀ y0 y1 y2, LeO (char_every_char_Part_char_Part.l0 k y0 y1 y2) (char_every_char_Part_char_Part.l0 (k + 1) y0 y1 y2))
  | 0 => fun _ _ _ r h => by simp [char_every_char_Part_char_Part.l0] at h
  | k + 1 => by
    have ih0 := char_every_char_Part_char_Part.mono_l k
    · intro y0 y1 y2
      unfold char_every_char_Part_char_Part.l0
      repeat' first
      | (with_reducible exact ih0 _ _ _)
      | (with_reducible exact char_Part.mono _ _)
      | (with_reducible exact LeO.refl _)
      | (with_reducible exact LeO.none _)
      | (with_reducible refine LeO.ite ?_ ?_)
      | (with_reducible refine LeO.bind ?_ (fun _ => ?_))
      | exact ih0 _ _ _
      | exact char_Part.mono _ _
      | exact LeO.none _
      | refine LeO.ite ?_ ?_
      | refine LeO.bind ?_ (fun _ => ?_)
theorem char_every_char_Part_char_Part.mono : ∀ a0 k, LeO (char_every_char_Part_char_Part.f k a0) (char_every_char_Part_char_Part.f (k + 1) a0) := by
  intro a0 k
  have ih0 := char_every_char_Part_char_Part.mono_l k
  unfold char_every_char_Part_char_Part.f
  repeat' first
      | (with_reducible exact ih0 _ _ _)
      | (with_reducible exact char_Part.mono _ _)
      | (with_reducible exact LeO.refl _)
      | (with_reducible exact LeO.none _)
      | (with_reducible refine LeO.ite ?_ ?_)
      | (with_reducible refine LeO.bind ?_ (fun _ => ?_))
      | exact ih0 _ _ _
      | exact char_Part.mono _ _
      | exact LeO.none _
      | refine LeO.ite ?_ ?_
      | refine LeO.bind ?_ (fun _ => ?_)
set_option maxHeartbeats 8000000 in
set_option maxRecDepth 100000 in
theorem char_every_char_Part_char_Part.calls (k : Nat) (a0 : ByteArray) (r : Bool) (w : World) (h : char_every_char_Part_char_Part.f k a0 = some r) :
    Calls Try.prog 41 #[.string a0, .func (.func 35) #[] #[], .func (.func 35) #[] #[]] w fun e w' => e = .returned (.bool r) ∧ Below w.heap.size w w' := by
  have HB := Aside0.mk (Below.refl w.heap.size w)
  have H : ((conv_bytes.f a0).bind fun t151 => (char_every_char_Part_char_Part.l0 k a0 t151 0)) = some r := h
  clear h
  replace H := Option.bind_eq_some_iff.mp H
  obtain ⟨t151, A20, H⟩ := H
  replace H : (char_every_char_Part_char_Part.l0 k a0 t151 0) = some r := H
  have A2 := Aside0.mk A20
  clear A20
  have H' := Aside0.mk H
  clear H
  go_enter Try.func41, Try.ntmps41
  go_wp2_with (first | ((with_reducible refine conv_bytes.gate (src := 9) (dst := 32) rfl ?_); refine conv_bytes.step 9 32 5 Try.underlying9 Try.underlying32 Try.underlying5 (some 12) rfl rfl rfl a0 t151 rfl A2.out ?_; rintro e w3 ⟨v152, rfl, ho0, hb⟩; refine ⟨_, rfl, ?_⟩; have n0_ := Aside0.mk (Kd.V_lower (Kd.V_mono (ok' := fun k_ => True) ho0 (fun k_ hk_ => trivial)) (below_size (by repeat (first | (with_reducible first | exact HB.out | apply below_alloc | apply pw_below_drewN | apply below_drew1) | exact HB.out)))); have n1_ := Aside0.mk (below_step (by repeat (first | (with_reducible first | exact HB.out | apply below_alloc | apply pw_below_drewN | apply below_drew1) | exact HB.out)) hb); clear HB; have HO153 := n0_; have HB := n1_; clear n0_ n1_; (try clear hb); (try clear hb2); (try clear hk); (try clear hi); (try clear ho0)))
  go_loopg [8] k (fun kq v8 w' => ∃ (x8_1 : Int), v8 = .int .i64 x8_1 ∧ Aside0 (char_every_char_Part_char_Part.l0 kq a0 t151 x8_1 = some r) ∧ Aside0 (kq ≤ k) ∧ Aside0 (Kd.V (Kd.int .u8) 5 w' w.heap.size (fun _ => True) v152 t151) ∧ Aside0 (Below w.heap.size w w'))
  case atStart => exact ⟨(0), (by first | rfl | (simp; done) | (simp [*]; done)), H', ⟨Nat.le_refl _⟩, ⟨by (with_reducible repeat (first | apply Kd.V_alloc | apply Kd.V_drewN | apply Kd.V_drew)); exact HO153.out⟩, ⟨by repeat (first | (with_reducible first | exact HB.out | apply below_alloc | apply pw_below_drewN | apply below_drew1) | exact HB.out)⟩⟩
  case round =>
    clear H'
    try clear p2
    try clear c3
    obtain ⟨x8_1, rfl, HA, HK1, HO_7, HB⟩ := hrel
    cases gk with
    | zero => exact absurd HA.out (by simp [char_every_char_Part_char_Part.l0])
    | succ k1 =>
      have H := HA.out
      clear HA
      simp only [char_every_char_Part_char_Part.l0] at H
      by_cases c4 : x8_1 < (t151.length : Int)
      · rw [if_pos c4] at H
        have c4b0 : decide (x8_1 < (t151.length : Int)) = true := decide_eq_true c4
        clear c4
        by_cases c5 : 0 ≤ x8_1
        · rw [if_pos c5] at H
          have c5b0 := eq_true c5
          have c5b1 : decide (0 ≤ x8_1) = true := decide_eq_true c5
          clear c5
          by_cases c6 : x8_1 ≤ (t151.length : Int)
          · rw [if_pos c6] at H
            have c6b0 := eq_true c6
            have c6b1 : decide (x8_1 ≤ (t151.length : Int)) = true := decide_eq_true c6
            clear c6
            obtain ⟨y154, hy154⟩ : ∃ y_ : List Int, y_ = (t151.drop (x8_1 : Int).toNat) := ⟨_, rfl⟩
            replace H : ((char_Decode.f y154).bind fun bt159 => (if bt159.2 = 0 then (some false) else (if x8_1 = 0 then ((char_Part.f k1 bt159.1).bind fun t161 => (if t161 = true then (char_every_char_Part_char_Part.l0 k1 a0 t151 (wrap64 (x8_1 + bt159.2))) else (some false))) else ((char_Part.f k1 bt159.1).bind fun t162 => (if t162 = true then (char_every_char_Part_char_Part.l0 k1 a0 t151 (wrap64 (x8_1 + bt159.2))) else (some false)))))) = some r := by first | (rw [hy154]; with_reducible exact H) | (have H2_ := (Option.bind_some _ _).symm.trans H; rw [hy154]; with_reducible exact H2_) | (have H2_ := (Option.bind_some _ _).symm.trans H; with_reducible exact H2_) | with_reducible exact H | (rw [hy154]; exact H) | exact H
            have Ny154 := Aside0.mk hy154
            clear hy154
            replace H := Option.bind_eq_some_iff.mp H
            obtain ⟨⟨t159, t160⟩, A70, H⟩ := H
            replace H : (if t160 = 0 then (some false) else (if x8_1 = 0 then ((char_Part.f k1 t159).bind fun t161 => (if t161 = true then (char_every_char_Part_char_Part.l0 k1 a0 t151 (wrap64 (x8_1 + t160))) else (some false))) else ((char_Part.f k1 t159).bind fun t162 => (if t162 = true then (char_every_char_Part_char_Part.l0 k1 a0 t151 (wrap64 (x8_1 + t160))) else (some false))))) = some r := H
            have A7 := Aside0.mk A70
            clear A70
            by_cases c8 : t160 = 0
            · rw [if_pos c8] at H
              have c8b0 : (t160 == 0) = true := beq_iff_eq.mpr c8
              have c8b1 : (t160 != 0) = false := bne_eq_false_iff_eq.mpr c8
              clear c8
              obtain rfl := Option.some.inj H
              obtain ⟨Ao9, co9, eo9⟩ := Kd.V_slice HO_7.out
              subst eo9
              have q10 : (x8_1 : Int) ≤ ((t151.length : Int) : Int) := of_decide_eq_true (by first | (with_reducible assumption) | assumption)
              obtain ⟨i010, hi010, _, hsz10, _⟩ := info_parts info5
              have hroom10 : t151.length ≤ co9 := (Kd.V_reads' HO_7.out).2.1
              have hC10 : Kd.F (Kd.int .u8) _ _ Ao9 t151.length t151 := (Kd.V_at (base := w.heap.size) HO_7.out).2.2
              have q010 : (0 : Int) ≤ (x8_1 : Int) := of_decide_eq_true (by first | (with_reducible assumption) | assumption)
              have hcut10 := cut_from (P := Try.prog) 32 5 .i64 Try.underlying32 hi010 1 hsz10 Ao9 t151.length co9 x8_1 q010 q10
              have hr10 := Kd.F_cut (m := (x8_1 : Int).toNat) (c := co9) hC10 (by omega) hroom10
              obtain ⟨A10, hA10⟩ : ∃ A1, A1 = (if co9 = (x8_1 : Int).toNat then Ao9 else (Ao9 : Option Addr).map (·.add ((x8_1 : Int).toNat * 1))) := ⟨_, rfl⟩
              obtain ⟨c10, hc10⟩ : ∃ c1, c1 = co9 - (x8_1 : Int).toNat := ⟨_, rfl⟩
              have hy10 : y154.length = t151.length - (x8_1 : Int).toNat := (by rw [Ny154.out, List.length_drop] <;> omega)
              rw [show (t151).drop (x8_1 : Int).toNat = y154 from Ny154.out.symm] at hr10
              replace hr10 : Kd.F (Kd.int .u8) _ _ A10 y154.length y154 := (by rw [hA10]; exact hr10)
              rw [← hy10, ← hA10, ← hc10] at hcut10
              have HO158 := Aside0.mk (show Kd.V (Kd.int .u8) 5 _ w.heap.size _ (.slice A10 y154.length c10) y154 from Kd.V_mk (by rw [hy10, hc10]; exact Nat.sub_le_sub_right hroom10 _) hr10)
              have HC158 := Aside0.mk (show y154.length ≤ c10 from by rw [hy10, hc10]; exact Nat.sub_le_sub_right hroom10 _)
              clear hr10 hC10 hroom10 hi010 hsz10 hc10
              have KY10 := Aside0.mk hy10
              have KA10 := Aside0.mk hA10
              clear hy10 hA10
              replace q10 := eq_true q10
              go_wp2_with (first | ((with_reducible refine gate_callee (f := 23) rfl ?_); refine goesL_ (some 21) rfl rfl Try.func23 (by kernel_rfl) rfl #[.slice A10 y154.length c10] rfl (by (try simp only [List.map_toArray, List.map_cons, List.map_nil]); first | done | rfl | (simp only [List.length_drop, List.length_take]; rfl)) ?_; (with_reducible refine (char_Decode.calls _ _ y154 t159 t160 _ ?side1 ?side2 A7.out).mono ?_); (case side1 => repeat (first | exact (Kd.V_reads' HO158.out).2.2 | (with_reducible refine Kd.C_alloc ?_ _) | (with_reducible refine Kd.C_drewN ?_ _) | (with_reducible refine Kd.C_drew ?_))); (case side2 => exact (Kd.V_reads' HO158.out).2.1); rintro e w' ⟨rfl, ⟨nd, rfl⟩⟩; refine ⟨_, rfl, ?_⟩))
              go_ret
              exact ⟨by first | rfl | (simp [errW_none, errW_some] <;> rfl) | (simp [*, errW_none, errW_some] <;> rfl), by repeat (first | (with_reducible first | exact HB.out | apply below_alloc | apply pw_below_drewN | apply below_drew1) | exact HB.out)⟩
            · rw [if_neg c8] at H
              have c8b0 : (t160 == 0) = false := beq_eq_false_iff_ne.mpr c8
              have c8b1 : (t160 != 0) = true := bne_iff_ne.mpr c8
              by_cases c11 : x8_1 = 0
              · rw [if_pos c11] at H
                have c11b0 : (x8_1 == 0) = true := beq_iff_eq.mpr c11
                have c11b1 : (x8_1 != 0) = false := bne_eq_false_iff_eq.mpr c11
                clear c11
                replace H := Option.bind_eq_some_iff.mp H
                obtain ⟨t161, A120, H⟩ := H
                replace H : (if t161 = true then (char_every_char_Part_char_Part.l0 k1 a0 t151 (wrap64 (x8_1 + t160))) else (some false)) = some r := H
                have A12 := Aside0.mk A120
                clear A120
                by_cases c13 : t161 = true
                · subst c13
                  have H1 : (char_every_char_Part_char_Part.l0 k1 a0 t151 (wrap64 (x8_1 + t160))) = some r := by rw [if_pos rfl] at H; exact H
                  clear H
                  have H := H1
                  clear H1
                  have H' := Aside0.mk H
                  clear H
                  obtain ⟨Ao14, co14, eo14⟩ := Kd.V_slice HO_7.out
                  subst eo14
                  have q15 : (x8_1 : Int) ≤ ((t151.length : Int) : Int) := of_decide_eq_true (by first | (with_reducible assumption) | assumption)
                  obtain ⟨i015, hi015, _, hsz15, _⟩ := info_parts info5
                  have hroom15 : t151.length ≤ co14 := (Kd.V_reads' HO_7.out).2.1
                  have hC15 : Kd.F (Kd.int .u8) _ _ Ao14 t151.length t151 := (Kd.V_at (base := w.heap.size) HO_7.out).2.2
                  have q015 : (0 : Int) ≤ (x8_1 : Int) := of_decide_eq_true (by first | (with_reducible assumption) | assumption)
                  have hcut15 := cut_from (P := Try.prog) 32 5 .i64 Try.underlying32 hi015 1 hsz15 Ao14 t151.length co14 x8_1 q015 q15
                  have hr15 := Kd.F_cut (m := (x8_1 : Int).toNat) (c := co14) hC15 (by omega) hroom15
                  obtain ⟨A15, hA15⟩ : ∃ A1, A1 = (if co14 = (x8_1 : Int).toNat then Ao14 else (Ao14 : Option Addr).map (·.add ((x8_1 : Int).toNat * 1))) := ⟨_, rfl⟩
                  obtain ⟨c15, hc15⟩ : ∃ c1, c1 = co14 - (x8_1 : Int).toNat := ⟨_, rfl⟩
                  have hy15 : y154.length = t151.length - (x8_1 : Int).toNat := (by rw [Ny154.out, List.length_drop] <;> omega)
                  rw [show (t151).drop (x8_1 : Int).toNat = y154 from Ny154.out.symm] at hr15
                  replace hr15 : Kd.F (Kd.int .u8) _ _ A15 y154.length y154 := (by rw [hA15]; exact hr15)
                  rw [← hy15, ← hA15, ← hc15] at hcut15
                  have HO158 := Aside0.mk (show Kd.V (Kd.int .u8) 5 _ w.heap.size _ (.slice A15 y154.length c15) y154 from Kd.V_mk (by rw [hy15, hc15]; exact Nat.sub_le_sub_right hroom15 _) hr15)
                  have HC158 := Aside0.mk (show y154.length ≤ c15 from by rw [hy15, hc15]; exact Nat.sub_le_sub_right hroom15 _)
                  clear hr15 hC15 hroom15 hi015 hsz15 hc15
                  have KY15 := Aside0.mk hy15
                  have KA15 := Aside0.mk hA15
                  clear hy15 hA15
                  replace q15 := eq_true q15
                  go_wp2_with (first | ((with_reducible refine gate_callee (f := 23) rfl ?_); refine goesL_ (some 21) rfl rfl Try.func23 (by kernel_rfl) rfl #[.slice A15 y154.length c15] rfl (by (try simp only [List.map_toArray, List.map_cons, List.map_nil]); first | done | rfl | (simp only [List.length_drop, List.length_take]; rfl)) ?_; (with_reducible refine (char_Decode.calls _ _ y154 t159 t160 _ ?side1 ?side2 A7.out).mono ?_); (case side1 => repeat (first | exact (Kd.V_reads' HO158.out).2.2 | (with_reducible refine Kd.C_alloc ?_ _) | (with_reducible refine Kd.C_drewN ?_ _) | (with_reducible refine Kd.C_drew ?_))); (case side2 => exact (Kd.V_reads' HO158.out).2.1); rintro e w' ⟨rfl, ⟨nd, rfl⟩⟩; refine ⟨_, rfl, ?_⟩) | (go_at_call 35; (with_reducible refine (char_Part.calls k1 t159 true _ A12.out).mono ?_); rintro e w' ⟨rfl, ⟨nd, rfl⟩⟩))
                  go_roundg k1
                  case measure => have := HK1.out; omega
                  case rel => exact ⟨(wrap64 (x8_1 + t160)), (by first | rfl | (simp; done) | (simp [*]; done)), H', ⟨by have := HK1.out; omega⟩, ⟨by (with_reducible repeat (first | apply Kd.V_alloc | apply Kd.V_drewN | apply Kd.V_drew)); exact HO_7.out⟩, ⟨by repeat (first | (with_reducible first | exact HB.out | apply below_alloc | apply pw_below_drewN | apply below_drew1) | exact HB.out)⟩⟩
                · replace c13 := Bool.eq_false_iff.mpr c13
                  subst c13
                  have H1 : (some false) = some r := by rw [if_neg (show ¬ (false = true) by decide)] at H; exact H
                  clear H
                  have H := H1
                  clear H1
                  obtain rfl := Option.some.inj H
                  obtain ⟨Ao16, co16, eo16⟩ := Kd.V_slice HO_7.out
                  subst eo16
                  have q17 : (x8_1 : Int) ≤ ((t151.length : Int) : Int) := of_decide_eq_true (by first | (with_reducible assumption) | assumption)
                  obtain ⟨i017, hi017, _, hsz17, _⟩ := info_parts info5
                  have hroom17 : t151.length ≤ co16 := (Kd.V_reads' HO_7.out).2.1
                  have hC17 : Kd.F (Kd.int .u8) _ _ Ao16 t151.length t151 := (Kd.V_at (base := w.heap.size) HO_7.out).2.2
                  have q017 : (0 : Int) ≤ (x8_1 : Int) := of_decide_eq_true (by first | (with_reducible assumption) | assumption)
                  have hcut17 := cut_from (P := Try.prog) 32 5 .i64 Try.underlying32 hi017 1 hsz17 Ao16 t151.length co16 x8_1 q017 q17
                  have hr17 := Kd.F_cut (m := (x8_1 : Int).toNat) (c := co16) hC17 (by omega) hroom17
                  obtain ⟨A17, hA17⟩ : ∃ A1, A1 = (if co16 = (x8_1 : Int).toNat then Ao16 else (Ao16 : Option Addr).map (·.add ((x8_1 : Int).toNat * 1))) := ⟨_, rfl⟩
                  obtain ⟨c17, hc17⟩ : ∃ c1, c1 = co16 - (x8_1 : Int).toNat := ⟨_, rfl⟩
                  have hy17 : y154.length = t151.length - (x8_1 : Int).toNat := (by rw [Ny154.out, List.length_drop] <;> omega)
                  rw [show (t151).drop (x8_1 : Int).toNat = y154 from Ny154.out.symm] at hr17
                  replace hr17 : Kd.F (Kd.int .u8) _ _ A17 y154.length y154 := (by rw [hA17]; exact hr17)
                  rw [← hy17, ← hA17, ← hc17] at hcut17
                  have HO158 := Aside0.mk (show Kd.V (Kd.int .u8) 5 _ w.heap.size _ (.slice A17 y154.length c17) y154 from Kd.V_mk (by rw [hy17, hc17]; exact Nat.sub_le_sub_right hroom17 _) hr17)
                  have HC158 := Aside0.mk (show y154.length ≤ c17 from by rw [hy17, hc17]; exact Nat.sub_le_sub_right hroom17 _)
                  clear hr17 hC17 hroom17 hi017 hsz17 hc17
                  have KY17 := Aside0.mk hy17
                  have KA17 := Aside0.mk hA17
                  clear hy17 hA17
                  replace q17 := eq_true q17
                  go_wp2_with (first | ((with_reducible refine gate_callee (f := 23) rfl ?_); refine goesL_ (some 21) rfl rfl Try.func23 (by kernel_rfl) rfl #[.slice A17 y154.length c17] rfl (by (try simp only [List.map_toArray, List.map_cons, List.map_nil]); first | done | rfl | (simp only [List.length_drop, List.length_take]; rfl)) ?_; (with_reducible refine (char_Decode.calls _ _ y154 t159 t160 _ ?side1 ?side2 A7.out).mono ?_); (case side1 => repeat (first | exact (Kd.V_reads' HO158.out).2.2 | (with_reducible refine Kd.C_alloc ?_ _) | (with_reducible refine Kd.C_drewN ?_ _) | (with_reducible refine Kd.C_drew ?_))); (case side2 => exact (Kd.V_reads' HO158.out).2.1); rintro e w' ⟨rfl, ⟨nd, rfl⟩⟩; refine ⟨_, rfl, ?_⟩) | (go_at_call 35; (with_reducible refine (char_Part.calls k1 t159 false _ A12.out).mono ?_); rintro e w' ⟨rfl, ⟨nd, rfl⟩⟩))
                  go_ret
                  exact ⟨by first | rfl | (simp [errW_none, errW_some] <;> rfl) | (simp [*, errW_none, errW_some] <;> rfl), by repeat (first | (with_reducible first | exact HB.out | apply below_alloc | apply pw_below_drewN | apply below_drew1) | exact HB.out)⟩
              · rw [if_neg c11] at H
                have c11b0 : (x8_1 == 0) = false := beq_eq_false_iff_ne.mpr c11
                have c11b1 : (x8_1 != 0) = true := bne_iff_ne.mpr c11
                replace H := Option.bind_eq_some_iff.mp H
                obtain ⟨t162, A180, H⟩ := H
                replace H : (if t162 = true then (char_every_char_Part_char_Part.l0 k1 a0 t151 (wrap64 (x8_1 + t160))) else (some false)) = some r := H
                have A18 := Aside0.mk A180
                clear A180
                by_cases c19 : t162 = true
                · subst c19
                  have H1 : (char_every_char_Part_char_Part.l0 k1 a0 t151 (wrap64 (x8_1 + t160))) = some r := by rw [if_pos rfl] at H; exact H
                  clear H
                  have H := H1
                  clear H1
                  have H' := Aside0.mk H
                  clear H
                  obtain ⟨Ao20, co20, eo20⟩ := Kd.V_slice HO_7.out
                  subst eo20
                  have q21 : (x8_1 : Int) ≤ ((t151.length : Int) : Int) := of_decide_eq_true (by first | (with_reducible assumption) | assumption)
                  obtain ⟨i021, hi021, _, hsz21, _⟩ := info_parts info5
                  have hroom21 : t151.length ≤ co20 := (Kd.V_reads' HO_7.out).2.1
                  have hC21 : Kd.F (Kd.int .u8) _ _ Ao20 t151.length t151 := (Kd.V_at (base := w.heap.size) HO_7.out).2.2
                  have q021 : (0 : Int) ≤ (x8_1 : Int) := of_decide_eq_true (by first | (with_reducible assumption) | assumption)
                  have hcut21 := cut_from (P := Try.prog) 32 5 .i64 Try.underlying32 hi021 1 hsz21 Ao20 t151.length co20 x8_1 q021 q21
                  have hr21 := Kd.F_cut (m := (x8_1 : Int).toNat) (c := co20) hC21 (by omega) hroom21
                  obtain ⟨A21, hA21⟩ : ∃ A1, A1 = (if co20 = (x8_1 : Int).toNat then Ao20 else (Ao20 : Option Addr).map (·.add ((x8_1 : Int).toNat * 1))) := ⟨_, rfl⟩
                  obtain ⟨c21, hc21⟩ : ∃ c1, c1 = co20 - (x8_1 : Int).toNat := ⟨_, rfl⟩
                  have hy21 : y154.length = t151.length - (x8_1 : Int).toNat := (by rw [Ny154.out, List.length_drop] <;> omega)
                  rw [show (t151).drop (x8_1 : Int).toNat = y154 from Ny154.out.symm] at hr21
                  replace hr21 : Kd.F (Kd.int .u8) _ _ A21 y154.length y154 := (by rw [hA21]; exact hr21)
                  rw [← hy21, ← hA21, ← hc21] at hcut21
                  have HO158 := Aside0.mk (show Kd.V (Kd.int .u8) 5 _ w.heap.size _ (.slice A21 y154.length c21) y154 from Kd.V_mk (by rw [hy21, hc21]; exact Nat.sub_le_sub_right hroom21 _) hr21)
                  have HC158 := Aside0.mk (show y154.length ≤ c21 from by rw [hy21, hc21]; exact Nat.sub_le_sub_right hroom21 _)
                  clear hr21 hC21 hroom21 hi021 hsz21 hc21
                  have KY21 := Aside0.mk hy21
                  have KA21 := Aside0.mk hA21
                  clear hy21 hA21
                  replace q21 := eq_true q21
                  go_wp2_with (first | ((with_reducible refine gate_callee (f := 23) rfl ?_); refine goesL_ (some 21) rfl rfl Try.func23 (by kernel_rfl) rfl #[.slice A21 y154.length c21] rfl (by (try simp only [List.map_toArray, List.map_cons, List.map_nil]); first | done | rfl | (simp only [List.length_drop, List.length_take]; rfl)) ?_; (with_reducible refine (char_Decode.calls _ _ y154 t159 t160 _ ?side1 ?side2 A7.out).mono ?_); (case side1 => repeat (first | exact (Kd.V_reads' HO158.out).2.2 | (with_reducible refine Kd.C_alloc ?_ _) | (with_reducible refine Kd.C_drewN ?_ _) | (with_reducible refine Kd.C_drew ?_))); (case side2 => exact (Kd.V_reads' HO158.out).2.1); rintro e w' ⟨rfl, ⟨nd, rfl⟩⟩; refine ⟨_, rfl, ?_⟩) | (go_at_call 35; (with_reducible refine (char_Part.calls k1 t159 true _ A18.out).mono ?_); rintro e w' ⟨rfl, ⟨nd, rfl⟩⟩))
                  go_roundg k1
                  case measure => have := HK1.out; omega
                  case rel => exact ⟨(wrap64 (x8_1 + t160)), (by first | rfl | (simp; done) | (simp [*]; done)), H', ⟨by have := HK1.out; omega⟩, ⟨by (with_reducible repeat (first | apply Kd.V_alloc | apply Kd.V_drewN | apply Kd.V_drew)); exact HO_7.out⟩, ⟨by repeat (first | (with_reducible first | exact HB.out | apply below_alloc | apply pw_below_drewN | apply below_drew1) | exact HB.out)⟩⟩
                · replace c19 := Bool.eq_false_iff.mpr c19
                  subst c19
                  have H1 : (some false) = some r := by rw [if_neg (show ¬ (false = true) by decide)] at H; exact H
                  clear H
                  have H := H1
                  clear H1
                  obtain rfl := Option.some.inj H
                  obtain ⟨Ao22, co22, eo22⟩ := Kd.V_slice HO_7.out
                  subst eo22
                  have q23 : (x8_1 : Int) ≤ ((t151.length : Int) : Int) := of_decide_eq_true (by first | (with_reducible assumption) | assumption)
                  obtain ⟨i023, hi023, _, hsz23, _⟩ := info_parts info5
                  have hroom23 : t151.length ≤ co22 := (Kd.V_reads' HO_7.out).2.1
                  have hC23 : Kd.F (Kd.int .u8) _ _ Ao22 t151.length t151 := (Kd.V_at (base := w.heap.size) HO_7.out).2.2
                  have q023 : (0 : Int) ≤ (x8_1 : Int) := of_decide_eq_true (by first | (with_reducible assumption) | assumption)
                  have hcut23 := cut_from (P := Try.prog) 32 5 .i64 Try.underlying32 hi023 1 hsz23 Ao22 t151.length co22 x8_1 q023 q23
                  have hr23 := Kd.F_cut (m := (x8_1 : Int).toNat) (c := co22) hC23 (by omega) hroom23
                  obtain ⟨A23, hA23⟩ : ∃ A1, A1 = (if co22 = (x8_1 : Int).toNat then Ao22 else (Ao22 : Option Addr).map (·.add ((x8_1 : Int).toNat * 1))) := ⟨_, rfl⟩
                  obtain ⟨c23, hc23⟩ : ∃ c1, c1 = co22 - (x8_1 : Int).toNat := ⟨_, rfl⟩
                  have hy23 : y154.length = t151.length - (x8_1 : Int).toNat := (by rw [Ny154.out, List.length_drop] <;> omega)
                  rw [show (t151).drop (x8_1 : Int).toNat = y154 from Ny154.out.symm] at hr23
                  replace hr23 : Kd.F (Kd.int .u8) _ _ A23 y154.length y154 := (by rw [hA23]; exact hr23)
                  rw [← hy23, ← hA23, ← hc23] at hcut23
                  have HO158 := Aside0.mk (show Kd.V (Kd.int .u8) 5 _ w.heap.size _ (.slice A23 y154.length c23) y154 from Kd.V_mk (by rw [hy23, hc23]; exact Nat.sub_le_sub_right hroom23 _) hr23)
                  have HC158 := Aside0.mk (show y154.length ≤ c23 from by rw [hy23, hc23]; exact Nat.sub_le_sub_right hroom23 _)
                  clear hr23 hC23 hroom23 hi023 hsz23 hc23
                  have KY23 := Aside0.mk hy23
                  have KA23 := Aside0.mk hA23
                  clear hy23 hA23
                  replace q23 := eq_true q23
                  go_wp2_with (first | ((with_reducible refine gate_callee (f := 23) rfl ?_); refine goesL_ (some 21) rfl rfl Try.func23 (by kernel_rfl) rfl #[.slice A23 y154.length c23] rfl (by (try simp only [List.map_toArray, List.map_cons, List.map_nil]); first | done | rfl | (simp only [List.length_drop, List.length_take]; rfl)) ?_; (with_reducible refine (char_Decode.calls _ _ y154 t159 t160 _ ?side1 ?side2 A7.out).mono ?_); (case side1 => repeat (first | exact (Kd.V_reads' HO158.out).2.2 | (with_reducible refine Kd.C_alloc ?_ _) | (with_reducible refine Kd.C_drewN ?_ _) | (with_reducible refine Kd.C_drew ?_))); (case side2 => exact (Kd.V_reads' HO158.out).2.1); rintro e w' ⟨rfl, ⟨nd, rfl⟩⟩; refine ⟨_, rfl, ?_⟩) | (go_at_call 35; (with_reducible refine (char_Part.calls k1 t159 false _ A18.out).mono ?_); rintro e w' ⟨rfl, ⟨nd, rfl⟩⟩))
                  go_ret
                  exact ⟨by first | rfl | (simp [errW_none, errW_some] <;> rfl) | (simp [*, errW_none, errW_some] <;> rfl), by repeat (first | (with_reducible first | exact HB.out | apply below_alloc | apply pw_below_drewN | apply below_drew1) | exact HB.out)⟩
          · rw [if_neg c6] at H
            exact absurd H (by simp)
        · rw [if_neg c5] at H
          exact absurd H (by simp)
      · rw [if_neg c4] at H
        have c4b0 : decide (x8_1 < (t151.length : Int)) = false := decide_eq_false c4
        clear c4
        obtain rfl := Option.some.inj H
        obtain ⟨Ao24, co24, eo24⟩ := Kd.V_slice HO_7.out
        subst eo24
        go_wp2
        go_ret
        exact ⟨by first | rfl | (simp [errW_none, errW_some] <;> rfl) | (simp [*, errW_none, errW_some] <;> rfl), by repeat (first | (with_reducible first | exact HB.out | apply below_alloc | apply pw_below_drewN | apply below_drew1) | exact HB.out)⟩

/-! ### char_Token: function 19 -/
def char_Token.f (k : Nat) (a0 : ByteArray) : Option (Bool) := (char_every_char_Part_char_Part.f k a0).bind fun t163 => (some t163)
theorem char_Token.mono : ∀ a0 k, LeO (char_Token.f k a0) (char_Token.f (k + 1) a0) := by
  intro a0 k
  unfold char_Token.f
  repeat' first
      | (with_reducible exact char_every_char_Part_char_Part.mono _ _)
      | (with_reducible exact LeO.refl _)
      | (with_reducible exact LeO.none _)
      | (with_reducible refine LeO.ite ?_ ?_)
      | (with_reducible refine LeO.bind ?_ (fun _ => ?_))
      | exact char_every_char_Part_char_Part.mono _ _
      | exact LeO.none _
      | refine LeO.ite ?_ ?_
      | refine LeO.bind ?_ (fun _ => ?_)
set_option maxHeartbeats 8000000 in
set_option maxRecDepth 100000 in
theorem char_Token.calls (k : Nat) (a0 : ByteArray) (r : Bool) (w : World) (h : char_Token.f k a0 = some r) :
    Calls Try.prog 19 #[.string a0] w fun e w' => e = .returned (.bool r) ∧ Below w.heap.size w w' := by
  have HB := Aside0.mk (Below.refl w.heap.size w)
  have H : ((char_every_char_Part_char_Part.f k a0).bind fun t163 => (some t163)) = some r := h
  clear h
  replace H := Option.bind_eq_some_iff.mp H
  obtain ⟨t163, A20, H⟩ := H
  replace H : (some t163) = some r := H
  have A2 := Aside0.mk A20
  clear A20
  obtain rfl := Option.some.inj H
  go_enter Try.func19, Try.ntmps19
  go_wp2_with (first | ((with_reducible refine gate_callee (f := 41) rfl ?_); refine goesL_ (some 4) rfl rfl Try.func41 (by kernel_rfl) rfl #[.string a0, .func (.func 35) #[] #[], .func (.func 35) #[] #[]] rfl (by (try simp only [List.map_toArray, List.map_cons, List.map_nil]); first | done | rfl | (simp only [List.length_drop, List.length_take]; rfl)) ?_; (with_reducible refine (char_every_char_Part_char_Part.calls k a0 t163 _ A2.out).mono ?_); rintro e w3 ⟨rfl, hb⟩; refine ⟨_, rfl, ?_⟩; have n0_ := Aside0.mk (below_step (by repeat (first | (with_reducible first | exact HB.out | apply below_alloc | apply pw_below_drewN | apply below_drew1) | exact HB.out)) hb); clear HB; have HB := n0_; clear n0_; (try clear hb); (try clear hb2); (try clear hk); (try clear hi)))
  go_ret
  exact ⟨by first | rfl | (simp [errW_none, errW_some] <;> rfl) | (simp [*, errW_none, errW_some] <;> rfl), by repeat (first | (with_reducible first | exact HB.out | apply below_alloc | apply pw_below_drewN | apply below_drew1) | exact HB.out)⟩

end Go.Proofs.Ytjogllgkdnomiaa.PCharJoins
