-- Written by a turned copy of the print (wip/print/mkprint.py): contracts proved by hand are joined in. Lean checks it.
import Derived.Test.YtjogllgkdnomiaaPCharNamesx0
import Derived.Test.YtjogllgkdnomiaaPCharNamesx1
import Derived.Test.YtjogllgkdnomiaaPCharNamesx4
import Derived.Test.YtjogllgkdnomiaaPCharNamesx5
import Derived.Test.YtjogllgkdnomiaaPCharNamesx6
import Derived.Test.YtjogllgkdnomiaaPCharNamesx7
import Derived.Test.YtjogllgkdnomiaaPCharNamesx8
namespace Go.Proofs.Ytjogllgkdnomiaa.PCharNames
open Go.RowKit Go.Proofs.YtjogllgkdnomiaaW.PrintWords Go.Proofs.YtjogllgkdnomiaaW.PrintLast Go.Proofs.YtjogllgkdnomiaaW.PrintMore
attribute [local go_sem] max2_int min2_int max_two min_two max_three min_three max_four min_four   -- for this text's walks alone
set_option linter.unusedVariables false
set_option linter.unusedSimpArgs false

/-! ### rubriclaw1_CharNames: function 4 -/
mutual
def rubriclaw1_CharNames.j0 : Nat → ByteArray → Int → Bool → Option (Bool)
  | 0, _, _, _ => none
  | k + 1, x0, x1, x62 => if x62 = true then (some false) else (rubriclaw1_CharNames.l0 k x0 x1 0)
def rubriclaw1_CharNames.l0 : Nat → ByteArray → Int → Int → Option (Bool)
  | 0, _, _, _ => none
  | k + 1, x0, x1, x11 => if x11 ≤ 4 then ((char_Space.f k x0 x11).bind fun t233 => ((rubricref1_Space.f k x0 x11).bind fun t234 => (if t233.toList = t234.toList then (rubriclaw1_CharNames.l0 k x0 x1 (wrap64 (x11 + 1))) else (some false)))) else ((char_Space.f k x0 x1).bind fun t235 => ((rubricref1_Space.f k x0 x1).bind fun t236 => (if t235.toList = t236.toList then ((char_Words.f k x0).bind fun t237 => ((rubricref1_Words.f k x0).bind fun t240 => ((rubriclaw1_texts.f k t237 t240).bind fun t243 => (some t243)))) else (some false))))
end
def rubriclaw1_CharNames.f (k : Nat) (a0 : ByteArray) (a1 : Int) : Option (Bool) := (rubriclaw1_known.f k).bind fun t220 => (if t220 = true then (if (a0.size : Int) > 4000 then (some true) else ((char_QName.f k a0).bind fun bt221 => ((rubricref1_QName.f k a0).bind fun bt224 => (if bt221.1.toList = bt224.1.toList then (if bt221.2.1.toList = bt224.2.1.toList then (if (bt221.2.2 != bt224.2.2) = true then (rubriclaw1_CharNames.j0 k a0 a1 true) else ((char_Name.f k a0).bind fun t227 => ((rubricref1_Name.f k a0).bind fun t228 => (if (t227 != t228) = true then (rubriclaw1_CharNames.j0 k a0 a1 true) else ((char_NCName.f k a0).bind fun t229 => ((rubricref1_NCName.f k a0).bind fun t230 => (if (t229 != t230) = true then (rubriclaw1_CharNames.j0 k a0 a1 true) else ((char_Token.f k a0).bind fun t231 => ((rubricref1_Token.f k a0).bind fun t232 => (rubriclaw1_CharNames.j0 k a0 a1 (t231 != t232))))))))))) else (rubriclaw1_CharNames.j0 k a0 a1 true)) else (rubriclaw1_CharNames.j0 k a0 a1 true))))) else (some false))
theorem rubriclaw1_CharNames.mono_l : ∀ k, (∀ y0 y1 y2, LeO (rubriclaw1_CharNames.j0 k y0 y1 y2) (rubriclaw1_CharNames.j0 (k + 1) y0 y1 y2)) ∧ (∀ y0 y1 y2, LeO (rubriclaw1_CharNames.l0 k y0 y1 y2) (rubriclaw1_CharNames.l0 (k + 1) y0 y1 y2))
  | 0 => ⟨fun _ _ _ r h => by simp [rubriclaw1_CharNames.j0] at h, fun _ _ _ r h => by simp [rubriclaw1_CharNames.l0] at h⟩
  | k + 1 => by
    obtain ⟨ih0, ih1⟩ := rubriclaw1_CharNames.mono_l k
    refine ⟨?_, ?_⟩
    · intro y0 y1 y2
      unfold rubriclaw1_CharNames.j0
      repeat' first
      | (with_reducible exact ih0 _ _ _)
      | (with_reducible exact ih1 _ _ _)
      | (with_reducible exact char_NCName.mono _ _)
      | (with_reducible exact char_Name.mono _ _)
      | (with_reducible exact char_QName.mono _ _)
      | (with_reducible exact char_Space.mono _ _ _)
      | (with_reducible exact char_Token.mono _ _)
      | (with_reducible exact char_Words.mono _ _)
      | (with_reducible exact rubriclaw1_known.mono _)
      | (with_reducible exact rubriclaw1_texts.mono _ _ _)
      | (with_reducible exact rubricref1_NCName.mono _ _)
      | (with_reducible exact rubricref1_Name.mono _ _)
      | (with_reducible exact rubricref1_QName.mono _ _)
      | (with_reducible exact rubricref1_Space.mono _ _ _)
      | (with_reducible exact rubricref1_Token.mono _ _)
      | (with_reducible exact rubricref1_Words.mono _ _)
      | (with_reducible exact LeO.refl _)
      | (with_reducible exact LeO.none _)
      | (with_reducible refine LeO.ite ?_ ?_)
      | (with_reducible refine LeO.bind ?_ (fun _ => ?_))
      | exact ih0 _ _ _
      | exact ih1 _ _ _
      | exact char_NCName.mono _ _
      | exact char_Name.mono _ _
      | exact char_QName.mono _ _
      | exact char_Space.mono _ _ _
      | exact char_Token.mono _ _
      | exact char_Words.mono _ _
      | exact rubriclaw1_known.mono _
      | exact rubriclaw1_texts.mono _ _ _
      | exact rubricref1_NCName.mono _ _
      | exact rubricref1_Name.mono _ _
      | exact rubricref1_QName.mono _ _
      | exact rubricref1_Space.mono _ _ _
      | exact rubricref1_Token.mono _ _
      | exact rubricref1_Words.mono _ _
      | exact LeO.none _
      | refine LeO.ite ?_ ?_
      | refine LeO.bind ?_ (fun _ => ?_)
    · intro y0 y1 y2
      unfold rubriclaw1_CharNames.l0
      repeat' first
      | (with_reducible exact ih0 _ _ _)
      | (with_reducible exact ih1 _ _ _)
      | (with_reducible exact char_NCName.mono _ _)
      | (with_reducible exact char_Name.mono _ _)
      | (with_reducible exact char_QName.mono _ _)
      | (with_reducible exact char_Space.mono _ _ _)
      | (with_reducible exact char_Token.mono _ _)
      | (with_reducible exact char_Words.mono _ _)
      | (with_reducible exact rubriclaw1_known.mono _)
      | (with_reducible exact rubriclaw1_texts.mono _ _ _)
      | (with_reducible exact rubricref1_NCName.mono _ _)
      | (with_reducible exact rubricref1_Name.mono _ _)
      | (with_reducible exact rubricref1_QName.mono _ _)
      | (with_reducible exact rubricref1_Space.mono _ _ _)
      | (with_reducible exact rubricref1_Token.mono _ _)
      | (with_reducible exact rubricref1_Words.mono _ _)
      | (with_reducible exact LeO.refl _)
      | (with_reducible exact LeO.none _)
      | (with_reducible refine LeO.ite ?_ ?_)
      | (with_reducible refine LeO.bind ?_ (fun _ => ?_))
      | exact ih0 _ _ _
      | exact ih1 _ _ _
      | exact char_NCName.mono _ _
      | exact char_Name.mono _ _
      | exact char_QName.mono _ _
      | exact char_Space.mono _ _ _
      | exact char_Token.mono _ _
      | exact char_Words.mono _ _
      | exact rubriclaw1_known.mono _
      | exact rubriclaw1_texts.mono _ _ _
      | exact rubricref1_NCName.mono _ _
      | exact rubricref1_Name.mono _ _
      | exact rubricref1_QName.mono _ _
      | exact rubricref1_Space.mono _ _ _
      | exact rubricref1_Token.mono _ _
      | exact rubricref1_Words.mono _ _
      | exact LeO.none _
      | refine LeO.ite ?_ ?_
      | refine LeO.bind ?_ (fun _ => ?_)
theorem rubriclaw1_CharNames.mono : ∀ a0 a1 k, LeO (rubriclaw1_CharNames.f k a0 a1) (rubriclaw1_CharNames.f (k + 1) a0 a1) := by
  intro a0 a1 k
  obtain ⟨ih0, ih1⟩ := rubriclaw1_CharNames.mono_l k
  unfold rubriclaw1_CharNames.f
  repeat' first
      | (with_reducible exact ih0 _ _ _)
      | (with_reducible exact ih1 _ _ _)
      | (with_reducible exact char_NCName.mono _ _)
      | (with_reducible exact char_Name.mono _ _)
      | (with_reducible exact char_QName.mono _ _)
      | (with_reducible exact char_Space.mono _ _ _)
      | (with_reducible exact char_Token.mono _ _)
      | (with_reducible exact char_Words.mono _ _)
      | (with_reducible exact rubriclaw1_known.mono _)
      | (with_reducible exact rubriclaw1_texts.mono _ _ _)
      | (with_reducible exact rubricref1_NCName.mono _ _)
      | (with_reducible exact rubricref1_Name.mono _ _)
      | (with_reducible exact rubricref1_QName.mono _ _)
      | (with_reducible exact rubricref1_Space.mono _ _ _)
      | (with_reducible exact rubricref1_Token.mono _ _)
      | (with_reducible exact rubricref1_Words.mono _ _)
      | (with_reducible exact LeO.refl _)
      | (with_reducible exact LeO.none _)
      | (with_reducible refine LeO.ite ?_ ?_)
      | (with_reducible refine LeO.bind ?_ (fun _ => ?_))
      | exact ih0 _ _ _
      | exact ih1 _ _ _
      | exact char_NCName.mono _ _
      | exact char_Name.mono _ _
      | exact char_QName.mono _ _
      | exact char_Space.mono _ _ _
      | exact char_Token.mono _ _
      | exact char_Words.mono _ _
      | exact rubriclaw1_known.mono _
      | exact rubriclaw1_texts.mono _ _ _
      | exact rubricref1_NCName.mono _ _
      | exact rubricref1_Name.mono _ _
      | exact rubricref1_QName.mono _ _
      | exact rubricref1_Space.mono _ _ _
      | exact rubricref1_Token.mono _ _
      | exact rubricref1_Words.mono _ _
      | exact LeO.none _
      | refine LeO.ite ?_ ?_
      | refine LeO.bind ?_ (fun _ => ?_)
set_option maxHeartbeats 8000000 in
set_option maxRecDepth 100000 in
theorem rubriclaw1_CharNames.calls (k : Nat) (a0 : ByteArray) (a1 : Int) (r : Bool) (w : World) (h : rubriclaw1_CharNames.f k a0 a1 = some r) :
    Calls Try.prog 4 #[.string a0, .int .i64 a1] w fun e w' => e = .returned (.bool r) ∧ Below w.heap.size w w' := by
  have HB := Aside0.mk (Below.refl w.heap.size w)
  have H : ((rubriclaw1_known.f k).bind fun t220 => (if t220 = true then (if (a0.size : Int) > 4000 then (some true) else ((char_QName.f k a0).bind fun bt221 => ((rubricref1_QName.f k a0).bind fun bt224 => (if bt221.1.toList = bt224.1.toList then (if bt221.2.1.toList = bt224.2.1.toList then (if (bt221.2.2 != bt224.2.2) = true then (rubriclaw1_CharNames.j0 k a0 a1 true) else ((char_Name.f k a0).bind fun t227 => ((rubricref1_Name.f k a0).bind fun t228 => (if (t227 != t228) = true then (rubriclaw1_CharNames.j0 k a0 a1 true) else ((char_NCName.f k a0).bind fun t229 => ((rubricref1_NCName.f k a0).bind fun t230 => (if (t229 != t230) = true then (rubriclaw1_CharNames.j0 k a0 a1 true) else ((char_Token.f k a0).bind fun t231 => ((rubricref1_Token.f k a0).bind fun t232 => (rubriclaw1_CharNames.j0 k a0 a1 (t231 != t232))))))))))) else (rubriclaw1_CharNames.j0 k a0 a1 true)) else (rubriclaw1_CharNames.j0 k a0 a1 true))))) else (some false))) = some r := h
  clear h
  replace H := Option.bind_eq_some_iff.mp H
  obtain ⟨t220, A30, H⟩ := H
  replace H : (if t220 = true then (if (a0.size : Int) > 4000 then (some true) else ((char_QName.f k a0).bind fun bt221 => ((rubricref1_QName.f k a0).bind fun bt224 => (if bt221.1.toList = bt224.1.toList then (if bt221.2.1.toList = bt224.2.1.toList then (if (bt221.2.2 != bt224.2.2) = true then (rubriclaw1_CharNames.j0 k a0 a1 true) else ((char_Name.f k a0).bind fun t227 => ((rubricref1_Name.f k a0).bind fun t228 => (if (t227 != t228) = true then (rubriclaw1_CharNames.j0 k a0 a1 true) else ((char_NCName.f k a0).bind fun t229 => ((rubricref1_NCName.f k a0).bind fun t230 => (if (t229 != t230) = true then (rubriclaw1_CharNames.j0 k a0 a1 true) else ((char_Token.f k a0).bind fun t231 => ((rubricref1_Token.f k a0).bind fun t232 => (rubriclaw1_CharNames.j0 k a0 a1 (t231 != t232))))))))))) else (rubriclaw1_CharNames.j0 k a0 a1 true)) else (rubriclaw1_CharNames.j0 k a0 a1 true))))) else (some false)) = some r := H
  have A3 := Aside0.mk A30
  clear A30
  by_cases c4 : t220 = true
  · subst c4
    have H1 : (if (a0.size : Int) > 4000 then (some true) else ((char_QName.f k a0).bind fun bt221 => ((rubricref1_QName.f k a0).bind fun bt224 => (if bt221.1.toList = bt224.1.toList then (if bt221.2.1.toList = bt224.2.1.toList then (if (bt221.2.2 != bt224.2.2) = true then (rubriclaw1_CharNames.j0 k a0 a1 true) else ((char_Name.f k a0).bind fun t227 => ((rubricref1_Name.f k a0).bind fun t228 => (if (t227 != t228) = true then (rubriclaw1_CharNames.j0 k a0 a1 true) else ((char_NCName.f k a0).bind fun t229 => ((rubricref1_NCName.f k a0).bind fun t230 => (if (t229 != t230) = true then (rubriclaw1_CharNames.j0 k a0 a1 true) else ((char_Token.f k a0).bind fun t231 => ((rubricref1_Token.f k a0).bind fun t232 => (rubriclaw1_CharNames.j0 k a0 a1 (t231 != t232))))))))))) else (rubriclaw1_CharNames.j0 k a0 a1 true)) else (rubriclaw1_CharNames.j0 k a0 a1 true))))) = some r := by rw [if_pos rfl] at H; exact H
    clear H
    have H := H1
    clear H1
    by_cases c5 : (a0.size : Int) > 4000
    · rw [if_pos c5] at H
      have c5b0 : decide (4000 < (a0.size : Int)) = true := decide_eq_true c5
      have c5b1 : decide (4000 < a0.size) = true := decide_eq_true (by omega)
      clear c5
      obtain rfl := Option.some.inj H
      go_enter Try.func4, Try.ntmps4
      go_wp2_with (first | ((with_reducible refine gate_callee (f := 9) rfl ?_); refine goesL_ (some 12) rfl rfl Try.func9 (by kernel_rfl) rfl #[] rfl (by (try simp only [List.map_toArray, List.map_cons, List.map_nil]); first | done | rfl | (simp only [List.length_drop, List.length_take]; rfl)) ?_; (with_reducible refine (rubriclaw1_known.calls k  true _ A3.out).mono ?_); rintro e w6 ⟨rfl, hb⟩; refine ⟨_, rfl, ?_⟩; have n0_ := Aside0.mk (below_step (by repeat (first | (with_reducible first | exact HB.out | apply below_alloc | apply pw_below_drewN | apply below_drew1) | exact HB.out)) hb); clear HB; have HB := n0_; clear n0_; (try clear hb); (try clear hb2); (try clear hk); (try clear hi)))
      go_ret
      exact ⟨by first | rfl | (simp [errW_none, errW_some] <;> rfl) | (simp [*, errW_none, errW_some] <;> rfl), by repeat (first | (with_reducible first | exact HB.out | apply below_alloc | apply pw_below_drewN | apply below_drew1) | exact HB.out)⟩
    · rw [if_neg c5] at H
      have c5b0 : decide (4000 < (a0.size : Int)) = false := decide_eq_false c5
      have c5b1 : decide (4000 < a0.size) = false := decide_eq_false (by omega)
      clear c5
      replace H := Option.bind_eq_some_iff.mp H
      obtain ⟨⟨t221, t222, t223⟩, A70, H⟩ := H
      replace H : ((rubricref1_QName.f k a0).bind fun bt224 => (if t221.toList = bt224.1.toList then (if t222.toList = bt224.2.1.toList then (if (t223 != bt224.2.2) = true then (rubriclaw1_CharNames.j0 k a0 a1 true) else ((char_Name.f k a0).bind fun t227 => ((rubricref1_Name.f k a0).bind fun t228 => (if (t227 != t228) = true then (rubriclaw1_CharNames.j0 k a0 a1 true) else ((char_NCName.f k a0).bind fun t229 => ((rubricref1_NCName.f k a0).bind fun t230 => (if (t229 != t230) = true then (rubriclaw1_CharNames.j0 k a0 a1 true) else ((char_Token.f k a0).bind fun t231 => ((rubricref1_Token.f k a0).bind fun t232 => (rubriclaw1_CharNames.j0 k a0 a1 (t231 != t232))))))))))) else (rubriclaw1_CharNames.j0 k a0 a1 true)) else (rubriclaw1_CharNames.j0 k a0 a1 true))) = some r := H
      have A7 := Aside0.mk A70
      clear A70
      replace H := Option.bind_eq_some_iff.mp H
      obtain ⟨⟨t224, t225, t226⟩, A80, H⟩ := H
      replace H : (if t221.toList = t224.toList then (if t222.toList = t225.toList then (if (t223 != t226) = true then (rubriclaw1_CharNames.j0 k a0 a1 true) else ((char_Name.f k a0).bind fun t227 => ((rubricref1_Name.f k a0).bind fun t228 => (if (t227 != t228) = true then (rubriclaw1_CharNames.j0 k a0 a1 true) else ((char_NCName.f k a0).bind fun t229 => ((rubricref1_NCName.f k a0).bind fun t230 => (if (t229 != t230) = true then (rubriclaw1_CharNames.j0 k a0 a1 true) else ((char_Token.f k a0).bind fun t231 => ((rubricref1_Token.f k a0).bind fun t232 => (rubriclaw1_CharNames.j0 k a0 a1 (t231 != t232))))))))))) else (rubriclaw1_CharNames.j0 k a0 a1 true)) else (rubriclaw1_CharNames.j0 k a0 a1 true)) = some r := H
      have A8 := Aside0.mk A80
      clear A80
      have HC9 := Aside0.mk H
      clear H
      go_enter Try.func4, Try.ntmps4
      go_upto_region 7 with (first | ((with_reducible refine gate_callee (f := 9) rfl ?_); refine goesL_ (some 12) rfl rfl Try.func9 (by kernel_rfl) rfl #[] rfl (by (try simp only [List.map_toArray, List.map_cons, List.map_nil]); first | done | rfl | (simp only [List.length_drop, List.length_take]; rfl)) ?_; (with_reducible refine (rubriclaw1_known.calls k  true _ A3.out).mono ?_); rintro e w10 ⟨rfl, hb⟩; refine ⟨_, rfl, ?_⟩; have n0_ := Aside0.mk (below_step (by repeat (first | (with_reducible first | exact HB.out | apply below_alloc | apply pw_below_drewN | apply below_drew1) | exact HB.out)) hb); clear HB; have HB := n0_; clear n0_; (try clear hb); (try clear hb2); (try clear hk); (try clear hi)) | ((with_reducible refine gate_callee (f := 13) rfl ?_); refine goesL_ (some 19) rfl rfl Try.func13 (by kernel_rfl) rfl #[.string a0] rfl (by (try simp only [List.map_toArray, List.map_cons, List.map_nil]); first | done | rfl | (simp only [List.length_drop, List.length_take]; rfl)) ?_; (with_reducible refine (char_QName.calls k a0 t221 t222 t223 _ A7.out).mono ?_); rintro e w11 ⟨rfl, hb⟩; refine ⟨_, rfl, ?_⟩; have n0_ := Aside0.mk (below_step (by repeat (first | (with_reducible first | exact HB.out | apply below_alloc | apply pw_below_drewN | apply below_drew1) | exact HB.out)) hb); clear HB; have HB := n0_; clear n0_; (try clear hb); (try clear hb2); (try clear hk); (try clear hi)) | ((with_reducible refine gate_callee (f := 14) rfl ?_); refine goesL_ (some 25) rfl rfl Try.func14 (by kernel_rfl) rfl #[.string a0] rfl (by (try simp only [List.map_toArray, List.map_cons, List.map_nil]); first | done | rfl | (simp only [List.length_drop, List.length_take]; rfl)) ?_; (with_reducible refine (rubricref1_QName.calls k a0 t224 t225 t226 _ A8.out).mono ?_); rintro e w12 ⟨rfl, hb⟩; refine ⟨_, rfl, ?_⟩; have n0_ := Aside0.mk (below_step (by repeat (first | (with_reducible first | exact HB.out | apply below_alloc | apply pw_below_drewN | apply below_drew1) | exact HB.out)) hb); clear HB; have HB := n0_; clear n0_; (try clear hb); (try clear hb2); (try clear hk); (try clear hi)))
      (try simp only [Act.put, List.setIfInBounds_toArray, List.set_cons_zero, List.set_cons_succ])
      go_cut [62] (fun v62 wc => ∃ (kq : Nat) (x62_8 : Bool), v62 = .bool x62_8 ∧ Aside0 (rubriclaw1_CharNames.j0 kq a0 a1 x62_8 = some r) ∧ Aside0 (kq ≤ k) ∧ Aside0 (Below w.heap.size w wc))
      case first =>
        have H := HC9.out
        clear HC9
        by_cases c13 : t221.toList = t224.toList
        · rw [if_pos c13] at H
          have c13b0 : (t221.toList == t224.toList) = true := beq_iff_eq.mpr c13
          have c13b1 : (t221.toList != t224.toList) = false := bne_eq_false_iff_eq.mpr c13
          clear c13
          (first | rw [c13b0] | (simp only [i64_w, i32_w]; rw [c13b0]) | skip)
          by_cases c14 : t222.toList = t225.toList
          · rw [if_pos c14] at H
            have c14b0 : (t222.toList == t225.toList) = true := beq_iff_eq.mpr c14
            have c14b1 : (t222.toList != t225.toList) = false := bne_eq_false_iff_eq.mpr c14
            clear c14
            by_cases c15 : (t223 != t226) = true
            · rw [if_pos c15] at H
              have c15b0 : (t223 != t226) = true := c15
              (try (have c15b1 : decide (t223 = t226) = false := by simpa using c15))
              (try (have c15b2 : (t223 == t226) = false := by simpa using c15))
              (try (have c15b3 : ¬ (t223 = t226) := by simpa using c15))
              clear c15
              have H' := Aside0.mk H
              clear H
              go_wp2
              go_meet
              case rel => exact ⟨_, (true), (by first | rfl | (simp; done) | (simp [*]; done)), H', ⟨by first | omega | exact Nat.le_refl _⟩, ⟨by repeat (first | (with_reducible first | exact HB.out | apply below_alloc | apply pw_below_drewN | apply below_drew1) | exact HB.out)⟩⟩
            · rw [if_neg c15] at H
              have c15b0 : (t223 != t226) = false := by simpa using c15
              (try (have c15b1 : decide (t223 = t226) = true := by simpa using c15))
              (try (have c15b2 : (t223 == t226) = true := by simpa using c15))
              clear c15
              replace H := Option.bind_eq_some_iff.mp H
              obtain ⟨t227, A160, H⟩ := H
              replace H : ((rubricref1_Name.f k a0).bind fun t228 => (if (t227 != t228) = true then (rubriclaw1_CharNames.j0 k a0 a1 true) else ((char_NCName.f k a0).bind fun t229 => ((rubricref1_NCName.f k a0).bind fun t230 => (if (t229 != t230) = true then (rubriclaw1_CharNames.j0 k a0 a1 true) else ((char_Token.f k a0).bind fun t231 => ((rubricref1_Token.f k a0).bind fun t232 => (rubriclaw1_CharNames.j0 k a0 a1 (t231 != t232))))))))) = some r := H
              have A16 := Aside0.mk A160
              clear A160
              replace H := Option.bind_eq_some_iff.mp H
              obtain ⟨t228, A170, H⟩ := H
              replace H : (if (t227 != t228) = true then (rubriclaw1_CharNames.j0 k a0 a1 true) else ((char_NCName.f k a0).bind fun t229 => ((rubricref1_NCName.f k a0).bind fun t230 => (if (t229 != t230) = true then (rubriclaw1_CharNames.j0 k a0 a1 true) else ((char_Token.f k a0).bind fun t231 => ((rubricref1_Token.f k a0).bind fun t232 => (rubriclaw1_CharNames.j0 k a0 a1 (t231 != t232)))))))) = some r := H
              have A17 := Aside0.mk A170
              clear A170
              by_cases c18 : (t227 != t228) = true
              · rw [if_pos c18] at H
                have c18b0 : (t227 != t228) = true := c18
                (try (have c18b1 : decide (t227 = t228) = false := by simpa using c18))
                (try (have c18b2 : (t227 == t228) = false := by simpa using c18))
                (try (have c18b3 : ¬ (t227 = t228) := by simpa using c18))
                clear c18
                have H' := Aside0.mk H
                clear H
                go_wp2_with (first | (go_at_call 15; (with_reducible refine (char_Name.calls k a0 t227 _ A16.out).mono ?_); rintro e w19 ⟨rfl, hb⟩; have n0_ := Aside0.mk (below_step (by repeat (first | (with_reducible first | exact HB.out | apply below_alloc | apply pw_below_drewN | apply below_drew1) | exact HB.out)) hb); clear HB; have HB := n0_; clear n0_; (try clear hb); (try clear hb2); (try clear hk); (try clear hi)) | (go_at_call 16; (with_reducible refine (rubricref1_Name.calls k a0 t228 _ A17.out).mono ?_); rintro e w20 ⟨rfl, hb⟩; have n0_ := Aside0.mk (below_step (by repeat (first | (with_reducible first | exact HB.out | apply below_alloc | apply pw_below_drewN | apply below_drew1) | exact HB.out)) hb); clear HB; have HB := n0_; clear n0_; (try clear hb); (try clear hb2); (try clear hk); (try clear hi)))
                go_meet
                case rel => exact ⟨_, (true), (by first | rfl | (simp; done) | (simp [*]; done)), H', ⟨by first | omega | exact Nat.le_refl _⟩, ⟨by repeat (first | (with_reducible first | exact HB.out | apply below_alloc | apply pw_below_drewN | apply below_drew1) | exact HB.out)⟩⟩
              · rw [if_neg c18] at H
                have c18b0 : (t227 != t228) = false := by simpa using c18
                (try (have c18b1 : decide (t227 = t228) = true := by simpa using c18))
                (try (have c18b2 : (t227 == t228) = true := by simpa using c18))
                clear c18
                replace H := Option.bind_eq_some_iff.mp H
                obtain ⟨t229, A210, H⟩ := H
                replace H : ((rubricref1_NCName.f k a0).bind fun t230 => (if (t229 != t230) = true then (rubriclaw1_CharNames.j0 k a0 a1 true) else ((char_Token.f k a0).bind fun t231 => ((rubricref1_Token.f k a0).bind fun t232 => (rubriclaw1_CharNames.j0 k a0 a1 (t231 != t232)))))) = some r := H
                have A21 := Aside0.mk A210
                clear A210
                replace H := Option.bind_eq_some_iff.mp H
                obtain ⟨t230, A220, H⟩ := H
                replace H : (if (t229 != t230) = true then (rubriclaw1_CharNames.j0 k a0 a1 true) else ((char_Token.f k a0).bind fun t231 => ((rubricref1_Token.f k a0).bind fun t232 => (rubriclaw1_CharNames.j0 k a0 a1 (t231 != t232))))) = some r := H
                have A22 := Aside0.mk A220
                clear A220
                by_cases c23 : (t229 != t230) = true
                · rw [if_pos c23] at H
                  have c23b0 : (t229 != t230) = true := c23
                  (try (have c23b1 : decide (t229 = t230) = false := by simpa using c23))
                  (try (have c23b2 : (t229 == t230) = false := by simpa using c23))
                  (try (have c23b3 : ¬ (t229 = t230) := by simpa using c23))
                  clear c23
                  have H' := Aside0.mk H
                  clear H
                  go_wp2_with (first | (go_at_call 15; (with_reducible refine (char_Name.calls k a0 t227 _ A16.out).mono ?_); rintro e w24 ⟨rfl, hb⟩; have n0_ := Aside0.mk (below_step (by repeat (first | (with_reducible first | exact HB.out | apply below_alloc | apply pw_below_drewN | apply below_drew1) | exact HB.out)) hb); clear HB; have HB := n0_; clear n0_; (try clear hb); (try clear hb2); (try clear hk); (try clear hi)) | (go_at_call 16; (with_reducible refine (rubricref1_Name.calls k a0 t228 _ A17.out).mono ?_); rintro e w25 ⟨rfl, hb⟩; have n0_ := Aside0.mk (below_step (by repeat (first | (with_reducible first | exact HB.out | apply below_alloc | apply pw_below_drewN | apply below_drew1) | exact HB.out)) hb); clear HB; have HB := n0_; clear n0_; (try clear hb); (try clear hb2); (try clear hk); (try clear hi)) | (go_at_call 17; (with_reducible refine (char_NCName.calls k a0 t229 _ A21.out).mono ?_); rintro e w26 ⟨rfl, hb⟩; have n0_ := Aside0.mk (below_step (by repeat (first | (with_reducible first | exact HB.out | apply below_alloc | apply pw_below_drewN | apply below_drew1) | exact HB.out)) hb); clear HB; have HB := n0_; clear n0_; (try clear hb); (try clear hb2); (try clear hk); (try clear hi)) | (go_at_call 18; (with_reducible refine (rubricref1_NCName.calls k a0 t230 _ A22.out).mono ?_); rintro e w27 ⟨rfl, hb⟩; have n0_ := Aside0.mk (below_step (by repeat (first | (with_reducible first | exact HB.out | apply below_alloc | apply pw_below_drewN | apply below_drew1) | exact HB.out)) hb); clear HB; have HB := n0_; clear n0_; (try clear hb); (try clear hb2); (try clear hk); (try clear hi)))
                  go_meet
                  case rel => exact ⟨_, (true), (by first | rfl | (simp; done) | (simp [*]; done)), H', ⟨by first | omega | exact Nat.le_refl _⟩, ⟨by repeat (first | (with_reducible first | exact HB.out | apply below_alloc | apply pw_below_drewN | apply below_drew1) | exact HB.out)⟩⟩
                · rw [if_neg c23] at H
                  have c23b0 : (t229 != t230) = false := by simpa using c23
                  (try (have c23b1 : decide (t229 = t230) = true := by simpa using c23))
                  (try (have c23b2 : (t229 == t230) = true := by simpa using c23))
                  clear c23
                  replace H := Option.bind_eq_some_iff.mp H
                  obtain ⟨t231, A280, H⟩ := H
                  replace H : ((rubricref1_Token.f k a0).bind fun t232 => (rubriclaw1_CharNames.j0 k a0 a1 (t231 != t232))) = some r := H
                  have A28 := Aside0.mk A280
                  clear A280
                  replace H := Option.bind_eq_some_iff.mp H
                  obtain ⟨t232, A290, H⟩ := H
                  replace H : (rubriclaw1_CharNames.j0 k a0 a1 (t231 != t232)) = some r := H
                  have A29 := Aside0.mk A290
                  clear A290
                  have H' := Aside0.mk H
                  clear H
                  go_wp2_with (first | (go_at_call 15; (with_reducible refine (char_Name.calls k a0 t227 _ A16.out).mono ?_); rintro e w30 ⟨rfl, hb⟩; have n0_ := Aside0.mk (below_step (by repeat (first | (with_reducible first | exact HB.out | apply below_alloc | apply pw_below_drewN | apply below_drew1) | exact HB.out)) hb); clear HB; have HB := n0_; clear n0_; (try clear hb); (try clear hb2); (try clear hk); (try clear hi)) | (go_at_call 16; (with_reducible refine (rubricref1_Name.calls k a0 t228 _ A17.out).mono ?_); rintro e w31 ⟨rfl, hb⟩; have n0_ := Aside0.mk (below_step (by repeat (first | (with_reducible first | exact HB.out | apply below_alloc | apply pw_below_drewN | apply below_drew1) | exact HB.out)) hb); clear HB; have HB := n0_; clear n0_; (try clear hb); (try clear hb2); (try clear hk); (try clear hi)) | (go_at_call 17; (with_reducible refine (char_NCName.calls k a0 t229 _ A21.out).mono ?_); rintro e w32 ⟨rfl, hb⟩; have n0_ := Aside0.mk (below_step (by repeat (first | (with_reducible first | exact HB.out | apply below_alloc | apply pw_below_drewN | apply below_drew1) | exact HB.out)) hb); clear HB; have HB := n0_; clear n0_; (try clear hb); (try clear hb2); (try clear hk); (try clear hi)) | (go_at_call 18; (with_reducible refine (rubricref1_NCName.calls k a0 t230 _ A22.out).mono ?_); rintro e w33 ⟨rfl, hb⟩; have n0_ := Aside0.mk (below_step (by repeat (first | (with_reducible first | exact HB.out | apply below_alloc | apply pw_below_drewN | apply below_drew1) | exact HB.out)) hb); clear HB; have HB := n0_; clear n0_; (try clear hb); (try clear hb2); (try clear hk); (try clear hi)) | (go_at_call 19; (with_reducible refine (char_Token.calls k a0 t231 _ A28.out).mono ?_); rintro e w34 ⟨rfl, hb⟩; have n0_ := Aside0.mk (below_step (by repeat (first | (with_reducible first | exact HB.out | apply below_alloc | apply pw_below_drewN | apply below_drew1) | exact HB.out)) hb); clear HB; have HB := n0_; clear n0_; (try clear hb); (try clear hb2); (try clear hk); (try clear hi)) | (go_at_call 20; (with_reducible refine (rubricref1_Token.calls k a0 t232 _ A29.out).mono ?_); rintro e w35 ⟨rfl, hb⟩; have n0_ := Aside0.mk (below_step (by repeat (first | (with_reducible first | exact HB.out | apply below_alloc | apply pw_below_drewN | apply below_drew1) | exact HB.out)) hb); clear HB; have HB := n0_; clear n0_; (try clear hb); (try clear hb2); (try clear hk); (try clear hi)))
                  go_meet
                  case rel => exact ⟨_, ((t231 != t232)), (by first | rfl | (simp; done) | (simp [*]; done)), H', ⟨by first | omega | exact Nat.le_refl _⟩, ⟨by repeat (first | (with_reducible first | exact HB.out | apply below_alloc | apply pw_below_drewN | apply below_drew1) | exact HB.out)⟩⟩
          · rw [if_neg c14] at H
            have c14b0 : (t222.toList == t225.toList) = false := beq_eq_false_iff_ne.mpr c14
            have c14b1 : (t222.toList != t225.toList) = true := bne_iff_ne.mpr c14
            have H' := Aside0.mk H
            clear H
            go_wp2
            go_meet
            case rel => exact ⟨_, (true), (by first | rfl | (simp; done) | (simp [*]; done)), H', ⟨by first | omega | exact Nat.le_refl _⟩, ⟨by repeat (first | (with_reducible first | exact HB.out | apply below_alloc | apply pw_below_drewN | apply below_drew1) | exact HB.out)⟩⟩
        · rw [if_neg c13] at H
          have c13b0 : (t221.toList == t224.toList) = false := beq_eq_false_iff_ne.mpr c13
          have c13b1 : (t221.toList != t224.toList) = true := bne_iff_ne.mpr c13
          (first | rw [c13b0] | (simp only [i64_w, i32_w]; rw [c13b0]) | skip)
          have H' := Aside0.mk H
          clear H
          go_wp2
          go_meet
          case rel => exact ⟨_, (true), (by first | rfl | (simp; done) | (simp [*]; done)), H', ⟨by first | omega | exact Nat.le_refl _⟩, ⟨by repeat (first | (with_reducible first | exact HB.out | apply below_alloc | apply pw_below_drewN | apply below_drew1) | exact HB.out)⟩⟩
      case rest =>
        clear HC9
        try clear c1
        try clear c2
        try clear p2
        try clear c4
        try clear c5
        try clear c5b0
        try clear c5b1
        try clear c9
        try clear c13
        try clear c13b0
        try clear c13b1
        try clear c14
        try clear c14b0
        try clear c14b1
        try clear c15
        try clear c15b0
        try clear c15b1
        try clear c15b2
        try clear c18
        try clear c18b0
        try clear c18b1
        try clear c18b2
        try clear c23
        try clear c23b0
        try clear c23b1
        try clear c23b2
        obtain ⟨kq, x62_8, rfl, HA, HJ8, HB⟩ := hcut
        cases kq with
        | zero => exact absurd HA.out (by simp [rubriclaw1_CharNames.j0])
        | succ kj8 =>
          have H := HA.out
          clear HA
          simp only [rubriclaw1_CharNames.j0] at H
          by_cases c36 : x62_8 = true
          · subst c36
            have H1 : (some false) = some r := by rw [if_pos rfl] at H; exact H
            clear H
            have H := H1
            clear H1
            obtain rfl := Option.some.inj H
            go_wp2
            go_ret
            exact ⟨by first | rfl | (simp [errW_none, errW_some] <;> rfl) | (simp [*, errW_none, errW_some] <;> rfl), by repeat (first | (with_reducible first | exact HB.out | apply below_alloc | apply pw_below_drewN | apply below_drew1) | exact HB.out)⟩
          · replace c36 := Bool.eq_false_iff.mpr c36
            subst c36
            have H1 : (rubriclaw1_CharNames.l0 kj8 a0 a1 0) = some r := by rw [if_neg (show ¬ (false = true) by decide)] at H; exact H
            clear H
            have H := H1
            clear H1
            have H' := Aside0.mk H
            clear H
            go_wp2
            go_loopg [11] kj8 (fun kq v11 w' => ∃ (x11_2 : Int), v11 = .int .i64 x11_2 ∧ Aside0 (rubriclaw1_CharNames.l0 kq a0 a1 x11_2 = some r) ∧ Aside0 (kq ≤ kj8) ∧ Aside0 (Below w.heap.size w w'))
            case atStart => exact ⟨(0), (by first | rfl | (simp; done) | (simp [*]; done)), H', ⟨Nat.le_refl _⟩, ⟨by repeat (first | (with_reducible first | exact HB.out | apply below_alloc | apply pw_below_drewN | apply below_drew1) | exact HB.out)⟩⟩
            case round =>
              clear H'
              try clear c1
              try clear c2
              try clear p2
              try clear c3
              try clear c4
              try clear c5
              try clear c5b0
              try clear c5b1
              try clear c9
              try clear c13
              try clear c13b0
              try clear c13b1
              try clear c14
              try clear c14b0
              try clear c14b1
              try clear c15
              try clear c15b0
              try clear c15b1
              try clear c15b2
              try clear c18
              try clear c18b0
              try clear c18b1
              try clear c18b2
              try clear c23
              try clear c23b0
              try clear c23b1
              try clear c23b2
              try clear c36
              try clear p2
              obtain ⟨x11_2, rfl, HA, HK2, HB⟩ := hrel
              cases gk with
              | zero => exact absurd HA.out (by simp [rubriclaw1_CharNames.l0])
              | succ k2 =>
                have H := HA.out
                clear HA
                simp only [rubriclaw1_CharNames.l0] at H
                by_cases c37 : x11_2 ≤ 4
                · rw [if_pos c37] at H
                  have c37b0 : decide (x11_2 ≤ 4) = true := decide_eq_true c37
                  clear c37
                  replace H := Option.bind_eq_some_iff.mp H
                  obtain ⟨t233, A380, H⟩ := H
                  replace H : ((rubricref1_Space.f k2 a0 x11_2).bind fun t234 => (if t233.toList = t234.toList then (rubriclaw1_CharNames.l0 k2 a0 a1 (wrap64 (x11_2 + 1))) else (some false))) = some r := H
                  have A38 := Aside0.mk A380
                  clear A380
                  replace H := Option.bind_eq_some_iff.mp H
                  obtain ⟨t234, A390, H⟩ := H
                  replace H : (if t233.toList = t234.toList then (rubriclaw1_CharNames.l0 k2 a0 a1 (wrap64 (x11_2 + 1))) else (some false)) = some r := H
                  have A39 := Aside0.mk A390
                  clear A390
                  by_cases c40 : t233.toList = t234.toList
                  · rw [if_pos c40] at H
                    have c40b0 : (t233.toList == t234.toList) = true := beq_iff_eq.mpr c40
                    have c40b1 : (t233.toList != t234.toList) = false := bne_eq_false_iff_eq.mpr c40
                    clear c40
                    have H' := Aside0.mk H
                    clear H
                    go_wp2_with (first | ((with_reducible refine gate_callee (f := 10) rfl ?_); refine goesL_ (some 69) rfl rfl Try.func10 (by kernel_rfl) rfl #[.string a0, .int .i64 x11_2] rfl (by (try simp only [List.map_toArray, List.map_cons, List.map_nil]); first | done | rfl | (simp only [List.length_drop, List.length_take]; rfl)) ?_; (with_reducible refine (char_Space.calls k2 a0 x11_2 t233 _ A38.out).mono ?_); rintro e w41 ⟨rfl, hb⟩; refine ⟨_, rfl, ?_⟩; have n0_ := Aside0.mk (below_step (by repeat (first | (with_reducible first | exact HB.out | apply below_alloc | apply pw_below_drewN | apply below_drew1) | exact HB.out)) hb); clear HB; have HB := n0_; clear n0_; (try clear hb); (try clear hb2); (try clear hk); (try clear hi)) | ((with_reducible refine gate_callee (f := 21) rfl ?_); refine goesL_ (some 72) rfl rfl Try.func21 (by kernel_rfl) rfl #[.string a0, .int .i64 x11_2] rfl (by (try simp only [List.map_toArray, List.map_cons, List.map_nil]); first | done | rfl | (simp only [List.length_drop, List.length_take]; rfl)) ?_; (with_reducible refine (rubricref1_Space.calls k2 a0 x11_2 t234 _ A39.out).mono ?_); rintro e w42 ⟨rfl, hb⟩; refine ⟨_, rfl, ?_⟩; have n0_ := Aside0.mk (below_step (by repeat (first | (with_reducible first | exact HB.out | apply below_alloc | apply pw_below_drewN | apply below_drew1) | exact HB.out)) hb); clear HB; have HB := n0_; clear n0_; (try clear hb); (try clear hb2); (try clear hk); (try clear hi)))
                    go_roundg k2
                    case measure => have := HJ8.out; have := HK2.out; omega
                    case rel => exact ⟨(wrap64 (x11_2 + 1)), (by first | rfl | (simp; done) | (simp [*]; done)), H', ⟨by have := HJ8.out; have := HK2.out; omega⟩, ⟨by repeat (first | (with_reducible first | exact HB.out | apply below_alloc | apply pw_below_drewN | apply below_drew1) | exact HB.out)⟩⟩
                  · rw [if_neg c40] at H
                    have c40b0 : (t233.toList == t234.toList) = false := beq_eq_false_iff_ne.mpr c40
                    have c40b1 : (t233.toList != t234.toList) = true := bne_iff_ne.mpr c40
                    obtain rfl := Option.some.inj H
                    go_wp2_with (first | ((with_reducible refine gate_callee (f := 10) rfl ?_); refine goesL_ (some 69) rfl rfl Try.func10 (by kernel_rfl) rfl #[.string a0, .int .i64 x11_2] rfl (by (try simp only [List.map_toArray, List.map_cons, List.map_nil]); first | done | rfl | (simp only [List.length_drop, List.length_take]; rfl)) ?_; (with_reducible refine (char_Space.calls k2 a0 x11_2 t233 _ A38.out).mono ?_); rintro e w43 ⟨rfl, hb⟩; refine ⟨_, rfl, ?_⟩; have n0_ := Aside0.mk (below_step (by repeat (first | (with_reducible first | exact HB.out | apply below_alloc | apply pw_below_drewN | apply below_drew1) | exact HB.out)) hb); clear HB; have HB := n0_; clear n0_; (try clear hb); (try clear hb2); (try clear hk); (try clear hi)) | ((with_reducible refine gate_callee (f := 21) rfl ?_); refine goesL_ (some 72) rfl rfl Try.func21 (by kernel_rfl) rfl #[.string a0, .int .i64 x11_2] rfl (by (try simp only [List.map_toArray, List.map_cons, List.map_nil]); first | done | rfl | (simp only [List.length_drop, List.length_take]; rfl)) ?_; (with_reducible refine (rubricref1_Space.calls k2 a0 x11_2 t234 _ A39.out).mono ?_); rintro e w44 ⟨rfl, hb⟩; refine ⟨_, rfl, ?_⟩; have n0_ := Aside0.mk (below_step (by repeat (first | (with_reducible first | exact HB.out | apply below_alloc | apply pw_below_drewN | apply below_drew1) | exact HB.out)) hb); clear HB; have HB := n0_; clear n0_; (try clear hb); (try clear hb2); (try clear hk); (try clear hi)))
                    go_ret
                    exact ⟨by first | rfl | (simp [errW_none, errW_some] <;> rfl) | (simp [*, errW_none, errW_some] <;> rfl), by repeat (first | (with_reducible first | exact HB.out | apply below_alloc | apply pw_below_drewN | apply below_drew1) | exact HB.out)⟩
                · rw [if_neg c37] at H
                  have c37b0 : decide (x11_2 ≤ 4) = false := decide_eq_false c37
                  clear c37
                  replace H := Option.bind_eq_some_iff.mp H
                  obtain ⟨t235, A450, H⟩ := H
                  replace H : ((rubricref1_Space.f k2 a0 a1).bind fun t236 => (if t235.toList = t236.toList then ((char_Words.f k2 a0).bind fun t237 => ((rubricref1_Words.f k2 a0).bind fun t240 => ((rubriclaw1_texts.f k2 t237 t240).bind fun t243 => (some t243)))) else (some false))) = some r := H
                  have A45 := Aside0.mk A450
                  clear A450
                  replace H := Option.bind_eq_some_iff.mp H
                  obtain ⟨t236, A460, H⟩ := H
                  replace H : (if t235.toList = t236.toList then ((char_Words.f k2 a0).bind fun t237 => ((rubricref1_Words.f k2 a0).bind fun t240 => ((rubriclaw1_texts.f k2 t237 t240).bind fun t243 => (some t243)))) else (some false)) = some r := H
                  have A46 := Aside0.mk A460
                  clear A460
                  by_cases c47 : t235.toList = t236.toList
                  · rw [if_pos c47] at H
                    have c47b0 : (t235.toList == t236.toList) = true := beq_iff_eq.mpr c47
                    have c47b1 : (t235.toList != t236.toList) = false := bne_eq_false_iff_eq.mpr c47
                    clear c47
                    replace H := Option.bind_eq_some_iff.mp H
                    obtain ⟨t237, A480, H⟩ := H
                    replace H : ((rubricref1_Words.f k2 a0).bind fun t240 => ((rubriclaw1_texts.f k2 t237 t240).bind fun t243 => (some t243))) = some r := H
                    have A48 := Aside0.mk A480
                    clear A480
                    replace H := Option.bind_eq_some_iff.mp H
                    obtain ⟨t240, A490, H⟩ := H
                    replace H : ((rubriclaw1_texts.f k2 t237 t240).bind fun t243 => (some t243)) = some r := H
                    have A49 := Aside0.mk A490
                    clear A490
                    replace H := Option.bind_eq_some_iff.mp H
                    obtain ⟨t243, A500, H⟩ := H
                    replace H : (some t243) = some r := H
                    have A50 := Aside0.mk A500
                    clear A500
                    obtain rfl := Option.some.inj H
                    go_wp2_with (first | ((with_reducible refine gate_callee (f := 10) rfl ?_); refine goesL_ (some 76) rfl rfl Try.func10 (by kernel_rfl) rfl #[.string a0, .int .i64 a1] rfl (by (try simp only [List.map_toArray, List.map_cons, List.map_nil]); first | done | rfl | (simp only [List.length_drop, List.length_take]; rfl)) ?_; (with_reducible refine (char_Space.calls k2 a0 a1 t235 _ A45.out).mono ?_); rintro e w51 ⟨rfl, hb⟩; refine ⟨_, rfl, ?_⟩; have n0_ := Aside0.mk (below_step (by repeat (first | (with_reducible first | exact HB.out | apply below_alloc | apply pw_below_drewN | apply below_drew1) | exact HB.out)) hb); clear HB; have HB := n0_; clear n0_; (try clear hb); (try clear hb2); (try clear hk); (try clear hi)) | ((with_reducible refine gate_callee (f := 21) rfl ?_); refine goesL_ (some 79) rfl rfl Try.func21 (by kernel_rfl) rfl #[.string a0, .int .i64 a1] rfl (by (try simp only [List.map_toArray, List.map_cons, List.map_nil]); first | done | rfl | (simp only [List.length_drop, List.length_take]; rfl)) ?_; (with_reducible refine (rubricref1_Space.calls k2 a0 a1 t236 _ A46.out).mono ?_); rintro e w52 ⟨rfl, hb⟩; refine ⟨_, rfl, ?_⟩; have n0_ := Aside0.mk (below_step (by repeat (first | (with_reducible first | exact HB.out | apply below_alloc | apply pw_below_drewN | apply below_drew1) | exact HB.out)) hb); clear HB; have HB := n0_; clear n0_; (try clear hb); (try clear hb2); (try clear hk); (try clear hi)) | (go_at_call 12; (with_reducible refine (char_Words.calls k2 a0 t237 _ A48.out).mono ?_); rintro e w53 ⟨v238, rfl, ho0, hb⟩; have n0_ := Aside0.mk (Kd.R_lower ho0 (below_size (by repeat (first | (with_reducible first | exact HB.out | apply below_alloc | apply pw_below_drewN | apply below_drew1) | exact HB.out)))); have n1_ := Aside0.mk (below_step (by repeat (first | (with_reducible first | exact HB.out | apply below_alloc | apply pw_below_drewN | apply below_drew1) | exact HB.out)) hb); clear HB; have HO239 := n0_; have HB := n1_; clear n0_ n1_; (try clear hb); (try clear hb2); (try clear hk); (try clear hi); (try clear ho0)) | (go_at_call 22; (with_reducible refine (rubricref1_Words.calls k2 a0 t240 _ A49.out).mono ?_); rintro e w54 ⟨v241, rfl, ho0, hb⟩; have n0_ := Aside0.mk (Kd.R_elder' (by (with_reducible repeat (first | apply Kd.R_alloc | apply Kd.R_drewN | apply Kd.R_drew)); exact HO239.out) (Kd.R_base ho0) hb); have n1_ := Aside0.mk (Kd.R_lower (Kd.R_new' ho0 (Kd.R_lt (by (with_reducible repeat (first | apply Kd.R_alloc | apply Kd.R_drewN | apply Kd.R_drew)); exact HO239.out))) (below_size (by repeat (first | (with_reducible first | exact HB.out | apply below_alloc | apply pw_below_drewN | apply below_drew1) | exact HB.out)))); have n2_ := Aside0.mk (below_step (by repeat (first | (with_reducible first | exact HB.out | apply below_alloc | apply pw_below_drewN | apply below_drew1) | exact HB.out)) hb); clear HO239; clear HB; have HO239 := n0_; have HO242 := n1_; have HB := n2_; clear n0_ n1_ n2_; (try clear hb); (try clear hb2); (try clear hk); (try clear hi); (try clear ho0); obtain ⟨Ao55, co55, eo55⟩ := Kd.R_slice HO239.out; subst eo55; obtain ⟨Ao56, co56, eo56⟩ := Kd.R_slice HO242.out; subst eo56) | (go_at_call 11; (with_reducible refine (rubriclaw1_texts.calls k2 _ _ t237 _ _ t240 t243 _ ?side1 ?side2 ?side3 ?side4 A50.out).mono ?_); (case side1 => repeat (first | exact (Kd.R_reads' HO239.out).2.2 | (with_reducible refine Kd.C_alloc ?_ _) | (with_reducible refine Kd.C_drewN ?_ _) | (with_reducible refine Kd.C_drew ?_))); (case side2 => exact (Kd.R_reads' HO239.out).2.1); (case side3 => repeat (first | exact (Kd.R_reads' HO242.out).2.2 | (with_reducible refine Kd.C_alloc ?_ _) | (with_reducible refine Kd.C_drewN ?_ _) | (with_reducible refine Kd.C_drew ?_))); (case side4 => exact (Kd.R_reads' HO242.out).2.1); rintro e w' ⟨rfl, ⟨nd, rfl⟩⟩))
                    go_ret
                    exact ⟨by first | rfl | (simp [errW_none, errW_some] <;> rfl) | (simp [*, errW_none, errW_some] <;> rfl), by repeat (first | (with_reducible first | exact HB.out | apply below_alloc | apply pw_below_drewN | apply below_drew1) | exact HB.out)⟩
                  · rw [if_neg c47] at H
                    have c47b0 : (t235.toList == t236.toList) = false := beq_eq_false_iff_ne.mpr c47
                    have c47b1 : (t235.toList != t236.toList) = true := bne_iff_ne.mpr c47
                    obtain rfl := Option.some.inj H
                    go_wp2_with (first | ((with_reducible refine gate_callee (f := 10) rfl ?_); refine goesL_ (some 76) rfl rfl Try.func10 (by kernel_rfl) rfl #[.string a0, .int .i64 a1] rfl (by (try simp only [List.map_toArray, List.map_cons, List.map_nil]); first | done | rfl | (simp only [List.length_drop, List.length_take]; rfl)) ?_; (with_reducible refine (char_Space.calls k2 a0 a1 t235 _ A45.out).mono ?_); rintro e w57 ⟨rfl, hb⟩; refine ⟨_, rfl, ?_⟩; have n0_ := Aside0.mk (below_step (by repeat (first | (with_reducible first | exact HB.out | apply below_alloc | apply pw_below_drewN | apply below_drew1) | exact HB.out)) hb); clear HB; have HB := n0_; clear n0_; (try clear hb); (try clear hb2); (try clear hk); (try clear hi)) | ((with_reducible refine gate_callee (f := 21) rfl ?_); refine goesL_ (some 79) rfl rfl Try.func21 (by kernel_rfl) rfl #[.string a0, .int .i64 a1] rfl (by (try simp only [List.map_toArray, List.map_cons, List.map_nil]); first | done | rfl | (simp only [List.length_drop, List.length_take]; rfl)) ?_; (with_reducible refine (rubricref1_Space.calls k2 a0 a1 t236 _ A46.out).mono ?_); rintro e w58 ⟨rfl, hb⟩; refine ⟨_, rfl, ?_⟩; have n0_ := Aside0.mk (below_step (by repeat (first | (with_reducible first | exact HB.out | apply below_alloc | apply pw_below_drewN | apply below_drew1) | exact HB.out)) hb); clear HB; have HB := n0_; clear n0_; (try clear hb); (try clear hb2); (try clear hk); (try clear hi)))
                    go_ret
                    exact ⟨by first | rfl | (simp [errW_none, errW_some] <;> rfl) | (simp [*, errW_none, errW_some] <;> rfl), by repeat (first | (with_reducible first | exact HB.out | apply below_alloc | apply pw_below_drewN | apply below_drew1) | exact HB.out)⟩
  · replace c4 := Bool.eq_false_iff.mpr c4
    subst c4
    have H1 : (some false) = some r := by rw [if_neg (show ¬ (false = true) by decide)] at H; exact H
    clear H
    have H := H1
    clear H1
    obtain rfl := Option.some.inj H
    go_enter Try.func4, Try.ntmps4
    go_wp2_with (first | ((with_reducible refine gate_callee (f := 9) rfl ?_); refine goesL_ (some 12) rfl rfl Try.func9 (by kernel_rfl) rfl #[] rfl (by (try simp only [List.map_toArray, List.map_cons, List.map_nil]); first | done | rfl | (simp only [List.length_drop, List.length_take]; rfl)) ?_; (with_reducible refine (rubriclaw1_known.calls k  false _ A3.out).mono ?_); rintro e w59 ⟨rfl, hb⟩; refine ⟨_, rfl, ?_⟩; have n0_ := Aside0.mk (below_step (by repeat (first | (with_reducible first | exact HB.out | apply below_alloc | apply pw_below_drewN | apply below_drew1) | exact HB.out)) hb); clear HB; have HB := n0_; clear n0_; (try clear hb); (try clear hb2); (try clear hk); (try clear hi)))
    go_ret
    exact ⟨by first | rfl | (simp [errW_none, errW_some] <;> rfl) | (simp [*, errW_none, errW_some] <;> rfl), by repeat (first | (with_reducible first | exact HB.out | apply below_alloc | apply pw_below_drewN | apply below_drew1) | exact HB.out)⟩

/-- THE ONE PURE STATEMENT of rubriclaw1_CharNames: yours. -/
def rubriclaw1_CharNames.Pure : Prop := ∀ (a0 : ByteArray) (a1 : Int), a0.size ≤ 140737488351232 → (Lit.int .i64 a1).wf = true → ∃ k, rubriclaw1_CharNames.f k a0 a1 = some true
theorem rubriclaw1_CharNames.walk (P : rubriclaw1_CharNames.Pure) (a0 : ByteArray) (a1 : Int) (w : World) (w0 : a0.size ≤ 140737488351232) (w1 : (Lit.int .i64 a1).wf = true) :
    Calls Try.prog 4 #[.string a0, .int .i64 a1] w fun e w' => e = .returned (.bool true) ∧ Below w.heap.size w w' := by
  obtain ⟨k, h⟩ := P a0 a1 w0 w1
  refine (rubriclaw1_CharNames.calls k a0 a1 true w h).mono ?_
  rintro e w' ⟨rfl, hd⟩
  exact ⟨rfl, hd⟩

end Go.Proofs.Ytjogllgkdnomiaa.PCharNames
