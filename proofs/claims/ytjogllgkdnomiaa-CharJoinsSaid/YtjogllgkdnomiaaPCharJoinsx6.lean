-- Written by a turned copy of the print (wip/print/mkprint.py): contracts proved by hand are joined in. Lean checks it.
import Derived.Test.YtjogllgkdnomiaaPCharJoinsx0
import Derived.Test.YtjogllgkdnomiaaPCharJoinsx4
import Derived.Test.YtjogllgkdnomiaaPCharJoinsx5
namespace Go.Proofs.Ytjogllgkdnomiaa.PCharJoins
open Go.RowKit Go.Proofs.YtjogllgkdnomiaaW.PrintWords Go.Proofs.YtjogllgkdnomiaaW.PrintLast Go.Proofs.YtjogllgkdnomiaaW.PrintMore
attribute [local go_sem] max2_int min2_int max_two min_two max_three min_three max_four min_four   -- for this text's walks alone
set_option linter.unusedVariables false
set_option linter.unusedSimpArgs false

/-! ### rubriclaw1_CharJoins: function 5 -/
mutual
def rubriclaw1_CharJoins.j0 : Nat → ByteArray → ByteArray → Bool → Option (Bool)
  | 0, _, _, _ => none
  | k + 1, x0, x1, x17 => if x17 = true then (some true) else ((char_Name.f k x0).bind fun t165 => (if t165 = true then ((char_Token.f k x1).bind fun t166 => (if t166 = true then (if x0.size + x1.size ≤ 9223372036854775807 then ((char_Name.f k (x0 ++ x1)).bind fun t167 => (if t167 = true then ((char_NCName.f k x0).bind fun t168 => (if t168 = true then ((char_NCName.f k x1).bind fun t169 => (if t169 = true then (if x0.size + 1 ≤ 9223372036854775807 then (if (x0 ++ (⟨#[58]⟩ : ByteArray)).size + x1.size ≤ 9223372036854775807 then ((char_Name.f k ((x0 ++ (⟨#[58]⟩ : ByteArray)) ++ x1)).bind fun t170 => (if t170 = true then (if (x0 ++ (⟨#[32]⟩ : ByteArray)).size + x1.size ≤ 9223372036854775807 then ((char_Name.f k ((x0 ++ (⟨#[32]⟩ : ByteArray)) ++ x1)).bind fun t171 => (if t171 = true then (rubriclaw1_CharJoins.j1 k x0 true) else ((char_Name.f k (x0 ++ (⟨#[0]⟩ : ByteArray))).bind fun t172 => (rubriclaw1_CharJoins.j1 k x0 t172)))) else (none)) else (rubriclaw1_CharJoins.j1 k x0 true))) else (none)) else (none)) else (if x0.size + 1 ≤ 9223372036854775807 then (if (x0 ++ (⟨#[32]⟩ : ByteArray)).size + x1.size ≤ 9223372036854775807 then ((char_Name.f k ((x0 ++ (⟨#[32]⟩ : ByteArray)) ++ x1)).bind fun t173 => (if t173 = true then (rubriclaw1_CharJoins.j1 k x0 true) else ((char_Name.f k (x0 ++ (⟨#[0]⟩ : ByteArray))).bind fun t174 => (rubriclaw1_CharJoins.j1 k x0 t174)))) else (none)) else (none)))) else (if x0.size + 1 ≤ 9223372036854775807 then (if (x0 ++ (⟨#[32]⟩ : ByteArray)).size + x1.size ≤ 9223372036854775807 then ((char_Name.f k ((x0 ++ (⟨#[32]⟩ : ByteArray)) ++ x1)).bind fun t175 => (if t175 = true then (rubriclaw1_CharJoins.j1 k x0 true) else ((char_Name.f k (x0 ++ (⟨#[0]⟩ : ByteArray))).bind fun t176 => (rubriclaw1_CharJoins.j1 k x0 t176)))) else (none)) else (none)))) else (rubriclaw1_CharJoins.j1 k x0 true))) else (none)) else ((char_NCName.f k x0).bind fun t177 => (if t177 = true then ((char_NCName.f k x1).bind fun t178 => (if t178 = true then (if x0.size + 1 ≤ 9223372036854775807 then (if (x0 ++ (⟨#[58]⟩ : ByteArray)).size + x1.size ≤ 9223372036854775807 then ((char_Name.f k ((x0 ++ (⟨#[58]⟩ : ByteArray)) ++ x1)).bind fun t179 => (if t179 = true then (if (x0 ++ (⟨#[32]⟩ : ByteArray)).size + x1.size ≤ 9223372036854775807 then ((char_Name.f k ((x0 ++ (⟨#[32]⟩ : ByteArray)) ++ x1)).bind fun t180 => (if t180 = true then (rubriclaw1_CharJoins.j1 k x0 true) else ((char_Name.f k (x0 ++ (⟨#[0]⟩ : ByteArray))).bind fun t181 => (rubriclaw1_CharJoins.j1 k x0 t181)))) else (none)) else (rubriclaw1_CharJoins.j1 k x0 true))) else (none)) else (none)) else (if x0.size + 1 ≤ 9223372036854775807 then (if (x0 ++ (⟨#[32]⟩ : ByteArray)).size + x1.size ≤ 9223372036854775807 then ((char_Name.f k ((x0 ++ (⟨#[32]⟩ : ByteArray)) ++ x1)).bind fun t182 => (if t182 = true then (rubriclaw1_CharJoins.j1 k x0 true) else ((char_Name.f k (x0 ++ (⟨#[0]⟩ : ByteArray))).bind fun t183 => (rubriclaw1_CharJoins.j1 k x0 t183)))) else (none)) else (none)))) else (if x0.size + 1 ≤ 9223372036854775807 then (if (x0 ++ (⟨#[32]⟩ : ByteArray)).size + x1.size ≤ 9223372036854775807 then ((char_Name.f k ((x0 ++ (⟨#[32]⟩ : ByteArray)) ++ x1)).bind fun t184 => (if t184 = true then (rubriclaw1_CharJoins.j1 k x0 true) else ((char_Name.f k (x0 ++ (⟨#[0]⟩ : ByteArray))).bind fun t185 => (rubriclaw1_CharJoins.j1 k x0 t185)))) else (none)) else (none)))))) else ((char_NCName.f k x0).bind fun t186 => (if t186 = true then ((char_NCName.f k x1).bind fun t187 => (if t187 = true then (if x0.size + 1 ≤ 9223372036854775807 then (if (x0 ++ (⟨#[58]⟩ : ByteArray)).size + x1.size ≤ 9223372036854775807 then ((char_Name.f k ((x0 ++ (⟨#[58]⟩ : ByteArray)) ++ x1)).bind fun t188 => (if t188 = true then (if (x0 ++ (⟨#[32]⟩ : ByteArray)).size + x1.size ≤ 9223372036854775807 then ((char_Name.f k ((x0 ++ (⟨#[32]⟩ : ByteArray)) ++ x1)).bind fun t189 => (if t189 = true then (rubriclaw1_CharJoins.j1 k x0 true) else ((char_Name.f k (x0 ++ (⟨#[0]⟩ : ByteArray))).bind fun t190 => (rubriclaw1_CharJoins.j1 k x0 t190)))) else (none)) else (rubriclaw1_CharJoins.j1 k x0 true))) else (none)) else (none)) else (if x0.size + 1 ≤ 9223372036854775807 then (if (x0 ++ (⟨#[32]⟩ : ByteArray)).size + x1.size ≤ 9223372036854775807 then ((char_Name.f k ((x0 ++ (⟨#[32]⟩ : ByteArray)) ++ x1)).bind fun t191 => (if t191 = true then (rubriclaw1_CharJoins.j1 k x0 true) else ((char_Name.f k (x0 ++ (⟨#[0]⟩ : ByteArray))).bind fun t192 => (rubriclaw1_CharJoins.j1 k x0 t192)))) else (none)) else (none)))) else (if x0.size + 1 ≤ 9223372036854775807 then (if (x0 ++ (⟨#[32]⟩ : ByteArray)).size + x1.size ≤ 9223372036854775807 then ((char_Name.f k ((x0 ++ (⟨#[32]⟩ : ByteArray)) ++ x1)).bind fun t193 => (if t193 = true then (rubriclaw1_CharJoins.j1 k x0 true) else ((char_Name.f k (x0 ++ (⟨#[0]⟩ : ByteArray))).bind fun t194 => (rubriclaw1_CharJoins.j1 k x0 t194)))) else (none)) else (none))))))
def rubriclaw1_CharJoins.j1 : Nat → ByteArray → Bool → Option (Bool)
  | 0, _, _ => none
  | k + 1, x0, x58 => if x58 = true then (some false) else ((char_QName.f k x0).bind fun bt195 => (if bt195.2.2 = true then (if bt195.1.toList = ([] : List UInt8) then (if bt195.2.1.toList = x0.toList then ((char_NCName.f k x0).bind fun t198 => (some t198)) else (some false)) else (if bt195.1.size + 1 ≤ 9223372036854775807 then (if (bt195.1 ++ (⟨#[58]⟩ : ByteArray)).size + bt195.2.1.size ≤ 9223372036854775807 then (if ((bt195.1 ++ (⟨#[58]⟩ : ByteArray)) ++ bt195.2.1).toList = x0.toList then ((char_NCName.f k bt195.1).bind fun t199 => (if t199 = true then ((char_NCName.f k bt195.2.1).bind fun t200 => (if t200 = true then ((char_NCName.f k x0).bind fun t201 => (some (!t201))) else (some false))) else (some false))) else (some false)) else (none)) else (none))) else (if bt195.1.toList = ([] : List UInt8) then (some bt195.2.1.toList.isEmpty) else (some false))))
end
def rubriclaw1_CharJoins.f (k : Nat) (a0 : ByteArray) (a1 : ByteArray) : Option (Bool) := (rubriclaw1_known.f k).bind fun t164 => (if t164 = true then (if (a0.size : Int) > 500 then (rubriclaw1_CharJoins.j0 k a0 a1 true) else (rubriclaw1_CharJoins.j0 k a0 a1 (decide ((a1.size : Int) > 500)))) else (some false))
theorem rubriclaw1_CharJoins.mono_l : ∀ k, (∀ y0 y1 y2, LeO (rubriclaw1_CharJoins.j0 k y0 y1 y2) (rubriclaw1_CharJoins.j0 (k + 1) y0 y1 y2)) ∧ (∀ y0 y1, LeO (rubriclaw1_CharJoins.j1 k y0 y1) (rubriclaw1_CharJoins.j1 (k + 1) y0 y1))
  | 0 => ⟨fun _ _ _ r h => by simp [rubriclaw1_CharJoins.j0] at h, fun _ _ r h => by simp [rubriclaw1_CharJoins.j1] at h⟩
  | k + 1 => by
    obtain ⟨ih0, ih1⟩ := rubriclaw1_CharJoins.mono_l k
    refine ⟨?_, ?_⟩
    · intro y0 y1 y2
      unfold rubriclaw1_CharJoins.j0
      repeat' first
      | (with_reducible exact ih0 _ _ _)
      | (with_reducible exact ih1 _ _)
      | (with_reducible exact char_NCName.mono _ _)
      | (with_reducible exact char_Name.mono _ _)
      | (with_reducible exact char_QName.mono _ _)
      | (with_reducible exact char_Token.mono _ _)
      | (with_reducible exact rubriclaw1_known.mono _)
      | (with_reducible exact LeO.refl _)
      | (with_reducible exact LeO.none _)
      | (with_reducible refine LeO.ite ?_ ?_)
      | (with_reducible refine LeO.bind ?_ (fun _ => ?_))
      | exact ih0 _ _ _
      | exact ih1 _ _
      | exact char_NCName.mono _ _
      | exact char_Name.mono _ _
      | exact char_QName.mono _ _
      | exact char_Token.mono _ _
      | exact rubriclaw1_known.mono _
      | exact LeO.none _
      | refine LeO.ite ?_ ?_
      | refine LeO.bind ?_ (fun _ => ?_)
    · intro y0 y1
      unfold rubriclaw1_CharJoins.j1
      repeat' first
      | (with_reducible exact ih0 _ _ _)
      | (with_reducible exact ih1 _ _)
      | (with_reducible exact char_NCName.mono _ _)
      | (with_reducible exact char_Name.mono _ _)
      | (with_reducible exact char_QName.mono _ _)
      | (with_reducible exact char_Token.mono _ _)
      | (with_reducible exact rubriclaw1_known.mono _)
      | (with_reducible exact LeO.refl _)
      | (with_reducible exact LeO.none _)
      | (with_reducible refine LeO.ite ?_ ?_)
      | (with_reducible refine LeO.bind ?_ (fun _ => ?_))
      | exact ih0 _ _ _
      | exact ih1 _ _
      | exact char_NCName.mono _ _
      | exact char_Name.mono _ _
      | exact char_QName.mono _ _
      | exact char_Token.mono _ _
      | exact rubriclaw1_known.mono _
      | exact LeO.none _
      | refine LeO.ite ?_ ?_
      | refine LeO.bind ?_ (fun _ => ?_)
theorem rubriclaw1_CharJoins.mono : ∀ a0 a1 k, LeO (rubriclaw1_CharJoins.f k a0 a1) (rubriclaw1_CharJoins.f (k + 1) a0 a1) := by
  intro a0 a1 k
  obtain ⟨ih0, ih1⟩ := rubriclaw1_CharJoins.mono_l k
  unfold rubriclaw1_CharJoins.f
  repeat' first
      | (with_reducible exact ih0 _ _ _)
      | (with_reducible exact ih1 _ _)
      | (with_reducible exact char_NCName.mono _ _)
      | (with_reducible exact char_Name.mono _ _)
      | (with_reducible exact char_QName.mono _ _)
      | (with_reducible exact char_Token.mono _ _)
      | (with_reducible exact rubriclaw1_known.mono _)
      | (with_reducible exact LeO.refl _)
      | (with_reducible exact LeO.none _)
      | (with_reducible refine LeO.ite ?_ ?_)
      | (with_reducible refine LeO.bind ?_ (fun _ => ?_))
      | exact ih0 _ _ _
      | exact ih1 _ _
      | exact char_NCName.mono _ _
      | exact char_Name.mono _ _
      | exact char_QName.mono _ _
      | exact char_Token.mono _ _
      | exact rubriclaw1_known.mono _
      | exact LeO.none _
      | refine LeO.ite ?_ ?_
      | refine LeO.bind ?_ (fun _ => ?_)
set_option maxHeartbeats 8000000 in
set_option maxRecDepth 100000 in
theorem rubriclaw1_CharJoins.calls (k : Nat) (a0 : ByteArray) (a1 : ByteArray) (r : Bool) (w : World) (h : rubriclaw1_CharJoins.f k a0 a1 = some r) :
    Calls Try.prog 5 #[.string a0, .string a1] w fun e w' => e = .returned (.bool r) ∧ Below w.heap.size w w' := by
  have HB := Aside0.mk (Below.refl w.heap.size w)
  have H : ((rubriclaw1_known.f k).bind fun t164 => (if t164 = true then (if (a0.size : Int) > 500 then (rubriclaw1_CharJoins.j0 k a0 a1 true) else (rubriclaw1_CharJoins.j0 k a0 a1 (decide ((a1.size : Int) > 500)))) else (some false))) = some r := h
  clear h
  replace H := Option.bind_eq_some_iff.mp H
  obtain ⟨t164, A30, H⟩ := H
  replace H : (if t164 = true then (if (a0.size : Int) > 500 then (rubriclaw1_CharJoins.j0 k a0 a1 true) else (rubriclaw1_CharJoins.j0 k a0 a1 (decide ((a1.size : Int) > 500)))) else (some false)) = some r := H
  have A3 := Aside0.mk A30
  clear A30
  by_cases c4 : t164 = true
  · subst c4
    have H1 : (if (a0.size : Int) > 500 then (rubriclaw1_CharJoins.j0 k a0 a1 true) else (rubriclaw1_CharJoins.j0 k a0 a1 (decide ((a1.size : Int) > 500)))) = some r := by rw [if_pos rfl] at H; exact H
    clear H
    have H := H1
    clear H1
    have HC5 := Aside0.mk H
    clear H
    go_enter Try.func5, Try.ntmps5
    go_upto_region 3 with (first | ((with_reducible refine gate_callee (f := 9) rfl ?_); refine goesL_ (some 8) rfl rfl Try.func9 (by kernel_rfl) rfl #[] rfl (by (try simp only [List.map_toArray, List.map_cons, List.map_nil]); first | done | rfl | (simp only [List.length_drop, List.length_take]; rfl)) ?_; (with_reducible refine (rubriclaw1_known.calls k  true _ A3.out).mono ?_); rintro e w6 ⟨rfl, hb⟩; refine ⟨_, rfl, ?_⟩; have n0_ := Aside0.mk (below_step (by repeat (first | (with_reducible first | exact HB.out | apply below_alloc | apply pw_below_drewN | apply below_drew1) | exact HB.out)) hb); clear HB; have HB := n0_; clear n0_; (try clear hb); (try clear hb2); (try clear hk); (try clear hi)))
    (try simp only [Act.put, List.setIfInBounds_toArray, List.set_cons_zero, List.set_cons_succ])
    go_cut [17] (fun v17 wc => ∃ (kq : Nat) (x17_4 : Bool), v17 = .bool x17_4 ∧ Aside0 (rubriclaw1_CharJoins.j0 kq a0 a1 x17_4 = some r) ∧ Aside0 (kq ≤ k) ∧ Aside0 (Below w.heap.size w wc))
    case first =>
      have H := HC5.out
      clear HC5
      by_cases c7 : (a0.size : Int) > 500
      · rw [if_pos c7] at H
        have c7b0 : decide (500 < (a0.size : Int)) = true := decide_eq_true c7
        have c7b1 : decide (500 < a0.size) = true := decide_eq_true (by omega)
        clear c7
        (first | rw [c7b0] | (simp only [i64_w, i32_w]; rw [c7b0]) | skip)
        have H' := Aside0.mk H
        clear H
        go_wp2
        go_meet
        case rel => exact ⟨_, (true), (by first | rfl | (simp; done) | (simp [*]; done)), H', ⟨by first | omega | exact Nat.le_refl _⟩, ⟨by repeat (first | (with_reducible first | exact HB.out | apply below_alloc | apply pw_below_drewN | apply below_drew1) | exact HB.out)⟩⟩
      · rw [if_neg c7] at H
        have c7b0 : decide (500 < (a0.size : Int)) = false := decide_eq_false c7
        have c7b1 : decide (500 < a0.size) = false := decide_eq_false (by omega)
        clear c7
        (first | rw [c7b0] | (simp only [i64_w, i32_w]; rw [c7b0]) | skip)
        have H' := Aside0.mk H
        clear H
        go_wp2
        go_meet
        case rel => exact ⟨_, (decide ((a1.size : Int) > 500)), (by first | rfl | (simp; done) | (simp [*]; done)), H', ⟨by first | omega | exact Nat.le_refl _⟩, ⟨by repeat (first | (with_reducible first | exact HB.out | apply below_alloc | apply pw_below_drewN | apply below_drew1) | exact HB.out)⟩⟩
    case rest =>
      clear HC5
      try clear p2
      try clear c4
      try clear c5
      try clear c7
      try clear c7b0
      try clear c7b1
      obtain ⟨kq, x17_4, rfl, HA, HJ4, HB⟩ := hcut
      cases kq with
      | zero => exact absurd HA.out (by simp [rubriclaw1_CharJoins.j0])
      | succ kj4 =>
        have H := HA.out
        clear HA
        simp only [rubriclaw1_CharJoins.j0] at H
        by_cases c8 : x17_4 = true
        · subst c8
          have H1 : (some true) = some r := by rw [if_pos rfl] at H; exact H
          clear H
          have H := H1
          clear H1
          obtain rfl := Option.some.inj H
          go_wp2
          go_ret
          exact ⟨by first | rfl | (simp [errW_none, errW_some] <;> rfl) | (simp [*, errW_none, errW_some] <;> rfl), by repeat (first | (with_reducible first | exact HB.out | apply below_alloc | apply pw_below_drewN | apply below_drew1) | exact HB.out)⟩
        · replace c8 := Bool.eq_false_iff.mpr c8
          subst c8
          have H1 : ((char_Name.f kj4 a0).bind fun t165 => (if t165 = true then ((char_Token.f kj4 a1).bind fun t166 => (if t166 = true then (if a0.size + a1.size ≤ 9223372036854775807 then ((char_Name.f kj4 (a0 ++ a1)).bind fun t167 => (if t167 = true then ((char_NCName.f kj4 a0).bind fun t168 => (if t168 = true then ((char_NCName.f kj4 a1).bind fun t169 => (if t169 = true then (if a0.size + 1 ≤ 9223372036854775807 then (if (a0 ++ (⟨#[58]⟩ : ByteArray)).size + a1.size ≤ 9223372036854775807 then ((char_Name.f kj4 ((a0 ++ (⟨#[58]⟩ : ByteArray)) ++ a1)).bind fun t170 => (if t170 = true then (if (a0 ++ (⟨#[32]⟩ : ByteArray)).size + a1.size ≤ 9223372036854775807 then ((char_Name.f kj4 ((a0 ++ (⟨#[32]⟩ : ByteArray)) ++ a1)).bind fun t171 => (if t171 = true then (rubriclaw1_CharJoins.j1 kj4 a0 true) else ((char_Name.f kj4 (a0 ++ (⟨#[0]⟩ : ByteArray))).bind fun t172 => (rubriclaw1_CharJoins.j1 kj4 a0 t172)))) else (none)) else (rubriclaw1_CharJoins.j1 kj4 a0 true))) else (none)) else (none)) else (if a0.size + 1 ≤ 9223372036854775807 then (if (a0 ++ (⟨#[32]⟩ : ByteArray)).size + a1.size ≤ 9223372036854775807 then ((char_Name.f kj4 ((a0 ++ (⟨#[32]⟩ : ByteArray)) ++ a1)).bind fun t173 => (if t173 = true then (rubriclaw1_CharJoins.j1 kj4 a0 true) else ((char_Name.f kj4 (a0 ++ (⟨#[0]⟩ : ByteArray))).bind fun t174 => (rubriclaw1_CharJoins.j1 kj4 a0 t174)))) else (none)) else (none)))) else (if a0.size + 1 ≤ 9223372036854775807 then (if (a0 ++ (⟨#[32]⟩ : ByteArray)).size + a1.size ≤ 9223372036854775807 then ((char_Name.f kj4 ((a0 ++ (⟨#[32]⟩ : ByteArray)) ++ a1)).bind fun t175 => (if t175 = true then (rubriclaw1_CharJoins.j1 kj4 a0 true) else ((char_Name.f kj4 (a0 ++ (⟨#[0]⟩ : ByteArray))).bind fun t176 => (rubriclaw1_CharJoins.j1 kj4 a0 t176)))) else (none)) else (none)))) else (rubriclaw1_CharJoins.j1 kj4 a0 true))) else (none)) else ((char_NCName.f kj4 a0).bind fun t177 => (if t177 = true then ((char_NCName.f kj4 a1).bind fun t178 => (if t178 = true then (if a0.size + 1 ≤ 9223372036854775807 then (if (a0 ++ (⟨#[58]⟩ : ByteArray)).size + a1.size ≤ 9223372036854775807 then ((char_Name.f kj4 ((a0 ++ (⟨#[58]⟩ : ByteArray)) ++ a1)).bind fun t179 => (if t179 = true then (if (a0 ++ (⟨#[32]⟩ : ByteArray)).size + a1.size ≤ 9223372036854775807 then ((char_Name.f kj4 ((a0 ++ (⟨#[32]⟩ : ByteArray)) ++ a1)).bind fun t180 => (if t180 = true then (rubriclaw1_CharJoins.j1 kj4 a0 true) else ((char_Name.f kj4 (a0 ++ (⟨#[0]⟩ : ByteArray))).bind fun t181 => (rubriclaw1_CharJoins.j1 kj4 a0 t181)))) else (none)) else (rubriclaw1_CharJoins.j1 kj4 a0 true))) else (none)) else (none)) else (if a0.size + 1 ≤ 9223372036854775807 then (if (a0 ++ (⟨#[32]⟩ : ByteArray)).size + a1.size ≤ 9223372036854775807 then ((char_Name.f kj4 ((a0 ++ (⟨#[32]⟩ : ByteArray)) ++ a1)).bind fun t182 => (if t182 = true then (rubriclaw1_CharJoins.j1 kj4 a0 true) else ((char_Name.f kj4 (a0 ++ (⟨#[0]⟩ : ByteArray))).bind fun t183 => (rubriclaw1_CharJoins.j1 kj4 a0 t183)))) else (none)) else (none)))) else (if a0.size + 1 ≤ 9223372036854775807 then (if (a0 ++ (⟨#[32]⟩ : ByteArray)).size + a1.size ≤ 9223372036854775807 then ((char_Name.f kj4 ((a0 ++ (⟨#[32]⟩ : ByteArray)) ++ a1)).bind fun t184 => (if t184 = true then (rubriclaw1_CharJoins.j1 kj4 a0 true) else ((char_Name.f kj4 (a0 ++ (⟨#[0]⟩ : ByteArray))).bind fun t185 => (rubriclaw1_CharJoins.j1 kj4 a0 t185)))) else (none)) else (none)))))) else ((char_NCName.f kj4 a0).bind fun t186 => (if t186 = true then ((char_NCName.f kj4 a1).bind fun t187 => (if t187 = true then (if a0.size + 1 ≤ 9223372036854775807 then (if (a0 ++ (⟨#[58]⟩ : ByteArray)).size + a1.size ≤ 9223372036854775807 then ((char_Name.f kj4 ((a0 ++ (⟨#[58]⟩ : ByteArray)) ++ a1)).bind fun t188 => (if t188 = true then (if (a0 ++ (⟨#[32]⟩ : ByteArray)).size + a1.size ≤ 9223372036854775807 then ((char_Name.f kj4 ((a0 ++ (⟨#[32]⟩ : ByteArray)) ++ a1)).bind fun t189 => (if t189 = true then (rubriclaw1_CharJoins.j1 kj4 a0 true) else ((char_Name.f kj4 (a0 ++ (⟨#[0]⟩ : ByteArray))).bind fun t190 => (rubriclaw1_CharJoins.j1 kj4 a0 t190)))) else (none)) else (rubriclaw1_CharJoins.j1 kj4 a0 true))) else (none)) else (none)) else (if a0.size + 1 ≤ 9223372036854775807 then (if (a0 ++ (⟨#[32]⟩ : ByteArray)).size + a1.size ≤ 9223372036854775807 then ((char_Name.f kj4 ((a0 ++ (⟨#[32]⟩ : ByteArray)) ++ a1)).bind fun t191 => (if t191 = true then (rubriclaw1_CharJoins.j1 kj4 a0 true) else ((char_Name.f kj4 (a0 ++ (⟨#[0]⟩ : ByteArray))).bind fun t192 => (rubriclaw1_CharJoins.j1 kj4 a0 t192)))) else (none)) else (none)))) else (if a0.size + 1 ≤ 9223372036854775807 then (if (a0 ++ (⟨#[32]⟩ : ByteArray)).size + a1.size ≤ 9223372036854775807 then ((char_Name.f kj4 ((a0 ++ (⟨#[32]⟩ : ByteArray)) ++ a1)).bind fun t193 => (if t193 = true then (rubriclaw1_CharJoins.j1 kj4 a0 true) else ((char_Name.f kj4 (a0 ++ (⟨#[0]⟩ : ByteArray))).bind fun t194 => (rubriclaw1_CharJoins.j1 kj4 a0 t194)))) else (none)) else (none)))))) = some r := by rw [if_neg (show ¬ (false = true) by decide)] at H; exact H
          clear H
          have H := H1
          clear H1
          have HC9 := Aside0.mk H
          clear H
          go_upto_region 5 with (fail)
          go_cut [58] (fun v58 wc => ∃ (kq : Nat) (x58_8 : Bool), v58 = .bool x58_8 ∧ Aside0 (rubriclaw1_CharJoins.j1 kq a0 x58_8 = some r) ∧ Aside0 (kq ≤ kj4) ∧ Aside0 (Below w.heap.size w wc))
          case first =>
            have H := HC9.out
            clear HC9
            replace H := Option.bind_eq_some_iff.mp H
            obtain ⟨t165, A100, H⟩ := H
            replace H : (if t165 = true then ((char_Token.f kj4 a1).bind fun t166 => (if t166 = true then (if a0.size + a1.size ≤ 9223372036854775807 then ((char_Name.f kj4 (a0 ++ a1)).bind fun t167 => (if t167 = true then ((char_NCName.f kj4 a0).bind fun t168 => (if t168 = true then ((char_NCName.f kj4 a1).bind fun t169 => (if t169 = true then (if a0.size + 1 ≤ 9223372036854775807 then (if (a0 ++ (⟨#[58]⟩ : ByteArray)).size + a1.size ≤ 9223372036854775807 then ((char_Name.f kj4 ((a0 ++ (⟨#[58]⟩ : ByteArray)) ++ a1)).bind fun t170 => (if t170 = true then (if (a0 ++ (⟨#[32]⟩ : ByteArray)).size + a1.size ≤ 9223372036854775807 then ((char_Name.f kj4 ((a0 ++ (⟨#[32]⟩ : ByteArray)) ++ a1)).bind fun t171 => (if t171 = true then (rubriclaw1_CharJoins.j1 kj4 a0 true) else ((char_Name.f kj4 (a0 ++ (⟨#[0]⟩ : ByteArray))).bind fun t172 => (rubriclaw1_CharJoins.j1 kj4 a0 t172)))) else (none)) else (rubriclaw1_CharJoins.j1 kj4 a0 true))) else (none)) else (none)) else (if a0.size + 1 ≤ 9223372036854775807 then (if (a0 ++ (⟨#[32]⟩ : ByteArray)).size + a1.size ≤ 9223372036854775807 then ((char_Name.f kj4 ((a0 ++ (⟨#[32]⟩ : ByteArray)) ++ a1)).bind fun t173 => (if t173 = true then (rubriclaw1_CharJoins.j1 kj4 a0 true) else ((char_Name.f kj4 (a0 ++ (⟨#[0]⟩ : ByteArray))).bind fun t174 => (rubriclaw1_CharJoins.j1 kj4 a0 t174)))) else (none)) else (none)))) else (if a0.size + 1 ≤ 9223372036854775807 then (if (a0 ++ (⟨#[32]⟩ : ByteArray)).size + a1.size ≤ 9223372036854775807 then ((char_Name.f kj4 ((a0 ++ (⟨#[32]⟩ : ByteArray)) ++ a1)).bind fun t175 => (if t175 = true then (rubriclaw1_CharJoins.j1 kj4 a0 true) else ((char_Name.f kj4 (a0 ++ (⟨#[0]⟩ : ByteArray))).bind fun t176 => (rubriclaw1_CharJoins.j1 kj4 a0 t176)))) else (none)) else (none)))) else (rubriclaw1_CharJoins.j1 kj4 a0 true))) else (none)) else ((char_NCName.f kj4 a0).bind fun t177 => (if t177 = true then ((char_NCName.f kj4 a1).bind fun t178 => (if t178 = true then (if a0.size + 1 ≤ 9223372036854775807 then (if (a0 ++ (⟨#[58]⟩ : ByteArray)).size + a1.size ≤ 9223372036854775807 then ((char_Name.f kj4 ((a0 ++ (⟨#[58]⟩ : ByteArray)) ++ a1)).bind fun t179 => (if t179 = true then (if (a0 ++ (⟨#[32]⟩ : ByteArray)).size + a1.size ≤ 9223372036854775807 then ((char_Name.f kj4 ((a0 ++ (⟨#[32]⟩ : ByteArray)) ++ a1)).bind fun t180 => (if t180 = true then (rubriclaw1_CharJoins.j1 kj4 a0 true) else ((char_Name.f kj4 (a0 ++ (⟨#[0]⟩ : ByteArray))).bind fun t181 => (rubriclaw1_CharJoins.j1 kj4 a0 t181)))) else (none)) else (rubriclaw1_CharJoins.j1 kj4 a0 true))) else (none)) else (none)) else (if a0.size + 1 ≤ 9223372036854775807 then (if (a0 ++ (⟨#[32]⟩ : ByteArray)).size + a1.size ≤ 9223372036854775807 then ((char_Name.f kj4 ((a0 ++ (⟨#[32]⟩ : ByteArray)) ++ a1)).bind fun t182 => (if t182 = true then (rubriclaw1_CharJoins.j1 kj4 a0 true) else ((char_Name.f kj4 (a0 ++ (⟨#[0]⟩ : ByteArray))).bind fun t183 => (rubriclaw1_CharJoins.j1 kj4 a0 t183)))) else (none)) else (none)))) else (if a0.size + 1 ≤ 9223372036854775807 then (if (a0 ++ (⟨#[32]⟩ : ByteArray)).size + a1.size ≤ 9223372036854775807 then ((char_Name.f kj4 ((a0 ++ (⟨#[32]⟩ : ByteArray)) ++ a1)).bind fun t184 => (if t184 = true then (rubriclaw1_CharJoins.j1 kj4 a0 true) else ((char_Name.f kj4 (a0 ++ (⟨#[0]⟩ : ByteArray))).bind fun t185 => (rubriclaw1_CharJoins.j1 kj4 a0 t185)))) else (none)) else (none)))))) else ((char_NCName.f kj4 a0).bind fun t186 => (if t186 = true then ((char_NCName.f kj4 a1).bind fun t187 => (if t187 = true then (if a0.size + 1 ≤ 9223372036854775807 then (if (a0 ++ (⟨#[58]⟩ : ByteArray)).size + a1.size ≤ 9223372036854775807 then ((char_Name.f kj4 ((a0 ++ (⟨#[58]⟩ : ByteArray)) ++ a1)).bind fun t188 => (if t188 = true then (if (a0 ++ (⟨#[32]⟩ : ByteArray)).size + a1.size ≤ 9223372036854775807 then ((char_Name.f kj4 ((a0 ++ (⟨#[32]⟩ : ByteArray)) ++ a1)).bind fun t189 => (if t189 = true then (rubriclaw1_CharJoins.j1 kj4 a0 true) else ((char_Name.f kj4 (a0 ++ (⟨#[0]⟩ : ByteArray))).bind fun t190 => (rubriclaw1_CharJoins.j1 kj4 a0 t190)))) else (none)) else (rubriclaw1_CharJoins.j1 kj4 a0 true))) else (none)) else (none)) else (if a0.size + 1 ≤ 9223372036854775807 then (if (a0 ++ (⟨#[32]⟩ : ByteArray)).size + a1.size ≤ 9223372036854775807 then ((char_Name.f kj4 ((a0 ++ (⟨#[32]⟩ : ByteArray)) ++ a1)).bind fun t191 => (if t191 = true then (rubriclaw1_CharJoins.j1 kj4 a0 true) else ((char_Name.f kj4 (a0 ++ (⟨#[0]⟩ : ByteArray))).bind fun t192 => (rubriclaw1_CharJoins.j1 kj4 a0 t192)))) else (none)) else (none)))) else (if a0.size + 1 ≤ 9223372036854775807 then (if (a0 ++ (⟨#[32]⟩ : ByteArray)).size + a1.size ≤ 9223372036854775807 then ((char_Name.f kj4 ((a0 ++ (⟨#[32]⟩ : ByteArray)) ++ a1)).bind fun t193 => (if t193 = true then (rubriclaw1_CharJoins.j1 kj4 a0 true) else ((char_Name.f kj4 (a0 ++ (⟨#[0]⟩ : ByteArray))).bind fun t194 => (rubriclaw1_CharJoins.j1 kj4 a0 t194)))) else (none)) else (none))))) = some r := H
            have A10 := Aside0.mk A100
            clear A100
            by_cases c11 : t165 = true
            · subst c11
              have H1 : ((char_Token.f kj4 a1).bind fun t166 => (if t166 = true then (if a0.size + a1.size ≤ 9223372036854775807 then ((char_Name.f kj4 (a0 ++ a1)).bind fun t167 => (if t167 = true then ((char_NCName.f kj4 a0).bind fun t168 => (if t168 = true then ((char_NCName.f kj4 a1).bind fun t169 => (if t169 = true then (if a0.size + 1 ≤ 9223372036854775807 then (if (a0 ++ (⟨#[58]⟩ : ByteArray)).size + a1.size ≤ 9223372036854775807 then ((char_Name.f kj4 ((a0 ++ (⟨#[58]⟩ : ByteArray)) ++ a1)).bind fun t170 => (if t170 = true then (if (a0 ++ (⟨#[32]⟩ : ByteArray)).size + a1.size ≤ 9223372036854775807 then ((char_Name.f kj4 ((a0 ++ (⟨#[32]⟩ : ByteArray)) ++ a1)).bind fun t171 => (if t171 = true then (rubriclaw1_CharJoins.j1 kj4 a0 true) else ((char_Name.f kj4 (a0 ++ (⟨#[0]⟩ : ByteArray))).bind fun t172 => (rubriclaw1_CharJoins.j1 kj4 a0 t172)))) else (none)) else (rubriclaw1_CharJoins.j1 kj4 a0 true))) else (none)) else (none)) else (if a0.size + 1 ≤ 9223372036854775807 then (if (a0 ++ (⟨#[32]⟩ : ByteArray)).size + a1.size ≤ 9223372036854775807 then ((char_Name.f kj4 ((a0 ++ (⟨#[32]⟩ : ByteArray)) ++ a1)).bind fun t173 => (if t173 = true then (rubriclaw1_CharJoins.j1 kj4 a0 true) else ((char_Name.f kj4 (a0 ++ (⟨#[0]⟩ : ByteArray))).bind fun t174 => (rubriclaw1_CharJoins.j1 kj4 a0 t174)))) else (none)) else (none)))) else (if a0.size + 1 ≤ 9223372036854775807 then (if (a0 ++ (⟨#[32]⟩ : ByteArray)).size + a1.size ≤ 9223372036854775807 then ((char_Name.f kj4 ((a0 ++ (⟨#[32]⟩ : ByteArray)) ++ a1)).bind fun t175 => (if t175 = true then (rubriclaw1_CharJoins.j1 kj4 a0 true) else ((char_Name.f kj4 (a0 ++ (⟨#[0]⟩ : ByteArray))).bind fun t176 => (rubriclaw1_CharJoins.j1 kj4 a0 t176)))) else (none)) else (none)))) else (rubriclaw1_CharJoins.j1 kj4 a0 true))) else (none)) else ((char_NCName.f kj4 a0).bind fun t177 => (if t177 = true then ((char_NCName.f kj4 a1).bind fun t178 => (if t178 = true then (if a0.size + 1 ≤ 9223372036854775807 then (if (a0 ++ (⟨#[58]⟩ : ByteArray)).size + a1.size ≤ 9223372036854775807 then ((char_Name.f kj4 ((a0 ++ (⟨#[58]⟩ : ByteArray)) ++ a1)).bind fun t179 => (if t179 = true then (if (a0 ++ (⟨#[32]⟩ : ByteArray)).size + a1.size ≤ 9223372036854775807 then ((char_Name.f kj4 ((a0 ++ (⟨#[32]⟩ : ByteArray)) ++ a1)).bind fun t180 => (if t180 = true then (rubriclaw1_CharJoins.j1 kj4 a0 true) else ((char_Name.f kj4 (a0 ++ (⟨#[0]⟩ : ByteArray))).bind fun t181 => (rubriclaw1_CharJoins.j1 kj4 a0 t181)))) else (none)) else (rubriclaw1_CharJoins.j1 kj4 a0 true))) else (none)) else (none)) else (if a0.size + 1 ≤ 9223372036854775807 then (if (a0 ++ (⟨#[32]⟩ : ByteArray)).size + a1.size ≤ 9223372036854775807 then ((char_Name.f kj4 ((a0 ++ (⟨#[32]⟩ : ByteArray)) ++ a1)).bind fun t182 => (if t182 = true then (rubriclaw1_CharJoins.j1 kj4 a0 true) else ((char_Name.f kj4 (a0 ++ (⟨#[0]⟩ : ByteArray))).bind fun t183 => (rubriclaw1_CharJoins.j1 kj4 a0 t183)))) else (none)) else (none)))) else (if a0.size + 1 ≤ 9223372036854775807 then (if (a0 ++ (⟨#[32]⟩ : ByteArray)).size + a1.size ≤ 9223372036854775807 then ((char_Name.f kj4 ((a0 ++ (⟨#[32]⟩ : ByteArray)) ++ a1)).bind fun t184 => (if t184 = true then (rubriclaw1_CharJoins.j1 kj4 a0 true) else ((char_Name.f kj4 (a0 ++ (⟨#[0]⟩ : ByteArray))).bind fun t185 => (rubriclaw1_CharJoins.j1 kj4 a0 t185)))) else (none)) else (none)))))) = some r := by rw [if_pos rfl] at H; exact H
              clear H
              have H := H1
              clear H1
              replace H := Option.bind_eq_some_iff.mp H
              obtain ⟨t166, A120, H⟩ := H
              replace H : (if t166 = true then (if a0.size + a1.size ≤ 9223372036854775807 then ((char_Name.f kj4 (a0 ++ a1)).bind fun t167 => (if t167 = true then ((char_NCName.f kj4 a0).bind fun t168 => (if t168 = true then ((char_NCName.f kj4 a1).bind fun t169 => (if t169 = true then (if a0.size + 1 ≤ 9223372036854775807 then (if (a0 ++ (⟨#[58]⟩ : ByteArray)).size + a1.size ≤ 9223372036854775807 then ((char_Name.f kj4 ((a0 ++ (⟨#[58]⟩ : ByteArray)) ++ a1)).bind fun t170 => (if t170 = true then (if (a0 ++ (⟨#[32]⟩ : ByteArray)).size + a1.size ≤ 9223372036854775807 then ((char_Name.f kj4 ((a0 ++ (⟨#[32]⟩ : ByteArray)) ++ a1)).bind fun t171 => (if t171 = true then (rubriclaw1_CharJoins.j1 kj4 a0 true) else ((char_Name.f kj4 (a0 ++ (⟨#[0]⟩ : ByteArray))).bind fun t172 => (rubriclaw1_CharJoins.j1 kj4 a0 t172)))) else (none)) else (rubriclaw1_CharJoins.j1 kj4 a0 true))) else (none)) else (none)) else (if a0.size + 1 ≤ 9223372036854775807 then (if (a0 ++ (⟨#[32]⟩ : ByteArray)).size + a1.size ≤ 9223372036854775807 then ((char_Name.f kj4 ((a0 ++ (⟨#[32]⟩ : ByteArray)) ++ a1)).bind fun t173 => (if t173 = true then (rubriclaw1_CharJoins.j1 kj4 a0 true) else ((char_Name.f kj4 (a0 ++ (⟨#[0]⟩ : ByteArray))).bind fun t174 => (rubriclaw1_CharJoins.j1 kj4 a0 t174)))) else (none)) else (none)))) else (if a0.size + 1 ≤ 9223372036854775807 then (if (a0 ++ (⟨#[32]⟩ : ByteArray)).size + a1.size ≤ 9223372036854775807 then ((char_Name.f kj4 ((a0 ++ (⟨#[32]⟩ : ByteArray)) ++ a1)).bind fun t175 => (if t175 = true then (rubriclaw1_CharJoins.j1 kj4 a0 true) else ((char_Name.f kj4 (a0 ++ (⟨#[0]⟩ : ByteArray))).bind fun t176 => (rubriclaw1_CharJoins.j1 kj4 a0 t176)))) else (none)) else (none)))) else (rubriclaw1_CharJoins.j1 kj4 a0 true))) else (none)) else ((char_NCName.f kj4 a0).bind fun t177 => (if t177 = true then ((char_NCName.f kj4 a1).bind fun t178 => (if t178 = true then (if a0.size + 1 ≤ 9223372036854775807 then (if (a0 ++ (⟨#[58]⟩ : ByteArray)).size + a1.size ≤ 9223372036854775807 then ((char_Name.f kj4 ((a0 ++ (⟨#[58]⟩ : ByteArray)) ++ a1)).bind fun t179 => (if t179 = true then (if (a0 ++ (⟨#[32]⟩ : ByteArray)).size + a1.size ≤ 9223372036854775807 then ((char_Name.f kj4 ((a0 ++ (⟨#[32]⟩ : ByteArray)) ++ a1)).bind fun t180 => (if t180 = true then (rubriclaw1_CharJoins.j1 kj4 a0 true) else ((char_Name.f kj4 (a0 ++ (⟨#[0]⟩ : ByteArray))).bind fun t181 => (rubriclaw1_CharJoins.j1 kj4 a0 t181)))) else (none)) else (rubriclaw1_CharJoins.j1 kj4 a0 true))) else (none)) else (none)) else (if a0.size + 1 ≤ 9223372036854775807 then (if (a0 ++ (⟨#[32]⟩ : ByteArray)).size + a1.size ≤ 9223372036854775807 then ((char_Name.f kj4 ((a0 ++ (⟨#[32]⟩ : ByteArray)) ++ a1)).bind fun t182 => (if t182 = true then (rubriclaw1_CharJoins.j1 kj4 a0 true) else ((char_Name.f kj4 (a0 ++ (⟨#[0]⟩ : ByteArray))).bind fun t183 => (rubriclaw1_CharJoins.j1 kj4 a0 t183)))) else (none)) else (none)))) else (if a0.size + 1 ≤ 9223372036854775807 then (if (a0 ++ (⟨#[32]⟩ : ByteArray)).size + a1.size ≤ 9223372036854775807 then ((char_Name.f kj4 ((a0 ++ (⟨#[32]⟩ : ByteArray)) ++ a1)).bind fun t184 => (if t184 = true then (rubriclaw1_CharJoins.j1 kj4 a0 true) else ((char_Name.f kj4 (a0 ++ (⟨#[0]⟩ : ByteArray))).bind fun t185 => (rubriclaw1_CharJoins.j1 kj4 a0 t185)))) else (none)) else (none))))) = some r := H
              have A12 := Aside0.mk A120
              clear A120
              by_cases c13 : t166 = true
              · subst c13
                have H1 : (if a0.size + a1.size ≤ 9223372036854775807 then ((char_Name.f kj4 (a0 ++ a1)).bind fun t167 => (if t167 = true then ((char_NCName.f kj4 a0).bind fun t168 => (if t168 = true then ((char_NCName.f kj4 a1).bind fun t169 => (if t169 = true then (if a0.size + 1 ≤ 9223372036854775807 then (if (a0 ++ (⟨#[58]⟩ : ByteArray)).size + a1.size ≤ 9223372036854775807 then ((char_Name.f kj4 ((a0 ++ (⟨#[58]⟩ : ByteArray)) ++ a1)).bind fun t170 => (if t170 = true then (if (a0 ++ (⟨#[32]⟩ : ByteArray)).size + a1.size ≤ 9223372036854775807 then ((char_Name.f kj4 ((a0 ++ (⟨#[32]⟩ : ByteArray)) ++ a1)).bind fun t171 => (if t171 = true then (rubriclaw1_CharJoins.j1 kj4 a0 true) else ((char_Name.f kj4 (a0 ++ (⟨#[0]⟩ : ByteArray))).bind fun t172 => (rubriclaw1_CharJoins.j1 kj4 a0 t172)))) else (none)) else (rubriclaw1_CharJoins.j1 kj4 a0 true))) else (none)) else (none)) else (if a0.size + 1 ≤ 9223372036854775807 then (if (a0 ++ (⟨#[32]⟩ : ByteArray)).size + a1.size ≤ 9223372036854775807 then ((char_Name.f kj4 ((a0 ++ (⟨#[32]⟩ : ByteArray)) ++ a1)).bind fun t173 => (if t173 = true then (rubriclaw1_CharJoins.j1 kj4 a0 true) else ((char_Name.f kj4 (a0 ++ (⟨#[0]⟩ : ByteArray))).bind fun t174 => (rubriclaw1_CharJoins.j1 kj4 a0 t174)))) else (none)) else (none)))) else (if a0.size + 1 ≤ 9223372036854775807 then (if (a0 ++ (⟨#[32]⟩ : ByteArray)).size + a1.size ≤ 9223372036854775807 then ((char_Name.f kj4 ((a0 ++ (⟨#[32]⟩ : ByteArray)) ++ a1)).bind fun t175 => (if t175 = true then (rubriclaw1_CharJoins.j1 kj4 a0 true) else ((char_Name.f kj4 (a0 ++ (⟨#[0]⟩ : ByteArray))).bind fun t176 => (rubriclaw1_CharJoins.j1 kj4 a0 t176)))) else (none)) else (none)))) else (rubriclaw1_CharJoins.j1 kj4 a0 true))) else (none)) = some r := by rw [if_pos rfl] at H; exact H
                clear H
                have H := H1
                clear H1
                by_cases c14 : a0.size + a1.size ≤ 9223372036854775807
                · rw [if_pos c14] at H
                  have c14b0 := eq_true c14
                  have c14b1 : decide (a0.size + a1.size ≤ 9223372036854775807) = true := decide_eq_true c14
                  try have c14b2 : (9223372036854775807 < a0.size + a1.size) = False := eq_false (Nat.not_lt.2 c14)
                  replace H := Option.bind_eq_some_iff.mp H
                  obtain ⟨t167, A150, H⟩ := H
                  replace H : (if t167 = true then ((char_NCName.f kj4 a0).bind fun t168 => (if t168 = true then ((char_NCName.f kj4 a1).bind fun t169 => (if t169 = true then (if a0.size + 1 ≤ 9223372036854775807 then (if (a0 ++ (⟨#[58]⟩ : ByteArray)).size + a1.size ≤ 9223372036854775807 then ((char_Name.f kj4 ((a0 ++ (⟨#[58]⟩ : ByteArray)) ++ a1)).bind fun t170 => (if t170 = true then (if (a0 ++ (⟨#[32]⟩ : ByteArray)).size + a1.size ≤ 9223372036854775807 then ((char_Name.f kj4 ((a0 ++ (⟨#[32]⟩ : ByteArray)) ++ a1)).bind fun t171 => (if t171 = true then (rubriclaw1_CharJoins.j1 kj4 a0 true) else ((char_Name.f kj4 (a0 ++ (⟨#[0]⟩ : ByteArray))).bind fun t172 => (rubriclaw1_CharJoins.j1 kj4 a0 t172)))) else (none)) else (rubriclaw1_CharJoins.j1 kj4 a0 true))) else (none)) else (none)) else (if a0.size + 1 ≤ 9223372036854775807 then (if (a0 ++ (⟨#[32]⟩ : ByteArray)).size + a1.size ≤ 9223372036854775807 then ((char_Name.f kj4 ((a0 ++ (⟨#[32]⟩ : ByteArray)) ++ a1)).bind fun t173 => (if t173 = true then (rubriclaw1_CharJoins.j1 kj4 a0 true) else ((char_Name.f kj4 (a0 ++ (⟨#[0]⟩ : ByteArray))).bind fun t174 => (rubriclaw1_CharJoins.j1 kj4 a0 t174)))) else (none)) else (none)))) else (if a0.size + 1 ≤ 9223372036854775807 then (if (a0 ++ (⟨#[32]⟩ : ByteArray)).size + a1.size ≤ 9223372036854775807 then ((char_Name.f kj4 ((a0 ++ (⟨#[32]⟩ : ByteArray)) ++ a1)).bind fun t175 => (if t175 = true then (rubriclaw1_CharJoins.j1 kj4 a0 true) else ((char_Name.f kj4 (a0 ++ (⟨#[0]⟩ : ByteArray))).bind fun t176 => (rubriclaw1_CharJoins.j1 kj4 a0 t176)))) else (none)) else (none)))) else (rubriclaw1_CharJoins.j1 kj4 a0 true)) = some r := H
                  have A15 := Aside0.mk A150
                  clear A150
                  by_cases c16 : t167 = true
                  · subst c16
                    have H1 : ((char_NCName.f kj4 a0).bind fun t168 => (if t168 = true then ((char_NCName.f kj4 a1).bind fun t169 => (if t169 = true then (if a0.size + 1 ≤ 9223372036854775807 then (if (a0 ++ (⟨#[58]⟩ : ByteArray)).size + a1.size ≤ 9223372036854775807 then ((char_Name.f kj4 ((a0 ++ (⟨#[58]⟩ : ByteArray)) ++ a1)).bind fun t170 => (if t170 = true then (if (a0 ++ (⟨#[32]⟩ : ByteArray)).size + a1.size ≤ 9223372036854775807 then ((char_Name.f kj4 ((a0 ++ (⟨#[32]⟩ : ByteArray)) ++ a1)).bind fun t171 => (if t171 = true then (rubriclaw1_CharJoins.j1 kj4 a0 true) else ((char_Name.f kj4 (a0 ++ (⟨#[0]⟩ : ByteArray))).bind fun t172 => (rubriclaw1_CharJoins.j1 kj4 a0 t172)))) else (none)) else (rubriclaw1_CharJoins.j1 kj4 a0 true))) else (none)) else (none)) else (if a0.size + 1 ≤ 9223372036854775807 then (if (a0 ++ (⟨#[32]⟩ : ByteArray)).size + a1.size ≤ 9223372036854775807 then ((char_Name.f kj4 ((a0 ++ (⟨#[32]⟩ : ByteArray)) ++ a1)).bind fun t173 => (if t173 = true then (rubriclaw1_CharJoins.j1 kj4 a0 true) else ((char_Name.f kj4 (a0 ++ (⟨#[0]⟩ : ByteArray))).bind fun t174 => (rubriclaw1_CharJoins.j1 kj4 a0 t174)))) else (none)) else (none)))) else (if a0.size + 1 ≤ 9223372036854775807 then (if (a0 ++ (⟨#[32]⟩ : ByteArray)).size + a1.size ≤ 9223372036854775807 then ((char_Name.f kj4 ((a0 ++ (⟨#[32]⟩ : ByteArray)) ++ a1)).bind fun t175 => (if t175 = true then (rubriclaw1_CharJoins.j1 kj4 a0 true) else ((char_Name.f kj4 (a0 ++ (⟨#[0]⟩ : ByteArray))).bind fun t176 => (rubriclaw1_CharJoins.j1 kj4 a0 t176)))) else (none)) else (none)))) = some r := by rw [if_pos rfl] at H; exact H
                    clear H
                    have H := H1
                    clear H1
                    replace H := Option.bind_eq_some_iff.mp H
                    obtain ⟨t168, A170, H⟩ := H
                    replace H : (if t168 = true then ((char_NCName.f kj4 a1).bind fun t169 => (if t169 = true then (if a0.size + 1 ≤ 9223372036854775807 then (if (a0 ++ (⟨#[58]⟩ : ByteArray)).size + a1.size ≤ 9223372036854775807 then ((char_Name.f kj4 ((a0 ++ (⟨#[58]⟩ : ByteArray)) ++ a1)).bind fun t170 => (if t170 = true then (if (a0 ++ (⟨#[32]⟩ : ByteArray)).size + a1.size ≤ 9223372036854775807 then ((char_Name.f kj4 ((a0 ++ (⟨#[32]⟩ : ByteArray)) ++ a1)).bind fun t171 => (if t171 = true then (rubriclaw1_CharJoins.j1 kj4 a0 true) else ((char_Name.f kj4 (a0 ++ (⟨#[0]⟩ : ByteArray))).bind fun t172 => (rubriclaw1_CharJoins.j1 kj4 a0 t172)))) else (none)) else (rubriclaw1_CharJoins.j1 kj4 a0 true))) else (none)) else (none)) else (if a0.size + 1 ≤ 9223372036854775807 then (if (a0 ++ (⟨#[32]⟩ : ByteArray)).size + a1.size ≤ 9223372036854775807 then ((char_Name.f kj4 ((a0 ++ (⟨#[32]⟩ : ByteArray)) ++ a1)).bind fun t173 => (if t173 = true then (rubriclaw1_CharJoins.j1 kj4 a0 true) else ((char_Name.f kj4 (a0 ++ (⟨#[0]⟩ : ByteArray))).bind fun t174 => (rubriclaw1_CharJoins.j1 kj4 a0 t174)))) else (none)) else (none)))) else (if a0.size + 1 ≤ 9223372036854775807 then (if (a0 ++ (⟨#[32]⟩ : ByteArray)).size + a1.size ≤ 9223372036854775807 then ((char_Name.f kj4 ((a0 ++ (⟨#[32]⟩ : ByteArray)) ++ a1)).bind fun t175 => (if t175 = true then (rubriclaw1_CharJoins.j1 kj4 a0 true) else ((char_Name.f kj4 (a0 ++ (⟨#[0]⟩ : ByteArray))).bind fun t176 => (rubriclaw1_CharJoins.j1 kj4 a0 t176)))) else (none)) else (none))) = some r := H
                    have A17 := Aside0.mk A170
                    clear A170
                    by_cases c18 : t168 = true
                    · subst c18
                      have H1 : ((char_NCName.f kj4 a1).bind fun t169 => (if t169 = true then (if a0.size + 1 ≤ 9223372036854775807 then (if (a0 ++ (⟨#[58]⟩ : ByteArray)).size + a1.size ≤ 9223372036854775807 then ((char_Name.f kj4 ((a0 ++ (⟨#[58]⟩ : ByteArray)) ++ a1)).bind fun t170 => (if t170 = true then (if (a0 ++ (⟨#[32]⟩ : ByteArray)).size + a1.size ≤ 9223372036854775807 then ((char_Name.f kj4 ((a0 ++ (⟨#[32]⟩ : ByteArray)) ++ a1)).bind fun t171 => (if t171 = true then (rubriclaw1_CharJoins.j1 kj4 a0 true) else ((char_Name.f kj4 (a0 ++ (⟨#[0]⟩ : ByteArray))).bind fun t172 => (rubriclaw1_CharJoins.j1 kj4 a0 t172)))) else (none)) else (rubriclaw1_CharJoins.j1 kj4 a0 true))) else (none)) else (none)) else (if a0.size + 1 ≤ 9223372036854775807 then (if (a0 ++ (⟨#[32]⟩ : ByteArray)).size + a1.size ≤ 9223372036854775807 then ((char_Name.f kj4 ((a0 ++ (⟨#[32]⟩ : ByteArray)) ++ a1)).bind fun t173 => (if t173 = true then (rubriclaw1_CharJoins.j1 kj4 a0 true) else ((char_Name.f kj4 (a0 ++ (⟨#[0]⟩ : ByteArray))).bind fun t174 => (rubriclaw1_CharJoins.j1 kj4 a0 t174)))) else (none)) else (none)))) = some r := by rw [if_pos rfl] at H; exact H
                      clear H
                      have H := H1
                      clear H1
                      replace H := Option.bind_eq_some_iff.mp H
                      obtain ⟨t169, A190, H⟩ := H
                      replace H : (if t169 = true then (if a0.size + 1 ≤ 9223372036854775807 then (if (a0 ++ (⟨#[58]⟩ : ByteArray)).size + a1.size ≤ 9223372036854775807 then ((char_Name.f kj4 ((a0 ++ (⟨#[58]⟩ : ByteArray)) ++ a1)).bind fun t170 => (if t170 = true then (if (a0 ++ (⟨#[32]⟩ : ByteArray)).size + a1.size ≤ 9223372036854775807 then ((char_Name.f kj4 ((a0 ++ (⟨#[32]⟩ : ByteArray)) ++ a1)).bind fun t171 => (if t171 = true then (rubriclaw1_CharJoins.j1 kj4 a0 true) else ((char_Name.f kj4 (a0 ++ (⟨#[0]⟩ : ByteArray))).bind fun t172 => (rubriclaw1_CharJoins.j1 kj4 a0 t172)))) else (none)) else (rubriclaw1_CharJoins.j1 kj4 a0 true))) else (none)) else (none)) else (if a0.size + 1 ≤ 9223372036854775807 then (if (a0 ++ (⟨#[32]⟩ : ByteArray)).size + a1.size ≤ 9223372036854775807 then ((char_Name.f kj4 ((a0 ++ (⟨#[32]⟩ : ByteArray)) ++ a1)).bind fun t173 => (if t173 = true then (rubriclaw1_CharJoins.j1 kj4 a0 true) else ((char_Name.f kj4 (a0 ++ (⟨#[0]⟩ : ByteArray))).bind fun t174 => (rubriclaw1_CharJoins.j1 kj4 a0 t174)))) else (none)) else (none))) = some r := H
                      have A19 := Aside0.mk A190
                      clear A190
                      by_cases c20 : t169 = true
                      · subst c20
                        have H1 : (if a0.size + 1 ≤ 9223372036854775807 then (if (a0 ++ (⟨#[58]⟩ : ByteArray)).size + a1.size ≤ 9223372036854775807 then ((char_Name.f kj4 ((a0 ++ (⟨#[58]⟩ : ByteArray)) ++ a1)).bind fun t170 => (if t170 = true then (if (a0 ++ (⟨#[32]⟩ : ByteArray)).size + a1.size ≤ 9223372036854775807 then ((char_Name.f kj4 ((a0 ++ (⟨#[32]⟩ : ByteArray)) ++ a1)).bind fun t171 => (if t171 = true then (rubriclaw1_CharJoins.j1 kj4 a0 true) else ((char_Name.f kj4 (a0 ++ (⟨#[0]⟩ : ByteArray))).bind fun t172 => (rubriclaw1_CharJoins.j1 kj4 a0 t172)))) else (none)) else (rubriclaw1_CharJoins.j1 kj4 a0 true))) else (none)) else (none)) = some r := by rw [if_pos rfl] at H; exact H
                        clear H
                        have H := H1
                        clear H1
                        by_cases c21 : a0.size + 1 ≤ 9223372036854775807
                        · rw [if_pos c21] at H
                          have c21b0 := eq_true c21
                          have c21b1 : decide (a0.size + 1 ≤ 9223372036854775807) = true := decide_eq_true c21
                          try have c21b2 : (9223372036854775807 < a0.size + 1) = False := eq_false (Nat.not_lt.2 c21)
                          by_cases c22 : (a0 ++ (⟨#[58]⟩ : ByteArray)).size + a1.size ≤ 9223372036854775807
                          · rw [if_pos c22] at H
                            have c22b0 := eq_true c22
                            have c22b1 : decide ((a0 ++ (⟨#[58]⟩ : ByteArray)).size + a1.size ≤ 9223372036854775807) = true := decide_eq_true c22
                            try have c22b2 : (9223372036854775807 < (a0 ++ (⟨#[58]⟩ : ByteArray)).size + a1.size) = False := eq_false (Nat.not_lt.2 c22)
                            replace H := Option.bind_eq_some_iff.mp H
                            obtain ⟨t170, A230, H⟩ := H
                            replace H : (if t170 = true then (if (a0 ++ (⟨#[32]⟩ : ByteArray)).size + a1.size ≤ 9223372036854775807 then ((char_Name.f kj4 ((a0 ++ (⟨#[32]⟩ : ByteArray)) ++ a1)).bind fun t171 => (if t171 = true then (rubriclaw1_CharJoins.j1 kj4 a0 true) else ((char_Name.f kj4 (a0 ++ (⟨#[0]⟩ : ByteArray))).bind fun t172 => (rubriclaw1_CharJoins.j1 kj4 a0 t172)))) else (none)) else (rubriclaw1_CharJoins.j1 kj4 a0 true)) = some r := H
                            have A23 := Aside0.mk A230
                            clear A230
                            by_cases c24 : t170 = true
                            · subst c24
                              have H1 : (if (a0 ++ (⟨#[32]⟩ : ByteArray)).size + a1.size ≤ 9223372036854775807 then ((char_Name.f kj4 ((a0 ++ (⟨#[32]⟩ : ByteArray)) ++ a1)).bind fun t171 => (if t171 = true then (rubriclaw1_CharJoins.j1 kj4 a0 true) else ((char_Name.f kj4 (a0 ++ (⟨#[0]⟩ : ByteArray))).bind fun t172 => (rubriclaw1_CharJoins.j1 kj4 a0 t172)))) else (none)) = some r := by rw [if_pos rfl] at H; exact H
                              clear H
                              have H := H1
                              clear H1
                              by_cases c25 : (a0 ++ (⟨#[32]⟩ : ByteArray)).size + a1.size ≤ 9223372036854775807
                              · rw [if_pos c25] at H
                                have c25b0 := eq_true c25
                                have c25b1 : decide ((a0 ++ (⟨#[32]⟩ : ByteArray)).size + a1.size ≤ 9223372036854775807) = true := decide_eq_true c25
                                try have c25b2 : (9223372036854775807 < (a0 ++ (⟨#[32]⟩ : ByteArray)).size + a1.size) = False := eq_false (Nat.not_lt.2 c25)
                                replace H := Option.bind_eq_some_iff.mp H
                                obtain ⟨t171, A260, H⟩ := H
                                replace H : (if t171 = true then (rubriclaw1_CharJoins.j1 kj4 a0 true) else ((char_Name.f kj4 (a0 ++ (⟨#[0]⟩ : ByteArray))).bind fun t172 => (rubriclaw1_CharJoins.j1 kj4 a0 t172))) = some r := H
                                have A26 := Aside0.mk A260
                                clear A260
                                by_cases c27 : t171 = true
                                · subst c27
                                  have H1 : (rubriclaw1_CharJoins.j1 kj4 a0 true) = some r := by rw [if_pos rfl] at H; exact H
                                  clear H
                                  have H := H1
                                  clear H1
                                  have H' := Aside0.mk H
                                  clear H
                                  go_wp2_with (first | ((with_reducible refine gate_callee (f := 15) rfl ?_); refine goesL_ (some 19) rfl rfl Try.func15 (by kernel_rfl) rfl #[.string a0] rfl (by (try simp only [List.map_toArray, List.map_cons, List.map_nil]); first | done | rfl | (simp only [List.length_drop, List.length_take]; rfl)) ?_; (with_reducible refine (char_Name.calls kj4 a0 true _ A10.out).mono ?_); rintro e w28 ⟨rfl, hb⟩; refine ⟨_, rfl, ?_⟩; have n0_ := Aside0.mk (below_step (by repeat (first | (with_reducible first | exact HB.out | apply below_alloc | apply pw_below_drewN | apply below_drew1) | exact HB.out)) hb); clear HB; have HB := n0_; clear n0_; (try clear hb); (try clear hb2); (try clear hk); (try clear hi)) | (go_at_call 19; (with_reducible refine (char_Token.calls kj4 a1 true _ A12.out).mono ?_); rintro e w29 ⟨rfl, hb⟩; have n0_ := Aside0.mk (below_step (by repeat (first | (with_reducible first | exact HB.out | apply below_alloc | apply pw_below_drewN | apply below_drew1) | exact HB.out)) hb); clear HB; have HB := n0_; clear n0_; (try clear hb); (try clear hb2); (try clear hk); (try clear hi)) | (go_at_call 15; (with_reducible refine (char_Name.calls kj4 (a0 ++ a1) true _ A15.out).mono ?_); rintro e w30 ⟨rfl, hb⟩; have n0_ := Aside0.mk (below_step (by repeat (first | (with_reducible first | exact HB.out | apply below_alloc | apply pw_below_drewN | apply below_drew1) | exact HB.out)) hb); clear HB; have HB := n0_; clear n0_; (try clear hb); (try clear hb2); (try clear hk); (try clear hi)) | (go_at_call 17; (with_reducible refine (char_NCName.calls kj4 a0 true _ A17.out).mono ?_); rintro e w31 ⟨rfl, hb⟩; have n0_ := Aside0.mk (below_step (by repeat (first | (with_reducible first | exact HB.out | apply below_alloc | apply pw_below_drewN | apply below_drew1) | exact HB.out)) hb); clear HB; have HB := n0_; clear n0_; (try clear hb); (try clear hb2); (try clear hk); (try clear hi)) | (go_at_call 17; (with_reducible refine (char_NCName.calls kj4 a1 true _ A19.out).mono ?_); rintro e w32 ⟨rfl, hb⟩; have n0_ := Aside0.mk (below_step (by repeat (first | (with_reducible first | exact HB.out | apply below_alloc | apply pw_below_drewN | apply below_drew1) | exact HB.out)) hb); clear HB; have HB := n0_; clear n0_; (try clear hb); (try clear hb2); (try clear hk); (try clear hi)) | (go_at_call 15; (with_reducible refine (char_Name.calls kj4 ((a0 ++ (⟨#[58]⟩ : ByteArray)) ++ a1) true _ A23.out).mono ?_); rintro e w33 ⟨rfl, hb⟩; have n0_ := Aside0.mk (below_step (by repeat (first | (with_reducible first | exact HB.out | apply below_alloc | apply pw_below_drewN | apply below_drew1) | exact HB.out)) hb); clear HB; have HB := n0_; clear n0_; (try clear hb); (try clear hb2); (try clear hk); (try clear hi)) | (go_at_call 15; (with_reducible refine (char_Name.calls kj4 ((a0 ++ (⟨#[32]⟩ : ByteArray)) ++ a1) true _ A26.out).mono ?_); rintro e w34 ⟨rfl, hb⟩; have n0_ := Aside0.mk (below_step (by repeat (first | (with_reducible first | exact HB.out | apply below_alloc | apply pw_below_drewN | apply below_drew1) | exact HB.out)) hb); clear HB; have HB := n0_; clear n0_; (try clear hb); (try clear hb2); (try clear hk); (try clear hi)))
                                  go_meet
                                  case rel => exact ⟨_, (true), (by first | rfl | (simp; done) | (simp [*]; done)), H', ⟨by have := HJ4.out; first | omega | exact Nat.le_refl _⟩, ⟨by repeat (first | (with_reducible first | exact HB.out | apply below_alloc | apply pw_below_drewN | apply below_drew1) | exact HB.out)⟩⟩
                                · replace c27 := Bool.eq_false_iff.mpr c27
                                  subst c27
                                  have H1 : ((char_Name.f kj4 (a0 ++ (⟨#[0]⟩ : ByteArray))).bind fun t172 => (rubriclaw1_CharJoins.j1 kj4 a0 t172)) = some r := by rw [if_neg (show ¬ (false = true) by decide)] at H; exact H
                                  clear H
                                  have H := H1
                                  clear H1
                                  replace H := Option.bind_eq_some_iff.mp H
                                  obtain ⟨t172, A350, H⟩ := H
                                  replace H : (rubriclaw1_CharJoins.j1 kj4 a0 t172) = some r := H
                                  have A35 := Aside0.mk A350
                                  clear A350
                                  have H' := Aside0.mk H
                                  clear H
                                  go_wp2_with (first | ((with_reducible refine gate_callee (f := 15) rfl ?_); refine goesL_ (some 19) rfl rfl Try.func15 (by kernel_rfl) rfl #[.string a0] rfl (by (try simp only [List.map_toArray, List.map_cons, List.map_nil]); first | done | rfl | (simp only [List.length_drop, List.length_take]; rfl)) ?_; (with_reducible refine (char_Name.calls kj4 a0 true _ A10.out).mono ?_); rintro e w36 ⟨rfl, hb⟩; refine ⟨_, rfl, ?_⟩; have n0_ := Aside0.mk (below_step (by repeat (first | (with_reducible first | exact HB.out | apply below_alloc | apply pw_below_drewN | apply below_drew1) | exact HB.out)) hb); clear HB; have HB := n0_; clear n0_; (try clear hb); (try clear hb2); (try clear hk); (try clear hi)) | (go_at_call 19; (with_reducible refine (char_Token.calls kj4 a1 true _ A12.out).mono ?_); rintro e w37 ⟨rfl, hb⟩; have n0_ := Aside0.mk (below_step (by repeat (first | (with_reducible first | exact HB.out | apply below_alloc | apply pw_below_drewN | apply below_drew1) | exact HB.out)) hb); clear HB; have HB := n0_; clear n0_; (try clear hb); (try clear hb2); (try clear hk); (try clear hi)) | (go_at_call 15; (with_reducible refine (char_Name.calls kj4 (a0 ++ a1) true _ A15.out).mono ?_); rintro e w38 ⟨rfl, hb⟩; have n0_ := Aside0.mk (below_step (by repeat (first | (with_reducible first | exact HB.out | apply below_alloc | apply pw_below_drewN | apply below_drew1) | exact HB.out)) hb); clear HB; have HB := n0_; clear n0_; (try clear hb); (try clear hb2); (try clear hk); (try clear hi)) | (go_at_call 17; (with_reducible refine (char_NCName.calls kj4 a0 true _ A17.out).mono ?_); rintro e w39 ⟨rfl, hb⟩; have n0_ := Aside0.mk (below_step (by repeat (first | (with_reducible first | exact HB.out | apply below_alloc | apply pw_below_drewN | apply below_drew1) | exact HB.out)) hb); clear HB; have HB := n0_; clear n0_; (try clear hb); (try clear hb2); (try clear hk); (try clear hi)) | (go_at_call 17; (with_reducible refine (char_NCName.calls kj4 a1 true _ A19.out).mono ?_); rintro e w40 ⟨rfl, hb⟩; have n0_ := Aside0.mk (below_step (by repeat (first | (with_reducible first | exact HB.out | apply below_alloc | apply pw_below_drewN | apply below_drew1) | exact HB.out)) hb); clear HB; have HB := n0_; clear n0_; (try clear hb); (try clear hb2); (try clear hk); (try clear hi)) | (go_at_call 15; (with_reducible refine (char_Name.calls kj4 ((a0 ++ (⟨#[58]⟩ : ByteArray)) ++ a1) true _ A23.out).mono ?_); rintro e w41 ⟨rfl, hb⟩; have n0_ := Aside0.mk (below_step (by repeat (first | (with_reducible first | exact HB.out | apply below_alloc | apply pw_below_drewN | apply below_drew1) | exact HB.out)) hb); clear HB; have HB := n0_; clear n0_; (try clear hb); (try clear hb2); (try clear hk); (try clear hi)) | (go_at_call 15; (with_reducible refine (char_Name.calls kj4 ((a0 ++ (⟨#[32]⟩ : ByteArray)) ++ a1) false _ A26.out).mono ?_); rintro e w42 ⟨rfl, hb⟩; have n0_ := Aside0.mk (below_step (by repeat (first | (with_reducible first | exact HB.out | apply below_alloc | apply pw_below_drewN | apply below_drew1) | exact HB.out)) hb); clear HB; have HB := n0_; clear n0_; (try clear hb); (try clear hb2); (try clear hk); (try clear hi)) | (go_at_call 15; (with_reducible refine (char_Name.calls kj4 (a0 ++ (⟨#[0]⟩ : ByteArray)) t172 _ A35.out).mono ?_); rintro e w43 ⟨rfl, hb⟩; have n0_ := Aside0.mk (below_step (by repeat (first | (with_reducible first | exact HB.out | apply below_alloc | apply pw_below_drewN | apply below_drew1) | exact HB.out)) hb); clear HB; have HB := n0_; clear n0_; (try clear hb); (try clear hb2); (try clear hk); (try clear hi)))
                                  go_meet
                                  case rel => exact ⟨_, (t172), (by first | rfl | (simp; done) | (simp [*]; done)), H', ⟨by have := HJ4.out; first | omega | exact Nat.le_refl _⟩, ⟨by repeat (first | (with_reducible first | exact HB.out | apply below_alloc | apply pw_below_drewN | apply below_drew1) | exact HB.out)⟩⟩
                              · rw [if_neg c25] at H
                                exact absurd H (by simp)
                            · replace c24 := Bool.eq_false_iff.mpr c24
                              subst c24
                              have H1 : (rubriclaw1_CharJoins.j1 kj4 a0 true) = some r := by rw [if_neg (show ¬ (false = true) by decide)] at H; exact H
                              clear H
                              have H := H1
                              clear H1
                              have H' := Aside0.mk H
                              clear H
                              go_wp2_with (first | ((with_reducible refine gate_callee (f := 15) rfl ?_); refine goesL_ (some 19) rfl rfl Try.func15 (by kernel_rfl) rfl #[.string a0] rfl (by (try simp only [List.map_toArray, List.map_cons, List.map_nil]); first | done | rfl | (simp only [List.length_drop, List.length_take]; rfl)) ?_; (with_reducible refine (char_Name.calls kj4 a0 true _ A10.out).mono ?_); rintro e w44 ⟨rfl, hb⟩; refine ⟨_, rfl, ?_⟩; have n0_ := Aside0.mk (below_step (by repeat (first | (with_reducible first | exact HB.out | apply below_alloc | apply pw_below_drewN | apply below_drew1) | exact HB.out)) hb); clear HB; have HB := n0_; clear n0_; (try clear hb); (try clear hb2); (try clear hk); (try clear hi)) | (go_at_call 19; (with_reducible refine (char_Token.calls kj4 a1 true _ A12.out).mono ?_); rintro e w45 ⟨rfl, hb⟩; have n0_ := Aside0.mk (below_step (by repeat (first | (with_reducible first | exact HB.out | apply below_alloc | apply pw_below_drewN | apply below_drew1) | exact HB.out)) hb); clear HB; have HB := n0_; clear n0_; (try clear hb); (try clear hb2); (try clear hk); (try clear hi)) | (go_at_call 15; (with_reducible refine (char_Name.calls kj4 (a0 ++ a1) true _ A15.out).mono ?_); rintro e w46 ⟨rfl, hb⟩; have n0_ := Aside0.mk (below_step (by repeat (first | (with_reducible first | exact HB.out | apply below_alloc | apply pw_below_drewN | apply below_drew1) | exact HB.out)) hb); clear HB; have HB := n0_; clear n0_; (try clear hb); (try clear hb2); (try clear hk); (try clear hi)) | (go_at_call 17; (with_reducible refine (char_NCName.calls kj4 a0 true _ A17.out).mono ?_); rintro e w47 ⟨rfl, hb⟩; have n0_ := Aside0.mk (below_step (by repeat (first | (with_reducible first | exact HB.out | apply below_alloc | apply pw_below_drewN | apply below_drew1) | exact HB.out)) hb); clear HB; have HB := n0_; clear n0_; (try clear hb); (try clear hb2); (try clear hk); (try clear hi)) | (go_at_call 17; (with_reducible refine (char_NCName.calls kj4 a1 true _ A19.out).mono ?_); rintro e w48 ⟨rfl, hb⟩; have n0_ := Aside0.mk (below_step (by repeat (first | (with_reducible first | exact HB.out | apply below_alloc | apply pw_below_drewN | apply below_drew1) | exact HB.out)) hb); clear HB; have HB := n0_; clear n0_; (try clear hb); (try clear hb2); (try clear hk); (try clear hi)) | (go_at_call 15; (with_reducible refine (char_Name.calls kj4 ((a0 ++ (⟨#[58]⟩ : ByteArray)) ++ a1) false _ A23.out).mono ?_); rintro e w49 ⟨rfl, hb⟩; have n0_ := Aside0.mk (below_step (by repeat (first | (with_reducible first | exact HB.out | apply below_alloc | apply pw_below_drewN | apply below_drew1) | exact HB.out)) hb); clear HB; have HB := n0_; clear n0_; (try clear hb); (try clear hb2); (try clear hk); (try clear hi)))
                              go_meet
                              case rel => exact ⟨_, (true), (by first | rfl | (simp; done) | (simp [*]; done)), H', ⟨by have := HJ4.out; first | omega | exact Nat.le_refl _⟩, ⟨by repeat (first | (with_reducible first | exact HB.out | apply below_alloc | apply pw_below_drewN | apply below_drew1) | exact HB.out)⟩⟩
                          · rw [if_neg c22] at H
                            exact absurd H (by simp)
                        · rw [if_neg c21] at H
                          exact absurd H (by simp)
                      · replace c20 := Bool.eq_false_iff.mpr c20
                        subst c20
                        have H1 : (if a0.size + 1 ≤ 9223372036854775807 then (if (a0 ++ (⟨#[32]⟩ : ByteArray)).size + a1.size ≤ 9223372036854775807 then ((char_Name.f kj4 ((a0 ++ (⟨#[32]⟩ : ByteArray)) ++ a1)).bind fun t173 => (if t173 = true then (rubriclaw1_CharJoins.j1 kj4 a0 true) else ((char_Name.f kj4 (a0 ++ (⟨#[0]⟩ : ByteArray))).bind fun t174 => (rubriclaw1_CharJoins.j1 kj4 a0 t174)))) else (none)) else (none)) = some r := by rw [if_neg (show ¬ (false = true) by decide)] at H; exact H
                        clear H
                        have H := H1
                        clear H1
                        by_cases c50 : a0.size + 1 ≤ 9223372036854775807
                        · rw [if_pos c50] at H
                          have c50b0 := eq_true c50
                          have c50b1 : decide (a0.size + 1 ≤ 9223372036854775807) = true := decide_eq_true c50
                          try have c50b2 : (9223372036854775807 < a0.size + 1) = False := eq_false (Nat.not_lt.2 c50)
                          by_cases c51 : (a0 ++ (⟨#[32]⟩ : ByteArray)).size + a1.size ≤ 9223372036854775807
                          · rw [if_pos c51] at H
                            have c51b0 := eq_true c51
                            have c51b1 : decide ((a0 ++ (⟨#[32]⟩ : ByteArray)).size + a1.size ≤ 9223372036854775807) = true := decide_eq_true c51
                            try have c51b2 : (9223372036854775807 < (a0 ++ (⟨#[32]⟩ : ByteArray)).size + a1.size) = False := eq_false (Nat.not_lt.2 c51)
                            replace H := Option.bind_eq_some_iff.mp H
                            obtain ⟨t173, A520, H⟩ := H
                            replace H : (if t173 = true then (rubriclaw1_CharJoins.j1 kj4 a0 true) else ((char_Name.f kj4 (a0 ++ (⟨#[0]⟩ : ByteArray))).bind fun t174 => (rubriclaw1_CharJoins.j1 kj4 a0 t174))) = some r := H
                            have A52 := Aside0.mk A520
                            clear A520
                            by_cases c53 : t173 = true
                            · subst c53
                              have H1 : (rubriclaw1_CharJoins.j1 kj4 a0 true) = some r := by rw [if_pos rfl] at H; exact H
                              clear H
                              have H := H1
                              clear H1
                              have H' := Aside0.mk H
                              clear H
                              go_wp2_with (first | ((with_reducible refine gate_callee (f := 15) rfl ?_); refine goesL_ (some 19) rfl rfl Try.func15 (by kernel_rfl) rfl #[.string a0] rfl (by (try simp only [List.map_toArray, List.map_cons, List.map_nil]); first | done | rfl | (simp only [List.length_drop, List.length_take]; rfl)) ?_; (with_reducible refine (char_Name.calls kj4 a0 true _ A10.out).mono ?_); rintro e w54 ⟨rfl, hb⟩; refine ⟨_, rfl, ?_⟩; have n0_ := Aside0.mk (below_step (by repeat (first | (with_reducible first | exact HB.out | apply below_alloc | apply pw_below_drewN | apply below_drew1) | exact HB.out)) hb); clear HB; have HB := n0_; clear n0_; (try clear hb); (try clear hb2); (try clear hk); (try clear hi)) | (go_at_call 19; (with_reducible refine (char_Token.calls kj4 a1 true _ A12.out).mono ?_); rintro e w55 ⟨rfl, hb⟩; have n0_ := Aside0.mk (below_step (by repeat (first | (with_reducible first | exact HB.out | apply below_alloc | apply pw_below_drewN | apply below_drew1) | exact HB.out)) hb); clear HB; have HB := n0_; clear n0_; (try clear hb); (try clear hb2); (try clear hk); (try clear hi)) | (go_at_call 15; (with_reducible refine (char_Name.calls kj4 (a0 ++ a1) true _ A15.out).mono ?_); rintro e w56 ⟨rfl, hb⟩; have n0_ := Aside0.mk (below_step (by repeat (first | (with_reducible first | exact HB.out | apply below_alloc | apply pw_below_drewN | apply below_drew1) | exact HB.out)) hb); clear HB; have HB := n0_; clear n0_; (try clear hb); (try clear hb2); (try clear hk); (try clear hi)) | (go_at_call 17; (with_reducible refine (char_NCName.calls kj4 a0 true _ A17.out).mono ?_); rintro e w57 ⟨rfl, hb⟩; have n0_ := Aside0.mk (below_step (by repeat (first | (with_reducible first | exact HB.out | apply below_alloc | apply pw_below_drewN | apply below_drew1) | exact HB.out)) hb); clear HB; have HB := n0_; clear n0_; (try clear hb); (try clear hb2); (try clear hk); (try clear hi)) | (go_at_call 17; (with_reducible refine (char_NCName.calls kj4 a1 false _ A19.out).mono ?_); rintro e w58 ⟨rfl, hb⟩; have n0_ := Aside0.mk (below_step (by repeat (first | (with_reducible first | exact HB.out | apply below_alloc | apply pw_below_drewN | apply below_drew1) | exact HB.out)) hb); clear HB; have HB := n0_; clear n0_; (try clear hb); (try clear hb2); (try clear hk); (try clear hi)) | (go_at_call 15; (with_reducible refine (char_Name.calls kj4 ((a0 ++ (⟨#[32]⟩ : ByteArray)) ++ a1) true _ A52.out).mono ?_); rintro e w59 ⟨rfl, hb⟩; have n0_ := Aside0.mk (below_step (by repeat (first | (with_reducible first | exact HB.out | apply below_alloc | apply pw_below_drewN | apply below_drew1) | exact HB.out)) hb); clear HB; have HB := n0_; clear n0_; (try clear hb); (try clear hb2); (try clear hk); (try clear hi)))
                              go_meet
                              case rel => exact ⟨_, (true), (by first | rfl | (simp; done) | (simp [*]; done)), H', ⟨by have := HJ4.out; first | omega | exact Nat.le_refl _⟩, ⟨by repeat (first | (with_reducible first | exact HB.out | apply below_alloc | apply pw_below_drewN | apply below_drew1) | exact HB.out)⟩⟩
                            · replace c53 := Bool.eq_false_iff.mpr c53
                              subst c53
                              have H1 : ((char_Name.f kj4 (a0 ++ (⟨#[0]⟩ : ByteArray))).bind fun t174 => (rubriclaw1_CharJoins.j1 kj4 a0 t174)) = some r := by rw [if_neg (show ¬ (false = true) by decide)] at H; exact H
                              clear H
                              have H := H1
                              clear H1
                              replace H := Option.bind_eq_some_iff.mp H
                              obtain ⟨t174, A600, H⟩ := H
                              replace H : (rubriclaw1_CharJoins.j1 kj4 a0 t174) = some r := H
                              have A60 := Aside0.mk A600
                              clear A600
                              have H' := Aside0.mk H
                              clear H
                              go_wp2_with (first | ((with_reducible refine gate_callee (f := 15) rfl ?_); refine goesL_ (some 19) rfl rfl Try.func15 (by kernel_rfl) rfl #[.string a0] rfl (by (try simp only [List.map_toArray, List.map_cons, List.map_nil]); first | done | rfl | (simp only [List.length_drop, List.length_take]; rfl)) ?_; (with_reducible refine (char_Name.calls kj4 a0 true _ A10.out).mono ?_); rintro e w61 ⟨rfl, hb⟩; refine ⟨_, rfl, ?_⟩; have n0_ := Aside0.mk (below_step (by repeat (first | (with_reducible first | exact HB.out | apply below_alloc | apply pw_below_drewN | apply below_drew1) | exact HB.out)) hb); clear HB; have HB := n0_; clear n0_; (try clear hb); (try clear hb2); (try clear hk); (try clear hi)) | (go_at_call 19; (with_reducible refine (char_Token.calls kj4 a1 true _ A12.out).mono ?_); rintro e w62 ⟨rfl, hb⟩; have n0_ := Aside0.mk (below_step (by repeat (first | (with_reducible first | exact HB.out | apply below_alloc | apply pw_below_drewN | apply below_drew1) | exact HB.out)) hb); clear HB; have HB := n0_; clear n0_; (try clear hb); (try clear hb2); (try clear hk); (try clear hi)) | (go_at_call 15; (with_reducible refine (char_Name.calls kj4 (a0 ++ a1) true _ A15.out).mono ?_); rintro e w63 ⟨rfl, hb⟩; have n0_ := Aside0.mk (below_step (by repeat (first | (with_reducible first | exact HB.out | apply below_alloc | apply pw_below_drewN | apply below_drew1) | exact HB.out)) hb); clear HB; have HB := n0_; clear n0_; (try clear hb); (try clear hb2); (try clear hk); (try clear hi)) | (go_at_call 17; (with_reducible refine (char_NCName.calls kj4 a0 true _ A17.out).mono ?_); rintro e w64 ⟨rfl, hb⟩; have n0_ := Aside0.mk (below_step (by repeat (first | (with_reducible first | exact HB.out | apply below_alloc | apply pw_below_drewN | apply below_drew1) | exact HB.out)) hb); clear HB; have HB := n0_; clear n0_; (try clear hb); (try clear hb2); (try clear hk); (try clear hi)) | (go_at_call 17; (with_reducible refine (char_NCName.calls kj4 a1 false _ A19.out).mono ?_); rintro e w65 ⟨rfl, hb⟩; have n0_ := Aside0.mk (below_step (by repeat (first | (with_reducible first | exact HB.out | apply below_alloc | apply pw_below_drewN | apply below_drew1) | exact HB.out)) hb); clear HB; have HB := n0_; clear n0_; (try clear hb); (try clear hb2); (try clear hk); (try clear hi)) | (go_at_call 15; (with_reducible refine (char_Name.calls kj4 ((a0 ++ (⟨#[32]⟩ : ByteArray)) ++ a1) false _ A52.out).mono ?_); rintro e w66 ⟨rfl, hb⟩; have n0_ := Aside0.mk (below_step (by repeat (first | (with_reducible first | exact HB.out | apply below_alloc | apply pw_below_drewN | apply below_drew1) | exact HB.out)) hb); clear HB; have HB := n0_; clear n0_; (try clear hb); (try clear hb2); (try clear hk); (try clear hi)) | (go_at_call 15; (with_reducible refine (char_Name.calls kj4 (a0 ++ (⟨#[0]⟩ : ByteArray)) t174 _ A60.out).mono ?_); rintro e w67 ⟨rfl, hb⟩; have n0_ := Aside0.mk (below_step (by repeat (first | (with_reducible first | exact HB.out | apply below_alloc | apply pw_below_drewN | apply below_drew1) | exact HB.out)) hb); clear HB; have HB := n0_; clear n0_; (try clear hb); (try clear hb2); (try clear hk); (try clear hi)))
                              go_meet
                              case rel => exact ⟨_, (t174), (by first | rfl | (simp; done) | (simp [*]; done)), H', ⟨by have := HJ4.out; first | omega | exact Nat.le_refl _⟩, ⟨by repeat (first | (with_reducible first | exact HB.out | apply below_alloc | apply pw_below_drewN | apply below_drew1) | exact HB.out)⟩⟩
                          · rw [if_neg c51] at H
                            exact absurd H (by simp)
                        · rw [if_neg c50] at H
                          exact absurd H (by simp)
                    · replace c18 := Bool.eq_false_iff.mpr c18
                      subst c18
                      have H1 : (if a0.size + 1 ≤ 9223372036854775807 then (if (a0 ++ (⟨#[32]⟩ : ByteArray)).size + a1.size ≤ 9223372036854775807 then ((char_Name.f kj4 ((a0 ++ (⟨#[32]⟩ : ByteArray)) ++ a1)).bind fun t175 => (if t175 = true then (rubriclaw1_CharJoins.j1 kj4 a0 true) else ((char_Name.f kj4 (a0 ++ (⟨#[0]⟩ : ByteArray))).bind fun t176 => (rubriclaw1_CharJoins.j1 kj4 a0 t176)))) else (none)) else (none)) = some r := by rw [if_neg (show ¬ (false = true) by decide)] at H; exact H
                      clear H
                      have H := H1
                      clear H1
                      by_cases c68 : a0.size + 1 ≤ 9223372036854775807
                      · rw [if_pos c68] at H
                        have c68b0 := eq_true c68
                        have c68b1 : decide (a0.size + 1 ≤ 9223372036854775807) = true := decide_eq_true c68
                        try have c68b2 : (9223372036854775807 < a0.size + 1) = False := eq_false (Nat.not_lt.2 c68)
                        by_cases c69 : (a0 ++ (⟨#[32]⟩ : ByteArray)).size + a1.size ≤ 9223372036854775807
                        · rw [if_pos c69] at H
                          have c69b0 := eq_true c69
                          have c69b1 : decide ((a0 ++ (⟨#[32]⟩ : ByteArray)).size + a1.size ≤ 9223372036854775807) = true := decide_eq_true c69
                          try have c69b2 : (9223372036854775807 < (a0 ++ (⟨#[32]⟩ : ByteArray)).size + a1.size) = False := eq_false (Nat.not_lt.2 c69)
                          replace H := Option.bind_eq_some_iff.mp H
                          obtain ⟨t175, A700, H⟩ := H
                          replace H : (if t175 = true then (rubriclaw1_CharJoins.j1 kj4 a0 true) else ((char_Name.f kj4 (a0 ++ (⟨#[0]⟩ : ByteArray))).bind fun t176 => (rubriclaw1_CharJoins.j1 kj4 a0 t176))) = some r := H
                          have A70 := Aside0.mk A700
                          clear A700
                          by_cases c71 : t175 = true
                          · subst c71
                            have H1 : (rubriclaw1_CharJoins.j1 kj4 a0 true) = some r := by rw [if_pos rfl] at H; exact H
                            clear H
                            have H := H1
                            clear H1
                            have H' := Aside0.mk H
                            clear H
                            go_wp2_with (first | ((with_reducible refine gate_callee (f := 15) rfl ?_); refine goesL_ (some 19) rfl rfl Try.func15 (by kernel_rfl) rfl #[.string a0] rfl (by (try simp only [List.map_toArray, List.map_cons, List.map_nil]); first | done | rfl | (simp only [List.length_drop, List.length_take]; rfl)) ?_; (with_reducible refine (char_Name.calls kj4 a0 true _ A10.out).mono ?_); rintro e w72 ⟨rfl, hb⟩; refine ⟨_, rfl, ?_⟩; have n0_ := Aside0.mk (below_step (by repeat (first | (with_reducible first | exact HB.out | apply below_alloc | apply pw_below_drewN | apply below_drew1) | exact HB.out)) hb); clear HB; have HB := n0_; clear n0_; (try clear hb); (try clear hb2); (try clear hk); (try clear hi)) | (go_at_call 19; (with_reducible refine (char_Token.calls kj4 a1 true _ A12.out).mono ?_); rintro e w73 ⟨rfl, hb⟩; have n0_ := Aside0.mk (below_step (by repeat (first | (with_reducible first | exact HB.out | apply below_alloc | apply pw_below_drewN | apply below_drew1) | exact HB.out)) hb); clear HB; have HB := n0_; clear n0_; (try clear hb); (try clear hb2); (try clear hk); (try clear hi)) | (go_at_call 15; (with_reducible refine (char_Name.calls kj4 (a0 ++ a1) true _ A15.out).mono ?_); rintro e w74 ⟨rfl, hb⟩; have n0_ := Aside0.mk (below_step (by repeat (first | (with_reducible first | exact HB.out | apply below_alloc | apply pw_below_drewN | apply below_drew1) | exact HB.out)) hb); clear HB; have HB := n0_; clear n0_; (try clear hb); (try clear hb2); (try clear hk); (try clear hi)) | (go_at_call 17; (with_reducible refine (char_NCName.calls kj4 a0 false _ A17.out).mono ?_); rintro e w75 ⟨rfl, hb⟩; have n0_ := Aside0.mk (below_step (by repeat (first | (with_reducible first | exact HB.out | apply below_alloc | apply pw_below_drewN | apply below_drew1) | exact HB.out)) hb); clear HB; have HB := n0_; clear n0_; (try clear hb); (try clear hb2); (try clear hk); (try clear hi)) | (go_at_call 15; (with_reducible refine (char_Name.calls kj4 ((a0 ++ (⟨#[32]⟩ : ByteArray)) ++ a1) true _ A70.out).mono ?_); rintro e w76 ⟨rfl, hb⟩; have n0_ := Aside0.mk (below_step (by repeat (first | (with_reducible first | exact HB.out | apply below_alloc | apply pw_below_drewN | apply below_drew1) | exact HB.out)) hb); clear HB; have HB := n0_; clear n0_; (try clear hb); (try clear hb2); (try clear hk); (try clear hi)))
                            go_meet
                            case rel => exact ⟨_, (true), (by first | rfl | (simp; done) | (simp [*]; done)), H', ⟨by have := HJ4.out; first | omega | exact Nat.le_refl _⟩, ⟨by repeat (first | (with_reducible first | exact HB.out | apply below_alloc | apply pw_below_drewN | apply below_drew1) | exact HB.out)⟩⟩
                          · replace c71 := Bool.eq_false_iff.mpr c71
                            subst c71
                            have H1 : ((char_Name.f kj4 (a0 ++ (⟨#[0]⟩ : ByteArray))).bind fun t176 => (rubriclaw1_CharJoins.j1 kj4 a0 t176)) = some r := by rw [if_neg (show ¬ (false = true) by decide)] at H; exact H
                            clear H
                            have H := H1
                            clear H1
                            replace H := Option.bind_eq_some_iff.mp H
                            obtain ⟨t176, A770, H⟩ := H
                            replace H : (rubriclaw1_CharJoins.j1 kj4 a0 t176) = some r := H
                            have A77 := Aside0.mk A770
                            clear A770
                            have H' := Aside0.mk H
                            clear H
                            go_wp2_with (first | ((with_reducible refine gate_callee (f := 15) rfl ?_); refine goesL_ (some 19) rfl rfl Try.func15 (by kernel_rfl) rfl #[.string a0] rfl (by (try simp only [List.map_toArray, List.map_cons, List.map_nil]); first | done | rfl | (simp only [List.length_drop, List.length_take]; rfl)) ?_; (with_reducible refine (char_Name.calls kj4 a0 true _ A10.out).mono ?_); rintro e w78 ⟨rfl, hb⟩; refine ⟨_, rfl, ?_⟩; have n0_ := Aside0.mk (below_step (by repeat (first | (with_reducible first | exact HB.out | apply below_alloc | apply pw_below_drewN | apply below_drew1) | exact HB.out)) hb); clear HB; have HB := n0_; clear n0_; (try clear hb); (try clear hb2); (try clear hk); (try clear hi)) | (go_at_call 19; (with_reducible refine (char_Token.calls kj4 a1 true _ A12.out).mono ?_); rintro e w79 ⟨rfl, hb⟩; have n0_ := Aside0.mk (below_step (by repeat (first | (with_reducible first | exact HB.out | apply below_alloc | apply pw_below_drewN | apply below_drew1) | exact HB.out)) hb); clear HB; have HB := n0_; clear n0_; (try clear hb); (try clear hb2); (try clear hk); (try clear hi)) | (go_at_call 15; (with_reducible refine (char_Name.calls kj4 (a0 ++ a1) true _ A15.out).mono ?_); rintro e w80 ⟨rfl, hb⟩; have n0_ := Aside0.mk (below_step (by repeat (first | (with_reducible first | exact HB.out | apply below_alloc | apply pw_below_drewN | apply below_drew1) | exact HB.out)) hb); clear HB; have HB := n0_; clear n0_; (try clear hb); (try clear hb2); (try clear hk); (try clear hi)) | (go_at_call 17; (with_reducible refine (char_NCName.calls kj4 a0 false _ A17.out).mono ?_); rintro e w81 ⟨rfl, hb⟩; have n0_ := Aside0.mk (below_step (by repeat (first | (with_reducible first | exact HB.out | apply below_alloc | apply pw_below_drewN | apply below_drew1) | exact HB.out)) hb); clear HB; have HB := n0_; clear n0_; (try clear hb); (try clear hb2); (try clear hk); (try clear hi)) | (go_at_call 15; (with_reducible refine (char_Name.calls kj4 ((a0 ++ (⟨#[32]⟩ : ByteArray)) ++ a1) false _ A70.out).mono ?_); rintro e w82 ⟨rfl, hb⟩; have n0_ := Aside0.mk (below_step (by repeat (first | (with_reducible first | exact HB.out | apply below_alloc | apply pw_below_drewN | apply below_drew1) | exact HB.out)) hb); clear HB; have HB := n0_; clear n0_; (try clear hb); (try clear hb2); (try clear hk); (try clear hi)) | (go_at_call 15; (with_reducible refine (char_Name.calls kj4 (a0 ++ (⟨#[0]⟩ : ByteArray)) t176 _ A77.out).mono ?_); rintro e w83 ⟨rfl, hb⟩; have n0_ := Aside0.mk (below_step (by repeat (first | (with_reducible first | exact HB.out | apply below_alloc | apply pw_below_drewN | apply below_drew1) | exact HB.out)) hb); clear HB; have HB := n0_; clear n0_; (try clear hb); (try clear hb2); (try clear hk); (try clear hi)))
                            go_meet
                            case rel => exact ⟨_, (t176), (by first | rfl | (simp; done) | (simp [*]; done)), H', ⟨by have := HJ4.out; first | omega | exact Nat.le_refl _⟩, ⟨by repeat (first | (with_reducible first | exact HB.out | apply below_alloc | apply pw_below_drewN | apply below_drew1) | exact HB.out)⟩⟩
                        · rw [if_neg c69] at H
                          exact absurd H (by simp)
                      · rw [if_neg c68] at H
                        exact absurd H (by simp)
                  · replace c16 := Bool.eq_false_iff.mpr c16
                    subst c16
                    have H1 : (rubriclaw1_CharJoins.j1 kj4 a0 true) = some r := by rw [if_neg (show ¬ (false = true) by decide)] at H; exact H
                    clear H
                    have H := H1
                    clear H1
                    have H' := Aside0.mk H
                    clear H
                    go_wp2_with (first | ((with_reducible refine gate_callee (f := 15) rfl ?_); refine goesL_ (some 19) rfl rfl Try.func15 (by kernel_rfl) rfl #[.string a0] rfl (by (try simp only [List.map_toArray, List.map_cons, List.map_nil]); first | done | rfl | (simp only [List.length_drop, List.length_take]; rfl)) ?_; (with_reducible refine (char_Name.calls kj4 a0 true _ A10.out).mono ?_); rintro e w84 ⟨rfl, hb⟩; refine ⟨_, rfl, ?_⟩; have n0_ := Aside0.mk (below_step (by repeat (first | (with_reducible first | exact HB.out | apply below_alloc | apply pw_below_drewN | apply below_drew1) | exact HB.out)) hb); clear HB; have HB := n0_; clear n0_; (try clear hb); (try clear hb2); (try clear hk); (try clear hi)) | (go_at_call 19; (with_reducible refine (char_Token.calls kj4 a1 true _ A12.out).mono ?_); rintro e w85 ⟨rfl, hb⟩; have n0_ := Aside0.mk (below_step (by repeat (first | (with_reducible first | exact HB.out | apply below_alloc | apply pw_below_drewN | apply below_drew1) | exact HB.out)) hb); clear HB; have HB := n0_; clear n0_; (try clear hb); (try clear hb2); (try clear hk); (try clear hi)) | (go_at_call 15; (with_reducible refine (char_Name.calls kj4 (a0 ++ a1) false _ A15.out).mono ?_); rintro e w86 ⟨rfl, hb⟩; have n0_ := Aside0.mk (below_step (by repeat (first | (with_reducible first | exact HB.out | apply below_alloc | apply pw_below_drewN | apply below_drew1) | exact HB.out)) hb); clear HB; have HB := n0_; clear n0_; (try clear hb); (try clear hb2); (try clear hk); (try clear hi)))
                    go_meet
                    case rel => exact ⟨_, (true), (by first | rfl | (simp; done) | (simp [*]; done)), H', ⟨by have := HJ4.out; first | omega | exact Nat.le_refl _⟩, ⟨by repeat (first | (with_reducible first | exact HB.out | apply below_alloc | apply pw_below_drewN | apply below_drew1) | exact HB.out)⟩⟩
                · rw [if_neg c14] at H
                  exact absurd H (by simp)
              · replace c13 := Bool.eq_false_iff.mpr c13
                subst c13
                have H1 : ((char_NCName.f kj4 a0).bind fun t177 => (if t177 = true then ((char_NCName.f kj4 a1).bind fun t178 => (if t178 = true then (if a0.size + 1 ≤ 9223372036854775807 then (if (a0 ++ (⟨#[58]⟩ : ByteArray)).size + a1.size ≤ 9223372036854775807 then ((char_Name.f kj4 ((a0 ++ (⟨#[58]⟩ : ByteArray)) ++ a1)).bind fun t179 => (if t179 = true then (if (a0 ++ (⟨#[32]⟩ : ByteArray)).size + a1.size ≤ 9223372036854775807 then ((char_Name.f kj4 ((a0 ++ (⟨#[32]⟩ : ByteArray)) ++ a1)).bind fun t180 => (if t180 = true then (rubriclaw1_CharJoins.j1 kj4 a0 true) else ((char_Name.f kj4 (a0 ++ (⟨#[0]⟩ : ByteArray))).bind fun t181 => (rubriclaw1_CharJoins.j1 kj4 a0 t181)))) else (none)) else (rubriclaw1_CharJoins.j1 kj4 a0 true))) else (none)) else (none)) else (if a0.size + 1 ≤ 9223372036854775807 then (if (a0 ++ (⟨#[32]⟩ : ByteArray)).size + a1.size ≤ 9223372036854775807 then ((char_Name.f kj4 ((a0 ++ (⟨#[32]⟩ : ByteArray)) ++ a1)).bind fun t182 => (if t182 = true then (rubriclaw1_CharJoins.j1 kj4 a0 true) else ((char_Name.f kj4 (a0 ++ (⟨#[0]⟩ : ByteArray))).bind fun t183 => (rubriclaw1_CharJoins.j1 kj4 a0 t183)))) else (none)) else (none)))) else (if a0.size + 1 ≤ 9223372036854775807 then (if (a0 ++ (⟨#[32]⟩ : ByteArray)).size + a1.size ≤ 9223372036854775807 then ((char_Name.f kj4 ((a0 ++ (⟨#[32]⟩ : ByteArray)) ++ a1)).bind fun t184 => (if t184 = true then (rubriclaw1_CharJoins.j1 kj4 a0 true) else ((char_Name.f kj4 (a0 ++ (⟨#[0]⟩ : ByteArray))).bind fun t185 => (rubriclaw1_CharJoins.j1 kj4 a0 t185)))) else (none)) else (none)))) = some r := by rw [if_neg (show ¬ (false = true) by decide)] at H; exact H
                clear H
                have H := H1
                clear H1
                replace H := Option.bind_eq_some_iff.mp H
                obtain ⟨t177, A870, H⟩ := H
                replace H : (if t177 = true then ((char_NCName.f kj4 a1).bind fun t178 => (if t178 = true then (if a0.size + 1 ≤ 9223372036854775807 then (if (a0 ++ (⟨#[58]⟩ : ByteArray)).size + a1.size ≤ 9223372036854775807 then ((char_Name.f kj4 ((a0 ++ (⟨#[58]⟩ : ByteArray)) ++ a1)).bind fun t179 => (if t179 = true then (if (a0 ++ (⟨#[32]⟩ : ByteArray)).size + a1.size ≤ 9223372036854775807 then ((char_Name.f kj4 ((a0 ++ (⟨#[32]⟩ : ByteArray)) ++ a1)).bind fun t180 => (if t180 = true then (rubriclaw1_CharJoins.j1 kj4 a0 true) else ((char_Name.f kj4 (a0 ++ (⟨#[0]⟩ : ByteArray))).bind fun t181 => (rubriclaw1_CharJoins.j1 kj4 a0 t181)))) else (none)) else (rubriclaw1_CharJoins.j1 kj4 a0 true))) else (none)) else (none)) else (if a0.size + 1 ≤ 9223372036854775807 then (if (a0 ++ (⟨#[32]⟩ : ByteArray)).size + a1.size ≤ 9223372036854775807 then ((char_Name.f kj4 ((a0 ++ (⟨#[32]⟩ : ByteArray)) ++ a1)).bind fun t182 => (if t182 = true then (rubriclaw1_CharJoins.j1 kj4 a0 true) else ((char_Name.f kj4 (a0 ++ (⟨#[0]⟩ : ByteArray))).bind fun t183 => (rubriclaw1_CharJoins.j1 kj4 a0 t183)))) else (none)) else (none)))) else (if a0.size + 1 ≤ 9223372036854775807 then (if (a0 ++ (⟨#[32]⟩ : ByteArray)).size + a1.size ≤ 9223372036854775807 then ((char_Name.f kj4 ((a0 ++ (⟨#[32]⟩ : ByteArray)) ++ a1)).bind fun t184 => (if t184 = true then (rubriclaw1_CharJoins.j1 kj4 a0 true) else ((char_Name.f kj4 (a0 ++ (⟨#[0]⟩ : ByteArray))).bind fun t185 => (rubriclaw1_CharJoins.j1 kj4 a0 t185)))) else (none)) else (none))) = some r := H
                have A87 := Aside0.mk A870
                clear A870
                by_cases c88 : t177 = true
                · subst c88
                  have H1 : ((char_NCName.f kj4 a1).bind fun t178 => (if t178 = true then (if a0.size + 1 ≤ 9223372036854775807 then (if (a0 ++ (⟨#[58]⟩ : ByteArray)).size + a1.size ≤ 9223372036854775807 then ((char_Name.f kj4 ((a0 ++ (⟨#[58]⟩ : ByteArray)) ++ a1)).bind fun t179 => (if t179 = true then (if (a0 ++ (⟨#[32]⟩ : ByteArray)).size + a1.size ≤ 9223372036854775807 then ((char_Name.f kj4 ((a0 ++ (⟨#[32]⟩ : ByteArray)) ++ a1)).bind fun t180 => (if t180 = true then (rubriclaw1_CharJoins.j1 kj4 a0 true) else ((char_Name.f kj4 (a0 ++ (⟨#[0]⟩ : ByteArray))).bind fun t181 => (rubriclaw1_CharJoins.j1 kj4 a0 t181)))) else (none)) else (rubriclaw1_CharJoins.j1 kj4 a0 true))) else (none)) else (none)) else (if a0.size + 1 ≤ 9223372036854775807 then (if (a0 ++ (⟨#[32]⟩ : ByteArray)).size + a1.size ≤ 9223372036854775807 then ((char_Name.f kj4 ((a0 ++ (⟨#[32]⟩ : ByteArray)) ++ a1)).bind fun t182 => (if t182 = true then (rubriclaw1_CharJoins.j1 kj4 a0 true) else ((char_Name.f kj4 (a0 ++ (⟨#[0]⟩ : ByteArray))).bind fun t183 => (rubriclaw1_CharJoins.j1 kj4 a0 t183)))) else (none)) else (none)))) = some r := by rw [if_pos rfl] at H; exact H
                  clear H
                  have H := H1
                  clear H1
                  replace H := Option.bind_eq_some_iff.mp H
                  obtain ⟨t178, A890, H⟩ := H
                  replace H : (if t178 = true then (if a0.size + 1 ≤ 9223372036854775807 then (if (a0 ++ (⟨#[58]⟩ : ByteArray)).size + a1.size ≤ 9223372036854775807 then ((char_Name.f kj4 ((a0 ++ (⟨#[58]⟩ : ByteArray)) ++ a1)).bind fun t179 => (if t179 = true then (if (a0 ++ (⟨#[32]⟩ : ByteArray)).size + a1.size ≤ 9223372036854775807 then ((char_Name.f kj4 ((a0 ++ (⟨#[32]⟩ : ByteArray)) ++ a1)).bind fun t180 => (if t180 = true then (rubriclaw1_CharJoins.j1 kj4 a0 true) else ((char_Name.f kj4 (a0 ++ (⟨#[0]⟩ : ByteArray))).bind fun t181 => (rubriclaw1_CharJoins.j1 kj4 a0 t181)))) else (none)) else (rubriclaw1_CharJoins.j1 kj4 a0 true))) else (none)) else (none)) else (if a0.size + 1 ≤ 9223372036854775807 then (if (a0 ++ (⟨#[32]⟩ : ByteArray)).size + a1.size ≤ 9223372036854775807 then ((char_Name.f kj4 ((a0 ++ (⟨#[32]⟩ : ByteArray)) ++ a1)).bind fun t182 => (if t182 = true then (rubriclaw1_CharJoins.j1 kj4 a0 true) else ((char_Name.f kj4 (a0 ++ (⟨#[0]⟩ : ByteArray))).bind fun t183 => (rubriclaw1_CharJoins.j1 kj4 a0 t183)))) else (none)) else (none))) = some r := H
                  have A89 := Aside0.mk A890
                  clear A890
                  by_cases c90 : t178 = true
                  · subst c90
                    have H1 : (if a0.size + 1 ≤ 9223372036854775807 then (if (a0 ++ (⟨#[58]⟩ : ByteArray)).size + a1.size ≤ 9223372036854775807 then ((char_Name.f kj4 ((a0 ++ (⟨#[58]⟩ : ByteArray)) ++ a1)).bind fun t179 => (if t179 = true then (if (a0 ++ (⟨#[32]⟩ : ByteArray)).size + a1.size ≤ 9223372036854775807 then ((char_Name.f kj4 ((a0 ++ (⟨#[32]⟩ : ByteArray)) ++ a1)).bind fun t180 => (if t180 = true then (rubriclaw1_CharJoins.j1 kj4 a0 true) else ((char_Name.f kj4 (a0 ++ (⟨#[0]⟩ : ByteArray))).bind fun t181 => (rubriclaw1_CharJoins.j1 kj4 a0 t181)))) else (none)) else (rubriclaw1_CharJoins.j1 kj4 a0 true))) else (none)) else (none)) = some r := by rw [if_pos rfl] at H; exact H
                    clear H
                    have H := H1
                    clear H1
                    by_cases c91 : a0.size + 1 ≤ 9223372036854775807
                    · rw [if_pos c91] at H
                      have c91b0 := eq_true c91
                      have c91b1 : decide (a0.size + 1 ≤ 9223372036854775807) = true := decide_eq_true c91
                      try have c91b2 : (9223372036854775807 < a0.size + 1) = False := eq_false (Nat.not_lt.2 c91)
                      by_cases c92 : (a0 ++ (⟨#[58]⟩ : ByteArray)).size + a1.size ≤ 9223372036854775807
                      · rw [if_pos c92] at H
                        have c92b0 := eq_true c92
                        have c92b1 : decide ((a0 ++ (⟨#[58]⟩ : ByteArray)).size + a1.size ≤ 9223372036854775807) = true := decide_eq_true c92
                        try have c92b2 : (9223372036854775807 < (a0 ++ (⟨#[58]⟩ : ByteArray)).size + a1.size) = False := eq_false (Nat.not_lt.2 c92)
                        replace H := Option.bind_eq_some_iff.mp H
                        obtain ⟨t179, A930, H⟩ := H
                        replace H : (if t179 = true then (if (a0 ++ (⟨#[32]⟩ : ByteArray)).size + a1.size ≤ 9223372036854775807 then ((char_Name.f kj4 ((a0 ++ (⟨#[32]⟩ : ByteArray)) ++ a1)).bind fun t180 => (if t180 = true then (rubriclaw1_CharJoins.j1 kj4 a0 true) else ((char_Name.f kj4 (a0 ++ (⟨#[0]⟩ : ByteArray))).bind fun t181 => (rubriclaw1_CharJoins.j1 kj4 a0 t181)))) else (none)) else (rubriclaw1_CharJoins.j1 kj4 a0 true)) = some r := H
                        have A93 := Aside0.mk A930
                        clear A930
                        by_cases c94 : t179 = true
                        · subst c94
                          have H1 : (if (a0 ++ (⟨#[32]⟩ : ByteArray)).size + a1.size ≤ 9223372036854775807 then ((char_Name.f kj4 ((a0 ++ (⟨#[32]⟩ : ByteArray)) ++ a1)).bind fun t180 => (if t180 = true then (rubriclaw1_CharJoins.j1 kj4 a0 true) else ((char_Name.f kj4 (a0 ++ (⟨#[0]⟩ : ByteArray))).bind fun t181 => (rubriclaw1_CharJoins.j1 kj4 a0 t181)))) else (none)) = some r := by rw [if_pos rfl] at H; exact H
                          clear H
                          have H := H1
                          clear H1
                          by_cases c95 : (a0 ++ (⟨#[32]⟩ : ByteArray)).size + a1.size ≤ 9223372036854775807
                          · rw [if_pos c95] at H
                            have c95b0 := eq_true c95
                            have c95b1 : decide ((a0 ++ (⟨#[32]⟩ : ByteArray)).size + a1.size ≤ 9223372036854775807) = true := decide_eq_true c95
                            try have c95b2 : (9223372036854775807 < (a0 ++ (⟨#[32]⟩ : ByteArray)).size + a1.size) = False := eq_false (Nat.not_lt.2 c95)
                            replace H := Option.bind_eq_some_iff.mp H
                            obtain ⟨t180, A960, H⟩ := H
                            replace H : (if t180 = true then (rubriclaw1_CharJoins.j1 kj4 a0 true) else ((char_Name.f kj4 (a0 ++ (⟨#[0]⟩ : ByteArray))).bind fun t181 => (rubriclaw1_CharJoins.j1 kj4 a0 t181))) = some r := H
                            have A96 := Aside0.mk A960
                            clear A960
                            by_cases c97 : t180 = true
                            · subst c97
                              have H1 : (rubriclaw1_CharJoins.j1 kj4 a0 true) = some r := by rw [if_pos rfl] at H; exact H
                              clear H
                              have H := H1
                              clear H1
                              have H' := Aside0.mk H
                              clear H
                              go_wp2_with (first | ((with_reducible refine gate_callee (f := 15) rfl ?_); refine goesL_ (some 19) rfl rfl Try.func15 (by kernel_rfl) rfl #[.string a0] rfl (by (try simp only [List.map_toArray, List.map_cons, List.map_nil]); first | done | rfl | (simp only [List.length_drop, List.length_take]; rfl)) ?_; (with_reducible refine (char_Name.calls kj4 a0 true _ A10.out).mono ?_); rintro e w98 ⟨rfl, hb⟩; refine ⟨_, rfl, ?_⟩; have n0_ := Aside0.mk (below_step (by repeat (first | (with_reducible first | exact HB.out | apply below_alloc | apply pw_below_drewN | apply below_drew1) | exact HB.out)) hb); clear HB; have HB := n0_; clear n0_; (try clear hb); (try clear hb2); (try clear hk); (try clear hi)) | (go_at_call 19; (with_reducible refine (char_Token.calls kj4 a1 false _ A12.out).mono ?_); rintro e w99 ⟨rfl, hb⟩; have n0_ := Aside0.mk (below_step (by repeat (first | (with_reducible first | exact HB.out | apply below_alloc | apply pw_below_drewN | apply below_drew1) | exact HB.out)) hb); clear HB; have HB := n0_; clear n0_; (try clear hb); (try clear hb2); (try clear hk); (try clear hi)) | (go_at_call 17; (with_reducible refine (char_NCName.calls kj4 a0 true _ A87.out).mono ?_); rintro e w100 ⟨rfl, hb⟩; have n0_ := Aside0.mk (below_step (by repeat (first | (with_reducible first | exact HB.out | apply below_alloc | apply pw_below_drewN | apply below_drew1) | exact HB.out)) hb); clear HB; have HB := n0_; clear n0_; (try clear hb); (try clear hb2); (try clear hk); (try clear hi)) | (go_at_call 17; (with_reducible refine (char_NCName.calls kj4 a1 true _ A89.out).mono ?_); rintro e w101 ⟨rfl, hb⟩; have n0_ := Aside0.mk (below_step (by repeat (first | (with_reducible first | exact HB.out | apply below_alloc | apply pw_below_drewN | apply below_drew1) | exact HB.out)) hb); clear HB; have HB := n0_; clear n0_; (try clear hb); (try clear hb2); (try clear hk); (try clear hi)) | (go_at_call 15; (with_reducible refine (char_Name.calls kj4 ((a0 ++ (⟨#[58]⟩ : ByteArray)) ++ a1) true _ A93.out).mono ?_); rintro e w102 ⟨rfl, hb⟩; have n0_ := Aside0.mk (below_step (by repeat (first | (with_reducible first | exact HB.out | apply below_alloc | apply pw_below_drewN | apply below_drew1) | exact HB.out)) hb); clear HB; have HB := n0_; clear n0_; (try clear hb); (try clear hb2); (try clear hk); (try clear hi)) | (go_at_call 15; (with_reducible refine (char_Name.calls kj4 ((a0 ++ (⟨#[32]⟩ : ByteArray)) ++ a1) true _ A96.out).mono ?_); rintro e w103 ⟨rfl, hb⟩; have n0_ := Aside0.mk (below_step (by repeat (first | (with_reducible first | exact HB.out | apply below_alloc | apply pw_below_drewN | apply below_drew1) | exact HB.out)) hb); clear HB; have HB := n0_; clear n0_; (try clear hb); (try clear hb2); (try clear hk); (try clear hi)))
                              go_meet
                              case rel => exact ⟨_, (true), (by first | rfl | (simp; done) | (simp [*]; done)), H', ⟨by have := HJ4.out; first | omega | exact Nat.le_refl _⟩, ⟨by repeat (first | (with_reducible first | exact HB.out | apply below_alloc | apply pw_below_drewN | apply below_drew1) | exact HB.out)⟩⟩
                            · replace c97 := Bool.eq_false_iff.mpr c97
                              subst c97
                              have H1 : ((char_Name.f kj4 (a0 ++ (⟨#[0]⟩ : ByteArray))).bind fun t181 => (rubriclaw1_CharJoins.j1 kj4 a0 t181)) = some r := by rw [if_neg (show ¬ (false = true) by decide)] at H; exact H
                              clear H
                              have H := H1
                              clear H1
                              replace H := Option.bind_eq_some_iff.mp H
                              obtain ⟨t181, A1040, H⟩ := H
                              replace H : (rubriclaw1_CharJoins.j1 kj4 a0 t181) = some r := H
                              have A104 := Aside0.mk A1040
                              clear A1040
                              have H' := Aside0.mk H
                              clear H
                              go_wp2_with (first | ((with_reducible refine gate_callee (f := 15) rfl ?_); refine goesL_ (some 19) rfl rfl Try.func15 (by kernel_rfl) rfl #[.string a0] rfl (by (try simp only [List.map_toArray, List.map_cons, List.map_nil]); first | done | rfl | (simp only [List.length_drop, List.length_take]; rfl)) ?_; (with_reducible refine (char_Name.calls kj4 a0 true _ A10.out).mono ?_); rintro e w105 ⟨rfl, hb⟩; refine ⟨_, rfl, ?_⟩; have n0_ := Aside0.mk (below_step (by repeat (first | (with_reducible first | exact HB.out | apply below_alloc | apply pw_below_drewN | apply below_drew1) | exact HB.out)) hb); clear HB; have HB := n0_; clear n0_; (try clear hb); (try clear hb2); (try clear hk); (try clear hi)) | (go_at_call 19; (with_reducible refine (char_Token.calls kj4 a1 false _ A12.out).mono ?_); rintro e w106 ⟨rfl, hb⟩; have n0_ := Aside0.mk (below_step (by repeat (first | (with_reducible first | exact HB.out | apply below_alloc | apply pw_below_drewN | apply below_drew1) | exact HB.out)) hb); clear HB; have HB := n0_; clear n0_; (try clear hb); (try clear hb2); (try clear hk); (try clear hi)) | (go_at_call 17; (with_reducible refine (char_NCName.calls kj4 a0 true _ A87.out).mono ?_); rintro e w107 ⟨rfl, hb⟩; have n0_ := Aside0.mk (below_step (by repeat (first | (with_reducible first | exact HB.out | apply below_alloc | apply pw_below_drewN | apply below_drew1) | exact HB.out)) hb); clear HB; have HB := n0_; clear n0_; (try clear hb); (try clear hb2); (try clear hk); (try clear hi)) | (go_at_call 17; (with_reducible refine (char_NCName.calls kj4 a1 true _ A89.out).mono ?_); rintro e w108 ⟨rfl, hb⟩; have n0_ := Aside0.mk (below_step (by repeat (first | (with_reducible first | exact HB.out | apply below_alloc | apply pw_below_drewN | apply below_drew1) | exact HB.out)) hb); clear HB; have HB := n0_; clear n0_; (try clear hb); (try clear hb2); (try clear hk); (try clear hi)) | (go_at_call 15; (with_reducible refine (char_Name.calls kj4 ((a0 ++ (⟨#[58]⟩ : ByteArray)) ++ a1) true _ A93.out).mono ?_); rintro e w109 ⟨rfl, hb⟩; have n0_ := Aside0.mk (below_step (by repeat (first | (with_reducible first | exact HB.out | apply below_alloc | apply pw_below_drewN | apply below_drew1) | exact HB.out)) hb); clear HB; have HB := n0_; clear n0_; (try clear hb); (try clear hb2); (try clear hk); (try clear hi)) | (go_at_call 15; (with_reducible refine (char_Name.calls kj4 ((a0 ++ (⟨#[32]⟩ : ByteArray)) ++ a1) false _ A96.out).mono ?_); rintro e w110 ⟨rfl, hb⟩; have n0_ := Aside0.mk (below_step (by repeat (first | (with_reducible first | exact HB.out | apply below_alloc | apply pw_below_drewN | apply below_drew1) | exact HB.out)) hb); clear HB; have HB := n0_; clear n0_; (try clear hb); (try clear hb2); (try clear hk); (try clear hi)) | (go_at_call 15; (with_reducible refine (char_Name.calls kj4 (a0 ++ (⟨#[0]⟩ : ByteArray)) t181 _ A104.out).mono ?_); rintro e w111 ⟨rfl, hb⟩; have n0_ := Aside0.mk (below_step (by repeat (first | (with_reducible first | exact HB.out | apply below_alloc | apply pw_below_drewN | apply below_drew1) | exact HB.out)) hb); clear HB; have HB := n0_; clear n0_; (try clear hb); (try clear hb2); (try clear hk); (try clear hi)))
                              go_meet
                              case rel => exact ⟨_, (t181), (by first | rfl | (simp; done) | (simp [*]; done)), H', ⟨by have := HJ4.out; first | omega | exact Nat.le_refl _⟩, ⟨by repeat (first | (with_reducible first | exact HB.out | apply below_alloc | apply pw_below_drewN | apply below_drew1) | exact HB.out)⟩⟩
                          · rw [if_neg c95] at H
                            exact absurd H (by simp)
                        · replace c94 := Bool.eq_false_iff.mpr c94
                          subst c94
                          have H1 : (rubriclaw1_CharJoins.j1 kj4 a0 true) = some r := by rw [if_neg (show ¬ (false = true) by decide)] at H; exact H
                          clear H
                          have H := H1
                          clear H1
                          have H' := Aside0.mk H
                          clear H
                          go_wp2_with (first | ((with_reducible refine gate_callee (f := 15) rfl ?_); refine goesL_ (some 19) rfl rfl Try.func15 (by kernel_rfl) rfl #[.string a0] rfl (by (try simp only [List.map_toArray, List.map_cons, List.map_nil]); first | done | rfl | (simp only [List.length_drop, List.length_take]; rfl)) ?_; (with_reducible refine (char_Name.calls kj4 a0 true _ A10.out).mono ?_); rintro e w112 ⟨rfl, hb⟩; refine ⟨_, rfl, ?_⟩; have n0_ := Aside0.mk (below_step (by repeat (first | (with_reducible first | exact HB.out | apply below_alloc | apply pw_below_drewN | apply below_drew1) | exact HB.out)) hb); clear HB; have HB := n0_; clear n0_; (try clear hb); (try clear hb2); (try clear hk); (try clear hi)) | (go_at_call 19; (with_reducible refine (char_Token.calls kj4 a1 false _ A12.out).mono ?_); rintro e w113 ⟨rfl, hb⟩; have n0_ := Aside0.mk (below_step (by repeat (first | (with_reducible first | exact HB.out | apply below_alloc | apply pw_below_drewN | apply below_drew1) | exact HB.out)) hb); clear HB; have HB := n0_; clear n0_; (try clear hb); (try clear hb2); (try clear hk); (try clear hi)) | (go_at_call 17; (with_reducible refine (char_NCName.calls kj4 a0 true _ A87.out).mono ?_); rintro e w114 ⟨rfl, hb⟩; have n0_ := Aside0.mk (below_step (by repeat (first | (with_reducible first | exact HB.out | apply below_alloc | apply pw_below_drewN | apply below_drew1) | exact HB.out)) hb); clear HB; have HB := n0_; clear n0_; (try clear hb); (try clear hb2); (try clear hk); (try clear hi)) | (go_at_call 17; (with_reducible refine (char_NCName.calls kj4 a1 true _ A89.out).mono ?_); rintro e w115 ⟨rfl, hb⟩; have n0_ := Aside0.mk (below_step (by repeat (first | (with_reducible first | exact HB.out | apply below_alloc | apply pw_below_drewN | apply below_drew1) | exact HB.out)) hb); clear HB; have HB := n0_; clear n0_; (try clear hb); (try clear hb2); (try clear hk); (try clear hi)) | (go_at_call 15; (with_reducible refine (char_Name.calls kj4 ((a0 ++ (⟨#[58]⟩ : ByteArray)) ++ a1) false _ A93.out).mono ?_); rintro e w116 ⟨rfl, hb⟩; have n0_ := Aside0.mk (below_step (by repeat (first | (with_reducible first | exact HB.out | apply below_alloc | apply pw_below_drewN | apply below_drew1) | exact HB.out)) hb); clear HB; have HB := n0_; clear n0_; (try clear hb); (try clear hb2); (try clear hk); (try clear hi)))
                          go_meet
                          case rel => exact ⟨_, (true), (by first | rfl | (simp; done) | (simp [*]; done)), H', ⟨by have := HJ4.out; first | omega | exact Nat.le_refl _⟩, ⟨by repeat (first | (with_reducible first | exact HB.out | apply below_alloc | apply pw_below_drewN | apply below_drew1) | exact HB.out)⟩⟩
                      · rw [if_neg c92] at H
                        exact absurd H (by simp)
                    · rw [if_neg c91] at H
                      exact absurd H (by simp)
                  · replace c90 := Bool.eq_false_iff.mpr c90
                    subst c90
                    have H1 : (if a0.size + 1 ≤ 9223372036854775807 then (if (a0 ++ (⟨#[32]⟩ : ByteArray)).size + a1.size ≤ 9223372036854775807 then ((char_Name.f kj4 ((a0 ++ (⟨#[32]⟩ : ByteArray)) ++ a1)).bind fun t182 => (if t182 = true then (rubriclaw1_CharJoins.j1 kj4 a0 true) else ((char_Name.f kj4 (a0 ++ (⟨#[0]⟩ : ByteArray))).bind fun t183 => (rubriclaw1_CharJoins.j1 kj4 a0 t183)))) else (none)) else (none)) = some r := by rw [if_neg (show ¬ (false = true) by decide)] at H; exact H
                    clear H
                    have H := H1
                    clear H1
                    by_cases c117 : a0.size + 1 ≤ 9223372036854775807
                    · rw [if_pos c117] at H
                      have c117b0 := eq_true c117
                      have c117b1 : decide (a0.size + 1 ≤ 9223372036854775807) = true := decide_eq_true c117
                      try have c117b2 : (9223372036854775807 < a0.size + 1) = False := eq_false (Nat.not_lt.2 c117)
                      by_cases c118 : (a0 ++ (⟨#[32]⟩ : ByteArray)).size + a1.size ≤ 9223372036854775807
                      · rw [if_pos c118] at H
                        have c118b0 := eq_true c118
                        have c118b1 : decide ((a0 ++ (⟨#[32]⟩ : ByteArray)).size + a1.size ≤ 9223372036854775807) = true := decide_eq_true c118
                        try have c118b2 : (9223372036854775807 < (a0 ++ (⟨#[32]⟩ : ByteArray)).size + a1.size) = False := eq_false (Nat.not_lt.2 c118)
                        replace H := Option.bind_eq_some_iff.mp H
                        obtain ⟨t182, A1190, H⟩ := H
                        replace H : (if t182 = true then (rubriclaw1_CharJoins.j1 kj4 a0 true) else ((char_Name.f kj4 (a0 ++ (⟨#[0]⟩ : ByteArray))).bind fun t183 => (rubriclaw1_CharJoins.j1 kj4 a0 t183))) = some r := H
                        have A119 := Aside0.mk A1190
                        clear A1190
                        by_cases c120 : t182 = true
                        · subst c120
                          have H1 : (rubriclaw1_CharJoins.j1 kj4 a0 true) = some r := by rw [if_pos rfl] at H; exact H
                          clear H
                          have H := H1
                          clear H1
                          have H' := Aside0.mk H
                          clear H
                          go_wp2_with (first | ((with_reducible refine gate_callee (f := 15) rfl ?_); refine goesL_ (some 19) rfl rfl Try.func15 (by kernel_rfl) rfl #[.string a0] rfl (by (try simp only [List.map_toArray, List.map_cons, List.map_nil]); first | done | rfl | (simp only [List.length_drop, List.length_take]; rfl)) ?_; (with_reducible refine (char_Name.calls kj4 a0 true _ A10.out).mono ?_); rintro e w121 ⟨rfl, hb⟩; refine ⟨_, rfl, ?_⟩; have n0_ := Aside0.mk (below_step (by repeat (first | (with_reducible first | exact HB.out | apply below_alloc | apply pw_below_drewN | apply below_drew1) | exact HB.out)) hb); clear HB; have HB := n0_; clear n0_; (try clear hb); (try clear hb2); (try clear hk); (try clear hi)) | (go_at_call 19; (with_reducible refine (char_Token.calls kj4 a1 false _ A12.out).mono ?_); rintro e w122 ⟨rfl, hb⟩; have n0_ := Aside0.mk (below_step (by repeat (first | (with_reducible first | exact HB.out | apply below_alloc | apply pw_below_drewN | apply below_drew1) | exact HB.out)) hb); clear HB; have HB := n0_; clear n0_; (try clear hb); (try clear hb2); (try clear hk); (try clear hi)) | (go_at_call 17; (with_reducible refine (char_NCName.calls kj4 a0 true _ A87.out).mono ?_); rintro e w123 ⟨rfl, hb⟩; have n0_ := Aside0.mk (below_step (by repeat (first | (with_reducible first | exact HB.out | apply below_alloc | apply pw_below_drewN | apply below_drew1) | exact HB.out)) hb); clear HB; have HB := n0_; clear n0_; (try clear hb); (try clear hb2); (try clear hk); (try clear hi)) | (go_at_call 17; (with_reducible refine (char_NCName.calls kj4 a1 false _ A89.out).mono ?_); rintro e w124 ⟨rfl, hb⟩; have n0_ := Aside0.mk (below_step (by repeat (first | (with_reducible first | exact HB.out | apply below_alloc | apply pw_below_drewN | apply below_drew1) | exact HB.out)) hb); clear HB; have HB := n0_; clear n0_; (try clear hb); (try clear hb2); (try clear hk); (try clear hi)) | (go_at_call 15; (with_reducible refine (char_Name.calls kj4 ((a0 ++ (⟨#[32]⟩ : ByteArray)) ++ a1) true _ A119.out).mono ?_); rintro e w125 ⟨rfl, hb⟩; have n0_ := Aside0.mk (below_step (by repeat (first | (with_reducible first | exact HB.out | apply below_alloc | apply pw_below_drewN | apply below_drew1) | exact HB.out)) hb); clear HB; have HB := n0_; clear n0_; (try clear hb); (try clear hb2); (try clear hk); (try clear hi)))
                          go_meet
                          case rel => exact ⟨_, (true), (by first | rfl | (simp; done) | (simp [*]; done)), H', ⟨by have := HJ4.out; first | omega | exact Nat.le_refl _⟩, ⟨by repeat (first | (with_reducible first | exact HB.out | apply below_alloc | apply pw_below_drewN | apply below_drew1) | exact HB.out)⟩⟩
                        · replace c120 := Bool.eq_false_iff.mpr c120
                          subst c120
                          have H1 : ((char_Name.f kj4 (a0 ++ (⟨#[0]⟩ : ByteArray))).bind fun t183 => (rubriclaw1_CharJoins.j1 kj4 a0 t183)) = some r := by rw [if_neg (show ¬ (false = true) by decide)] at H; exact H
                          clear H
                          have H := H1
                          clear H1
                          replace H := Option.bind_eq_some_iff.mp H
                          obtain ⟨t183, A1260, H⟩ := H
                          replace H : (rubriclaw1_CharJoins.j1 kj4 a0 t183) = some r := H
                          have A126 := Aside0.mk A1260
                          clear A1260
                          have H' := Aside0.mk H
                          clear H
                          go_wp2_with (first | ((with_reducible refine gate_callee (f := 15) rfl ?_); refine goesL_ (some 19) rfl rfl Try.func15 (by kernel_rfl) rfl #[.string a0] rfl (by (try simp only [List.map_toArray, List.map_cons, List.map_nil]); first | done | rfl | (simp only [List.length_drop, List.length_take]; rfl)) ?_; (with_reducible refine (char_Name.calls kj4 a0 true _ A10.out).mono ?_); rintro e w127 ⟨rfl, hb⟩; refine ⟨_, rfl, ?_⟩; have n0_ := Aside0.mk (below_step (by repeat (first | (with_reducible first | exact HB.out | apply below_alloc | apply pw_below_drewN | apply below_drew1) | exact HB.out)) hb); clear HB; have HB := n0_; clear n0_; (try clear hb); (try clear hb2); (try clear hk); (try clear hi)) | (go_at_call 19; (with_reducible refine (char_Token.calls kj4 a1 false _ A12.out).mono ?_); rintro e w128 ⟨rfl, hb⟩; have n0_ := Aside0.mk (below_step (by repeat (first | (with_reducible first | exact HB.out | apply below_alloc | apply pw_below_drewN | apply below_drew1) | exact HB.out)) hb); clear HB; have HB := n0_; clear n0_; (try clear hb); (try clear hb2); (try clear hk); (try clear hi)) | (go_at_call 17; (with_reducible refine (char_NCName.calls kj4 a0 true _ A87.out).mono ?_); rintro e w129 ⟨rfl, hb⟩; have n0_ := Aside0.mk (below_step (by repeat (first | (with_reducible first | exact HB.out | apply below_alloc | apply pw_below_drewN | apply below_drew1) | exact HB.out)) hb); clear HB; have HB := n0_; clear n0_; (try clear hb); (try clear hb2); (try clear hk); (try clear hi)) | (go_at_call 17; (with_reducible refine (char_NCName.calls kj4 a1 false _ A89.out).mono ?_); rintro e w130 ⟨rfl, hb⟩; have n0_ := Aside0.mk (below_step (by repeat (first | (with_reducible first | exact HB.out | apply below_alloc | apply pw_below_drewN | apply below_drew1) | exact HB.out)) hb); clear HB; have HB := n0_; clear n0_; (try clear hb); (try clear hb2); (try clear hk); (try clear hi)) | (go_at_call 15; (with_reducible refine (char_Name.calls kj4 ((a0 ++ (⟨#[32]⟩ : ByteArray)) ++ a1) false _ A119.out).mono ?_); rintro e w131 ⟨rfl, hb⟩; have n0_ := Aside0.mk (below_step (by repeat (first | (with_reducible first | exact HB.out | apply below_alloc | apply pw_below_drewN | apply below_drew1) | exact HB.out)) hb); clear HB; have HB := n0_; clear n0_; (try clear hb); (try clear hb2); (try clear hk); (try clear hi)) | (go_at_call 15; (with_reducible refine (char_Name.calls kj4 (a0 ++ (⟨#[0]⟩ : ByteArray)) t183 _ A126.out).mono ?_); rintro e w132 ⟨rfl, hb⟩; have n0_ := Aside0.mk (below_step (by repeat (first | (with_reducible first | exact HB.out | apply below_alloc | apply pw_below_drewN | apply below_drew1) | exact HB.out)) hb); clear HB; have HB := n0_; clear n0_; (try clear hb); (try clear hb2); (try clear hk); (try clear hi)))
                          go_meet
                          case rel => exact ⟨_, (t183), (by first | rfl | (simp; done) | (simp [*]; done)), H', ⟨by have := HJ4.out; first | omega | exact Nat.le_refl _⟩, ⟨by repeat (first | (with_reducible first | exact HB.out | apply below_alloc | apply pw_below_drewN | apply below_drew1) | exact HB.out)⟩⟩
                      · rw [if_neg c118] at H
                        exact absurd H (by simp)
                    · rw [if_neg c117] at H
                      exact absurd H (by simp)
                · replace c88 := Bool.eq_false_iff.mpr c88
                  subst c88
                  have H1 : (if a0.size + 1 ≤ 9223372036854775807 then (if (a0 ++ (⟨#[32]⟩ : ByteArray)).size + a1.size ≤ 9223372036854775807 then ((char_Name.f kj4 ((a0 ++ (⟨#[32]⟩ : ByteArray)) ++ a1)).bind fun t184 => (if t184 = true then (rubriclaw1_CharJoins.j1 kj4 a0 true) else ((char_Name.f kj4 (a0 ++ (⟨#[0]⟩ : ByteArray))).bind fun t185 => (rubriclaw1_CharJoins.j1 kj4 a0 t185)))) else (none)) else (none)) = some r := by rw [if_neg (show ¬ (false = true) by decide)] at H; exact H
                  clear H
                  have H := H1
                  clear H1
                  by_cases c133 : a0.size + 1 ≤ 9223372036854775807
                  · rw [if_pos c133] at H
                    have c133b0 := eq_true c133
                    have c133b1 : decide (a0.size + 1 ≤ 9223372036854775807) = true := decide_eq_true c133
                    try have c133b2 : (9223372036854775807 < a0.size + 1) = False := eq_false (Nat.not_lt.2 c133)
                    by_cases c134 : (a0 ++ (⟨#[32]⟩ : ByteArray)).size + a1.size ≤ 9223372036854775807
                    · rw [if_pos c134] at H
                      have c134b0 := eq_true c134
                      have c134b1 : decide ((a0 ++ (⟨#[32]⟩ : ByteArray)).size + a1.size ≤ 9223372036854775807) = true := decide_eq_true c134
                      try have c134b2 : (9223372036854775807 < (a0 ++ (⟨#[32]⟩ : ByteArray)).size + a1.size) = False := eq_false (Nat.not_lt.2 c134)
                      replace H := Option.bind_eq_some_iff.mp H
                      obtain ⟨t184, A1350, H⟩ := H
                      replace H : (if t184 = true then (rubriclaw1_CharJoins.j1 kj4 a0 true) else ((char_Name.f kj4 (a0 ++ (⟨#[0]⟩ : ByteArray))).bind fun t185 => (rubriclaw1_CharJoins.j1 kj4 a0 t185))) = some r := H
                      have A135 := Aside0.mk A1350
                      clear A1350
                      by_cases c136 : t184 = true
                      · subst c136
                        have H1 : (rubriclaw1_CharJoins.j1 kj4 a0 true) = some r := by rw [if_pos rfl] at H; exact H
                        clear H
                        have H := H1
                        clear H1
                        have H' := Aside0.mk H
                        clear H
                        go_wp2_with (first | ((with_reducible refine gate_callee (f := 15) rfl ?_); refine goesL_ (some 19) rfl rfl Try.func15 (by kernel_rfl) rfl #[.string a0] rfl (by (try simp only [List.map_toArray, List.map_cons, List.map_nil]); first | done | rfl | (simp only [List.length_drop, List.length_take]; rfl)) ?_; (with_reducible refine (char_Name.calls kj4 a0 true _ A10.out).mono ?_); rintro e w137 ⟨rfl, hb⟩; refine ⟨_, rfl, ?_⟩; have n0_ := Aside0.mk (below_step (by repeat (first | (with_reducible first | exact HB.out | apply below_alloc | apply pw_below_drewN | apply below_drew1) | exact HB.out)) hb); clear HB; have HB := n0_; clear n0_; (try clear hb); (try clear hb2); (try clear hk); (try clear hi)) | (go_at_call 19; (with_reducible refine (char_Token.calls kj4 a1 false _ A12.out).mono ?_); rintro e w138 ⟨rfl, hb⟩; have n0_ := Aside0.mk (below_step (by repeat (first | (with_reducible first | exact HB.out | apply below_alloc | apply pw_below_drewN | apply below_drew1) | exact HB.out)) hb); clear HB; have HB := n0_; clear n0_; (try clear hb); (try clear hb2); (try clear hk); (try clear hi)) | (go_at_call 17; (with_reducible refine (char_NCName.calls kj4 a0 false _ A87.out).mono ?_); rintro e w139 ⟨rfl, hb⟩; have n0_ := Aside0.mk (below_step (by repeat (first | (with_reducible first | exact HB.out | apply below_alloc | apply pw_below_drewN | apply below_drew1) | exact HB.out)) hb); clear HB; have HB := n0_; clear n0_; (try clear hb); (try clear hb2); (try clear hk); (try clear hi)) | (go_at_call 15; (with_reducible refine (char_Name.calls kj4 ((a0 ++ (⟨#[32]⟩ : ByteArray)) ++ a1) true _ A135.out).mono ?_); rintro e w140 ⟨rfl, hb⟩; have n0_ := Aside0.mk (below_step (by repeat (first | (with_reducible first | exact HB.out | apply below_alloc | apply pw_below_drewN | apply below_drew1) | exact HB.out)) hb); clear HB; have HB := n0_; clear n0_; (try clear hb); (try clear hb2); (try clear hk); (try clear hi)))
                        go_meet
                        case rel => exact ⟨_, (true), (by first | rfl | (simp; done) | (simp [*]; done)), H', ⟨by have := HJ4.out; first | omega | exact Nat.le_refl _⟩, ⟨by repeat (first | (with_reducible first | exact HB.out | apply below_alloc | apply pw_below_drewN | apply below_drew1) | exact HB.out)⟩⟩
                      · replace c136 := Bool.eq_false_iff.mpr c136
                        subst c136
                        have H1 : ((char_Name.f kj4 (a0 ++ (⟨#[0]⟩ : ByteArray))).bind fun t185 => (rubriclaw1_CharJoins.j1 kj4 a0 t185)) = some r := by rw [if_neg (show ¬ (false = true) by decide)] at H; exact H
                        clear H
                        have H := H1
                        clear H1
                        replace H := Option.bind_eq_some_iff.mp H
                        obtain ⟨t185, A1410, H⟩ := H
                        replace H : (rubriclaw1_CharJoins.j1 kj4 a0 t185) = some r := H
                        have A141 := Aside0.mk A1410
                        clear A1410
                        have H' := Aside0.mk H
                        clear H
                        go_wp2_with (first | ((with_reducible refine gate_callee (f := 15) rfl ?_); refine goesL_ (some 19) rfl rfl Try.func15 (by kernel_rfl) rfl #[.string a0] rfl (by (try simp only [List.map_toArray, List.map_cons, List.map_nil]); first | done | rfl | (simp only [List.length_drop, List.length_take]; rfl)) ?_; (with_reducible refine (char_Name.calls kj4 a0 true _ A10.out).mono ?_); rintro e w142 ⟨rfl, hb⟩; refine ⟨_, rfl, ?_⟩; have n0_ := Aside0.mk (below_step (by repeat (first | (with_reducible first | exact HB.out | apply below_alloc | apply pw_below_drewN | apply below_drew1) | exact HB.out)) hb); clear HB; have HB := n0_; clear n0_; (try clear hb); (try clear hb2); (try clear hk); (try clear hi)) | (go_at_call 19; (with_reducible refine (char_Token.calls kj4 a1 false _ A12.out).mono ?_); rintro e w143 ⟨rfl, hb⟩; have n0_ := Aside0.mk (below_step (by repeat (first | (with_reducible first | exact HB.out | apply below_alloc | apply pw_below_drewN | apply below_drew1) | exact HB.out)) hb); clear HB; have HB := n0_; clear n0_; (try clear hb); (try clear hb2); (try clear hk); (try clear hi)) | (go_at_call 17; (with_reducible refine (char_NCName.calls kj4 a0 false _ A87.out).mono ?_); rintro e w144 ⟨rfl, hb⟩; have n0_ := Aside0.mk (below_step (by repeat (first | (with_reducible first | exact HB.out | apply below_alloc | apply pw_below_drewN | apply below_drew1) | exact HB.out)) hb); clear HB; have HB := n0_; clear n0_; (try clear hb); (try clear hb2); (try clear hk); (try clear hi)) | (go_at_call 15; (with_reducible refine (char_Name.calls kj4 ((a0 ++ (⟨#[32]⟩ : ByteArray)) ++ a1) false _ A135.out).mono ?_); rintro e w145 ⟨rfl, hb⟩; have n0_ := Aside0.mk (below_step (by repeat (first | (with_reducible first | exact HB.out | apply below_alloc | apply pw_below_drewN | apply below_drew1) | exact HB.out)) hb); clear HB; have HB := n0_; clear n0_; (try clear hb); (try clear hb2); (try clear hk); (try clear hi)) | (go_at_call 15; (with_reducible refine (char_Name.calls kj4 (a0 ++ (⟨#[0]⟩ : ByteArray)) t185 _ A141.out).mono ?_); rintro e w146 ⟨rfl, hb⟩; have n0_ := Aside0.mk (below_step (by repeat (first | (with_reducible first | exact HB.out | apply below_alloc | apply pw_below_drewN | apply below_drew1) | exact HB.out)) hb); clear HB; have HB := n0_; clear n0_; (try clear hb); (try clear hb2); (try clear hk); (try clear hi)))
                        go_meet
                        case rel => exact ⟨_, (t185), (by first | rfl | (simp; done) | (simp [*]; done)), H', ⟨by have := HJ4.out; first | omega | exact Nat.le_refl _⟩, ⟨by repeat (first | (with_reducible first | exact HB.out | apply below_alloc | apply pw_below_drewN | apply below_drew1) | exact HB.out)⟩⟩
                    · rw [if_neg c134] at H
                      exact absurd H (by simp)
                  · rw [if_neg c133] at H
                    exact absurd H (by simp)
            · replace c11 := Bool.eq_false_iff.mpr c11
              subst c11
              have H1 : ((char_NCName.f kj4 a0).bind fun t186 => (if t186 = true then ((char_NCName.f kj4 a1).bind fun t187 => (if t187 = true then (if a0.size + 1 ≤ 9223372036854775807 then (if (a0 ++ (⟨#[58]⟩ : ByteArray)).size + a1.size ≤ 9223372036854775807 then ((char_Name.f kj4 ((a0 ++ (⟨#[58]⟩ : ByteArray)) ++ a1)).bind fun t188 => (if t188 = true then (if (a0 ++ (⟨#[32]⟩ : ByteArray)).size + a1.size ≤ 9223372036854775807 then ((char_Name.f kj4 ((a0 ++ (⟨#[32]⟩ : ByteArray)) ++ a1)).bind fun t189 => (if t189 = true then (rubriclaw1_CharJoins.j1 kj4 a0 true) else ((char_Name.f kj4 (a0 ++ (⟨#[0]⟩ : ByteArray))).bind fun t190 => (rubriclaw1_CharJoins.j1 kj4 a0 t190)))) else (none)) else (rubriclaw1_CharJoins.j1 kj4 a0 true))) else (none)) else (none)) else (if a0.size + 1 ≤ 9223372036854775807 then (if (a0 ++ (⟨#[32]⟩ : ByteArray)).size + a1.size ≤ 9223372036854775807 then ((char_Name.f kj4 ((a0 ++ (⟨#[32]⟩ : ByteArray)) ++ a1)).bind fun t191 => (if t191 = true then (rubriclaw1_CharJoins.j1 kj4 a0 true) else ((char_Name.f kj4 (a0 ++ (⟨#[0]⟩ : ByteArray))).bind fun t192 => (rubriclaw1_CharJoins.j1 kj4 a0 t192)))) else (none)) else (none)))) else (if a0.size + 1 ≤ 9223372036854775807 then (if (a0 ++ (⟨#[32]⟩ : ByteArray)).size + a1.size ≤ 9223372036854775807 then ((char_Name.f kj4 ((a0 ++ (⟨#[32]⟩ : ByteArray)) ++ a1)).bind fun t193 => (if t193 = true then (rubriclaw1_CharJoins.j1 kj4 a0 true) else ((char_Name.f kj4 (a0 ++ (⟨#[0]⟩ : ByteArray))).bind fun t194 => (rubriclaw1_CharJoins.j1 kj4 a0 t194)))) else (none)) else (none)))) = some r := by rw [if_neg (show ¬ (false = true) by decide)] at H; exact H
              clear H
              have H := H1
              clear H1
              replace H := Option.bind_eq_some_iff.mp H
              obtain ⟨t186, A1470, H⟩ := H
              replace H : (if t186 = true then ((char_NCName.f kj4 a1).bind fun t187 => (if t187 = true then (if a0.size + 1 ≤ 9223372036854775807 then (if (a0 ++ (⟨#[58]⟩ : ByteArray)).size + a1.size ≤ 9223372036854775807 then ((char_Name.f kj4 ((a0 ++ (⟨#[58]⟩ : ByteArray)) ++ a1)).bind fun t188 => (if t188 = true then (if (a0 ++ (⟨#[32]⟩ : ByteArray)).size + a1.size ≤ 9223372036854775807 then ((char_Name.f kj4 ((a0 ++ (⟨#[32]⟩ : ByteArray)) ++ a1)).bind fun t189 => (if t189 = true then (rubriclaw1_CharJoins.j1 kj4 a0 true) else ((char_Name.f kj4 (a0 ++ (⟨#[0]⟩ : ByteArray))).bind fun t190 => (rubriclaw1_CharJoins.j1 kj4 a0 t190)))) else (none)) else (rubriclaw1_CharJoins.j1 kj4 a0 true))) else (none)) else (none)) else (if a0.size + 1 ≤ 9223372036854775807 then (if (a0 ++ (⟨#[32]⟩ : ByteArray)).size + a1.size ≤ 9223372036854775807 then ((char_Name.f kj4 ((a0 ++ (⟨#[32]⟩ : ByteArray)) ++ a1)).bind fun t191 => (if t191 = true then (rubriclaw1_CharJoins.j1 kj4 a0 true) else ((char_Name.f kj4 (a0 ++ (⟨#[0]⟩ : ByteArray))).bind fun t192 => (rubriclaw1_CharJoins.j1 kj4 a0 t192)))) else (none)) else (none)))) else (if a0.size + 1 ≤ 9223372036854775807 then (if (a0 ++ (⟨#[32]⟩ : ByteArray)).size + a1.size ≤ 9223372036854775807 then ((char_Name.f kj4 ((a0 ++ (⟨#[32]⟩ : ByteArray)) ++ a1)).bind fun t193 => (if t193 = true then (rubriclaw1_CharJoins.j1 kj4 a0 true) else ((char_Name.f kj4 (a0 ++ (⟨#[0]⟩ : ByteArray))).bind fun t194 => (rubriclaw1_CharJoins.j1 kj4 a0 t194)))) else (none)) else (none))) = some r := H
              have A147 := Aside0.mk A1470
              clear A1470
              by_cases c148 : t186 = true
              · subst c148
                have H1 : ((char_NCName.f kj4 a1).bind fun t187 => (if t187 = true then (if a0.size + 1 ≤ 9223372036854775807 then (if (a0 ++ (⟨#[58]⟩ : ByteArray)).size + a1.size ≤ 9223372036854775807 then ((char_Name.f kj4 ((a0 ++ (⟨#[58]⟩ : ByteArray)) ++ a1)).bind fun t188 => (if t188 = true then (if (a0 ++ (⟨#[32]⟩ : ByteArray)).size + a1.size ≤ 9223372036854775807 then ((char_Name.f kj4 ((a0 ++ (⟨#[32]⟩ : ByteArray)) ++ a1)).bind fun t189 => (if t189 = true then (rubriclaw1_CharJoins.j1 kj4 a0 true) else ((char_Name.f kj4 (a0 ++ (⟨#[0]⟩ : ByteArray))).bind fun t190 => (rubriclaw1_CharJoins.j1 kj4 a0 t190)))) else (none)) else (rubriclaw1_CharJoins.j1 kj4 a0 true))) else (none)) else (none)) else (if a0.size + 1 ≤ 9223372036854775807 then (if (a0 ++ (⟨#[32]⟩ : ByteArray)).size + a1.size ≤ 9223372036854775807 then ((char_Name.f kj4 ((a0 ++ (⟨#[32]⟩ : ByteArray)) ++ a1)).bind fun t191 => (if t191 = true then (rubriclaw1_CharJoins.j1 kj4 a0 true) else ((char_Name.f kj4 (a0 ++ (⟨#[0]⟩ : ByteArray))).bind fun t192 => (rubriclaw1_CharJoins.j1 kj4 a0 t192)))) else (none)) else (none)))) = some r := by rw [if_pos rfl] at H; exact H
                clear H
                have H := H1
                clear H1
                replace H := Option.bind_eq_some_iff.mp H
                obtain ⟨t187, A1490, H⟩ := H
                replace H : (if t187 = true then (if a0.size + 1 ≤ 9223372036854775807 then (if (a0 ++ (⟨#[58]⟩ : ByteArray)).size + a1.size ≤ 9223372036854775807 then ((char_Name.f kj4 ((a0 ++ (⟨#[58]⟩ : ByteArray)) ++ a1)).bind fun t188 => (if t188 = true then (if (a0 ++ (⟨#[32]⟩ : ByteArray)).size + a1.size ≤ 9223372036854775807 then ((char_Name.f kj4 ((a0 ++ (⟨#[32]⟩ : ByteArray)) ++ a1)).bind fun t189 => (if t189 = true then (rubriclaw1_CharJoins.j1 kj4 a0 true) else ((char_Name.f kj4 (a0 ++ (⟨#[0]⟩ : ByteArray))).bind fun t190 => (rubriclaw1_CharJoins.j1 kj4 a0 t190)))) else (none)) else (rubriclaw1_CharJoins.j1 kj4 a0 true))) else (none)) else (none)) else (if a0.size + 1 ≤ 9223372036854775807 then (if (a0 ++ (⟨#[32]⟩ : ByteArray)).size + a1.size ≤ 9223372036854775807 then ((char_Name.f kj4 ((a0 ++ (⟨#[32]⟩ : ByteArray)) ++ a1)).bind fun t191 => (if t191 = true then (rubriclaw1_CharJoins.j1 kj4 a0 true) else ((char_Name.f kj4 (a0 ++ (⟨#[0]⟩ : ByteArray))).bind fun t192 => (rubriclaw1_CharJoins.j1 kj4 a0 t192)))) else (none)) else (none))) = some r := H
                have A149 := Aside0.mk A1490
                clear A1490
                by_cases c150 : t187 = true
                · subst c150
                  have H1 : (if a0.size + 1 ≤ 9223372036854775807 then (if (a0 ++ (⟨#[58]⟩ : ByteArray)).size + a1.size ≤ 9223372036854775807 then ((char_Name.f kj4 ((a0 ++ (⟨#[58]⟩ : ByteArray)) ++ a1)).bind fun t188 => (if t188 = true then (if (a0 ++ (⟨#[32]⟩ : ByteArray)).size + a1.size ≤ 9223372036854775807 then ((char_Name.f kj4 ((a0 ++ (⟨#[32]⟩ : ByteArray)) ++ a1)).bind fun t189 => (if t189 = true then (rubriclaw1_CharJoins.j1 kj4 a0 true) else ((char_Name.f kj4 (a0 ++ (⟨#[0]⟩ : ByteArray))).bind fun t190 => (rubriclaw1_CharJoins.j1 kj4 a0 t190)))) else (none)) else (rubriclaw1_CharJoins.j1 kj4 a0 true))) else (none)) else (none)) = some r := by rw [if_pos rfl] at H; exact H
                  clear H
                  have H := H1
                  clear H1
                  by_cases c151 : a0.size + 1 ≤ 9223372036854775807
                  · rw [if_pos c151] at H
                    have c151b0 := eq_true c151
                    have c151b1 : decide (a0.size + 1 ≤ 9223372036854775807) = true := decide_eq_true c151
                    try have c151b2 : (9223372036854775807 < a0.size + 1) = False := eq_false (Nat.not_lt.2 c151)
                    by_cases c152 : (a0 ++ (⟨#[58]⟩ : ByteArray)).size + a1.size ≤ 9223372036854775807
                    · rw [if_pos c152] at H
                      have c152b0 := eq_true c152
                      have c152b1 : decide ((a0 ++ (⟨#[58]⟩ : ByteArray)).size + a1.size ≤ 9223372036854775807) = true := decide_eq_true c152
                      try have c152b2 : (9223372036854775807 < (a0 ++ (⟨#[58]⟩ : ByteArray)).size + a1.size) = False := eq_false (Nat.not_lt.2 c152)
                      replace H := Option.bind_eq_some_iff.mp H
                      obtain ⟨t188, A1530, H⟩ := H
                      replace H : (if t188 = true then (if (a0 ++ (⟨#[32]⟩ : ByteArray)).size + a1.size ≤ 9223372036854775807 then ((char_Name.f kj4 ((a0 ++ (⟨#[32]⟩ : ByteArray)) ++ a1)).bind fun t189 => (if t189 = true then (rubriclaw1_CharJoins.j1 kj4 a0 true) else ((char_Name.f kj4 (a0 ++ (⟨#[0]⟩ : ByteArray))).bind fun t190 => (rubriclaw1_CharJoins.j1 kj4 a0 t190)))) else (none)) else (rubriclaw1_CharJoins.j1 kj4 a0 true)) = some r := H
                      have A153 := Aside0.mk A1530
                      clear A1530
                      by_cases c154 : t188 = true
                      · subst c154
                        have H1 : (if (a0 ++ (⟨#[32]⟩ : ByteArray)).size + a1.size ≤ 9223372036854775807 then ((char_Name.f kj4 ((a0 ++ (⟨#[32]⟩ : ByteArray)) ++ a1)).bind fun t189 => (if t189 = true then (rubriclaw1_CharJoins.j1 kj4 a0 true) else ((char_Name.f kj4 (a0 ++ (⟨#[0]⟩ : ByteArray))).bind fun t190 => (rubriclaw1_CharJoins.j1 kj4 a0 t190)))) else (none)) = some r := by rw [if_pos rfl] at H; exact H
                        clear H
                        have H := H1
                        clear H1
                        by_cases c155 : (a0 ++ (⟨#[32]⟩ : ByteArray)).size + a1.size ≤ 9223372036854775807
                        · rw [if_pos c155] at H
                          have c155b0 := eq_true c155
                          have c155b1 : decide ((a0 ++ (⟨#[32]⟩ : ByteArray)).size + a1.size ≤ 9223372036854775807) = true := decide_eq_true c155
                          try have c155b2 : (9223372036854775807 < (a0 ++ (⟨#[32]⟩ : ByteArray)).size + a1.size) = False := eq_false (Nat.not_lt.2 c155)
                          replace H := Option.bind_eq_some_iff.mp H
                          obtain ⟨t189, A1560, H⟩ := H
                          replace H : (if t189 = true then (rubriclaw1_CharJoins.j1 kj4 a0 true) else ((char_Name.f kj4 (a0 ++ (⟨#[0]⟩ : ByteArray))).bind fun t190 => (rubriclaw1_CharJoins.j1 kj4 a0 t190))) = some r := H
                          have A156 := Aside0.mk A1560
                          clear A1560
                          by_cases c157 : t189 = true
                          · subst c157
                            have H1 : (rubriclaw1_CharJoins.j1 kj4 a0 true) = some r := by rw [if_pos rfl] at H; exact H
                            clear H
                            have H := H1
                            clear H1
                            have H' := Aside0.mk H
                            clear H
                            go_wp2_with (first | ((with_reducible refine gate_callee (f := 15) rfl ?_); refine goesL_ (some 19) rfl rfl Try.func15 (by kernel_rfl) rfl #[.string a0] rfl (by (try simp only [List.map_toArray, List.map_cons, List.map_nil]); first | done | rfl | (simp only [List.length_drop, List.length_take]; rfl)) ?_; (with_reducible refine (char_Name.calls kj4 a0 false _ A10.out).mono ?_); rintro e w158 ⟨rfl, hb⟩; refine ⟨_, rfl, ?_⟩; have n0_ := Aside0.mk (below_step (by repeat (first | (with_reducible first | exact HB.out | apply below_alloc | apply pw_below_drewN | apply below_drew1) | exact HB.out)) hb); clear HB; have HB := n0_; clear n0_; (try clear hb); (try clear hb2); (try clear hk); (try clear hi)) | (go_at_call 17; (with_reducible refine (char_NCName.calls kj4 a0 true _ A147.out).mono ?_); rintro e w159 ⟨rfl, hb⟩; have n0_ := Aside0.mk (below_step (by repeat (first | (with_reducible first | exact HB.out | apply below_alloc | apply pw_below_drewN | apply below_drew1) | exact HB.out)) hb); clear HB; have HB := n0_; clear n0_; (try clear hb); (try clear hb2); (try clear hk); (try clear hi)) | (go_at_call 17; (with_reducible refine (char_NCName.calls kj4 a1 true _ A149.out).mono ?_); rintro e w160 ⟨rfl, hb⟩; have n0_ := Aside0.mk (below_step (by repeat (first | (with_reducible first | exact HB.out | apply below_alloc | apply pw_below_drewN | apply below_drew1) | exact HB.out)) hb); clear HB; have HB := n0_; clear n0_; (try clear hb); (try clear hb2); (try clear hk); (try clear hi)) | (go_at_call 15; (with_reducible refine (char_Name.calls kj4 ((a0 ++ (⟨#[58]⟩ : ByteArray)) ++ a1) true _ A153.out).mono ?_); rintro e w161 ⟨rfl, hb⟩; have n0_ := Aside0.mk (below_step (by repeat (first | (with_reducible first | exact HB.out | apply below_alloc | apply pw_below_drewN | apply below_drew1) | exact HB.out)) hb); clear HB; have HB := n0_; clear n0_; (try clear hb); (try clear hb2); (try clear hk); (try clear hi)) | (go_at_call 15; (with_reducible refine (char_Name.calls kj4 ((a0 ++ (⟨#[32]⟩ : ByteArray)) ++ a1) true _ A156.out).mono ?_); rintro e w162 ⟨rfl, hb⟩; have n0_ := Aside0.mk (below_step (by repeat (first | (with_reducible first | exact HB.out | apply below_alloc | apply pw_below_drewN | apply below_drew1) | exact HB.out)) hb); clear HB; have HB := n0_; clear n0_; (try clear hb); (try clear hb2); (try clear hk); (try clear hi)))
                            go_meet
                            case rel => exact ⟨_, (true), (by first | rfl | (simp; done) | (simp [*]; done)), H', ⟨by have := HJ4.out; first | omega | exact Nat.le_refl _⟩, ⟨by repeat (first | (with_reducible first | exact HB.out | apply below_alloc | apply pw_below_drewN | apply below_drew1) | exact HB.out)⟩⟩
                          · replace c157 := Bool.eq_false_iff.mpr c157
                            subst c157
                            have H1 : ((char_Name.f kj4 (a0 ++ (⟨#[0]⟩ : ByteArray))).bind fun t190 => (rubriclaw1_CharJoins.j1 kj4 a0 t190)) = some r := by rw [if_neg (show ¬ (false = true) by decide)] at H; exact H
                            clear H
                            have H := H1
                            clear H1
                            replace H := Option.bind_eq_some_iff.mp H
                            obtain ⟨t190, A1630, H⟩ := H
                            replace H : (rubriclaw1_CharJoins.j1 kj4 a0 t190) = some r := H
                            have A163 := Aside0.mk A1630
                            clear A1630
                            have H' := Aside0.mk H
                            clear H
                            go_wp2_with (first | ((with_reducible refine gate_callee (f := 15) rfl ?_); refine goesL_ (some 19) rfl rfl Try.func15 (by kernel_rfl) rfl #[.string a0] rfl (by (try simp only [List.map_toArray, List.map_cons, List.map_nil]); first | done | rfl | (simp only [List.length_drop, List.length_take]; rfl)) ?_; (with_reducible refine (char_Name.calls kj4 a0 false _ A10.out).mono ?_); rintro e w164 ⟨rfl, hb⟩; refine ⟨_, rfl, ?_⟩; have n0_ := Aside0.mk (below_step (by repeat (first | (with_reducible first | exact HB.out | apply below_alloc | apply pw_below_drewN | apply below_drew1) | exact HB.out)) hb); clear HB; have HB := n0_; clear n0_; (try clear hb); (try clear hb2); (try clear hk); (try clear hi)) | (go_at_call 17; (with_reducible refine (char_NCName.calls kj4 a0 true _ A147.out).mono ?_); rintro e w165 ⟨rfl, hb⟩; have n0_ := Aside0.mk (below_step (by repeat (first | (with_reducible first | exact HB.out | apply below_alloc | apply pw_below_drewN | apply below_drew1) | exact HB.out)) hb); clear HB; have HB := n0_; clear n0_; (try clear hb); (try clear hb2); (try clear hk); (try clear hi)) | (go_at_call 17; (with_reducible refine (char_NCName.calls kj4 a1 true _ A149.out).mono ?_); rintro e w166 ⟨rfl, hb⟩; have n0_ := Aside0.mk (below_step (by repeat (first | (with_reducible first | exact HB.out | apply below_alloc | apply pw_below_drewN | apply below_drew1) | exact HB.out)) hb); clear HB; have HB := n0_; clear n0_; (try clear hb); (try clear hb2); (try clear hk); (try clear hi)) | (go_at_call 15; (with_reducible refine (char_Name.calls kj4 ((a0 ++ (⟨#[58]⟩ : ByteArray)) ++ a1) true _ A153.out).mono ?_); rintro e w167 ⟨rfl, hb⟩; have n0_ := Aside0.mk (below_step (by repeat (first | (with_reducible first | exact HB.out | apply below_alloc | apply pw_below_drewN | apply below_drew1) | exact HB.out)) hb); clear HB; have HB := n0_; clear n0_; (try clear hb); (try clear hb2); (try clear hk); (try clear hi)) | (go_at_call 15; (with_reducible refine (char_Name.calls kj4 ((a0 ++ (⟨#[32]⟩ : ByteArray)) ++ a1) false _ A156.out).mono ?_); rintro e w168 ⟨rfl, hb⟩; have n0_ := Aside0.mk (below_step (by repeat (first | (with_reducible first | exact HB.out | apply below_alloc | apply pw_below_drewN | apply below_drew1) | exact HB.out)) hb); clear HB; have HB := n0_; clear n0_; (try clear hb); (try clear hb2); (try clear hk); (try clear hi)) | (go_at_call 15; (with_reducible refine (char_Name.calls kj4 (a0 ++ (⟨#[0]⟩ : ByteArray)) t190 _ A163.out).mono ?_); rintro e w169 ⟨rfl, hb⟩; have n0_ := Aside0.mk (below_step (by repeat (first | (with_reducible first | exact HB.out | apply below_alloc | apply pw_below_drewN | apply below_drew1) | exact HB.out)) hb); clear HB; have HB := n0_; clear n0_; (try clear hb); (try clear hb2); (try clear hk); (try clear hi)))
                            go_meet
                            case rel => exact ⟨_, (t190), (by first | rfl | (simp; done) | (simp [*]; done)), H', ⟨by have := HJ4.out; first | omega | exact Nat.le_refl _⟩, ⟨by repeat (first | (with_reducible first | exact HB.out | apply below_alloc | apply pw_below_drewN | apply below_drew1) | exact HB.out)⟩⟩
                        · rw [if_neg c155] at H
                          exact absurd H (by simp)
                      · replace c154 := Bool.eq_false_iff.mpr c154
                        subst c154
                        have H1 : (rubriclaw1_CharJoins.j1 kj4 a0 true) = some r := by rw [if_neg (show ¬ (false = true) by decide)] at H; exact H
                        clear H
                        have H := H1
                        clear H1
                        have H' := Aside0.mk H
                        clear H
                        go_wp2_with (first | ((with_reducible refine gate_callee (f := 15) rfl ?_); refine goesL_ (some 19) rfl rfl Try.func15 (by kernel_rfl) rfl #[.string a0] rfl (by (try simp only [List.map_toArray, List.map_cons, List.map_nil]); first | done | rfl | (simp only [List.length_drop, List.length_take]; rfl)) ?_; (with_reducible refine (char_Name.calls kj4 a0 false _ A10.out).mono ?_); rintro e w170 ⟨rfl, hb⟩; refine ⟨_, rfl, ?_⟩; have n0_ := Aside0.mk (below_step (by repeat (first | (with_reducible first | exact HB.out | apply below_alloc | apply pw_below_drewN | apply below_drew1) | exact HB.out)) hb); clear HB; have HB := n0_; clear n0_; (try clear hb); (try clear hb2); (try clear hk); (try clear hi)) | (go_at_call 17; (with_reducible refine (char_NCName.calls kj4 a0 true _ A147.out).mono ?_); rintro e w171 ⟨rfl, hb⟩; have n0_ := Aside0.mk (below_step (by repeat (first | (with_reducible first | exact HB.out | apply below_alloc | apply pw_below_drewN | apply below_drew1) | exact HB.out)) hb); clear HB; have HB := n0_; clear n0_; (try clear hb); (try clear hb2); (try clear hk); (try clear hi)) | (go_at_call 17; (with_reducible refine (char_NCName.calls kj4 a1 true _ A149.out).mono ?_); rintro e w172 ⟨rfl, hb⟩; have n0_ := Aside0.mk (below_step (by repeat (first | (with_reducible first | exact HB.out | apply below_alloc | apply pw_below_drewN | apply below_drew1) | exact HB.out)) hb); clear HB; have HB := n0_; clear n0_; (try clear hb); (try clear hb2); (try clear hk); (try clear hi)) | (go_at_call 15; (with_reducible refine (char_Name.calls kj4 ((a0 ++ (⟨#[58]⟩ : ByteArray)) ++ a1) false _ A153.out).mono ?_); rintro e w173 ⟨rfl, hb⟩; have n0_ := Aside0.mk (below_step (by repeat (first | (with_reducible first | exact HB.out | apply below_alloc | apply pw_below_drewN | apply below_drew1) | exact HB.out)) hb); clear HB; have HB := n0_; clear n0_; (try clear hb); (try clear hb2); (try clear hk); (try clear hi)))
                        go_meet
                        case rel => exact ⟨_, (true), (by first | rfl | (simp; done) | (simp [*]; done)), H', ⟨by have := HJ4.out; first | omega | exact Nat.le_refl _⟩, ⟨by repeat (first | (with_reducible first | exact HB.out | apply below_alloc | apply pw_below_drewN | apply below_drew1) | exact HB.out)⟩⟩
                    · rw [if_neg c152] at H
                      exact absurd H (by simp)
                  · rw [if_neg c151] at H
                    exact absurd H (by simp)
                · replace c150 := Bool.eq_false_iff.mpr c150
                  subst c150
                  have H1 : (if a0.size + 1 ≤ 9223372036854775807 then (if (a0 ++ (⟨#[32]⟩ : ByteArray)).size + a1.size ≤ 9223372036854775807 then ((char_Name.f kj4 ((a0 ++ (⟨#[32]⟩ : ByteArray)) ++ a1)).bind fun t191 => (if t191 = true then (rubriclaw1_CharJoins.j1 kj4 a0 true) else ((char_Name.f kj4 (a0 ++ (⟨#[0]⟩ : ByteArray))).bind fun t192 => (rubriclaw1_CharJoins.j1 kj4 a0 t192)))) else (none)) else (none)) = some r := by rw [if_neg (show ¬ (false = true) by decide)] at H; exact H
                  clear H
                  have H := H1
                  clear H1
                  by_cases c174 : a0.size + 1 ≤ 9223372036854775807
                  · rw [if_pos c174] at H
                    have c174b0 := eq_true c174
                    have c174b1 : decide (a0.size + 1 ≤ 9223372036854775807) = true := decide_eq_true c174
                    try have c174b2 : (9223372036854775807 < a0.size + 1) = False := eq_false (Nat.not_lt.2 c174)
                    by_cases c175 : (a0 ++ (⟨#[32]⟩ : ByteArray)).size + a1.size ≤ 9223372036854775807
                    · rw [if_pos c175] at H
                      have c175b0 := eq_true c175
                      have c175b1 : decide ((a0 ++ (⟨#[32]⟩ : ByteArray)).size + a1.size ≤ 9223372036854775807) = true := decide_eq_true c175
                      try have c175b2 : (9223372036854775807 < (a0 ++ (⟨#[32]⟩ : ByteArray)).size + a1.size) = False := eq_false (Nat.not_lt.2 c175)
                      replace H := Option.bind_eq_some_iff.mp H
                      obtain ⟨t191, A1760, H⟩ := H
                      replace H : (if t191 = true then (rubriclaw1_CharJoins.j1 kj4 a0 true) else ((char_Name.f kj4 (a0 ++ (⟨#[0]⟩ : ByteArray))).bind fun t192 => (rubriclaw1_CharJoins.j1 kj4 a0 t192))) = some r := H
                      have A176 := Aside0.mk A1760
                      clear A1760
                      by_cases c177 : t191 = true
                      · subst c177
                        have H1 : (rubriclaw1_CharJoins.j1 kj4 a0 true) = some r := by rw [if_pos rfl] at H; exact H
                        clear H
                        have H := H1
                        clear H1
                        have H' := Aside0.mk H
                        clear H
                        go_wp2_with (first | ((with_reducible refine gate_callee (f := 15) rfl ?_); refine goesL_ (some 19) rfl rfl Try.func15 (by kernel_rfl) rfl #[.string a0] rfl (by (try simp only [List.map_toArray, List.map_cons, List.map_nil]); first | done | rfl | (simp only [List.length_drop, List.length_take]; rfl)) ?_; (with_reducible refine (char_Name.calls kj4 a0 false _ A10.out).mono ?_); rintro e w178 ⟨rfl, hb⟩; refine ⟨_, rfl, ?_⟩; have n0_ := Aside0.mk (below_step (by repeat (first | (with_reducible first | exact HB.out | apply below_alloc | apply pw_below_drewN | apply below_drew1) | exact HB.out)) hb); clear HB; have HB := n0_; clear n0_; (try clear hb); (try clear hb2); (try clear hk); (try clear hi)) | (go_at_call 17; (with_reducible refine (char_NCName.calls kj4 a0 true _ A147.out).mono ?_); rintro e w179 ⟨rfl, hb⟩; have n0_ := Aside0.mk (below_step (by repeat (first | (with_reducible first | exact HB.out | apply below_alloc | apply pw_below_drewN | apply below_drew1) | exact HB.out)) hb); clear HB; have HB := n0_; clear n0_; (try clear hb); (try clear hb2); (try clear hk); (try clear hi)) | (go_at_call 17; (with_reducible refine (char_NCName.calls kj4 a1 false _ A149.out).mono ?_); rintro e w180 ⟨rfl, hb⟩; have n0_ := Aside0.mk (below_step (by repeat (first | (with_reducible first | exact HB.out | apply below_alloc | apply pw_below_drewN | apply below_drew1) | exact HB.out)) hb); clear HB; have HB := n0_; clear n0_; (try clear hb); (try clear hb2); (try clear hk); (try clear hi)) | (go_at_call 15; (with_reducible refine (char_Name.calls kj4 ((a0 ++ (⟨#[32]⟩ : ByteArray)) ++ a1) true _ A176.out).mono ?_); rintro e w181 ⟨rfl, hb⟩; have n0_ := Aside0.mk (below_step (by repeat (first | (with_reducible first | exact HB.out | apply below_alloc | apply pw_below_drewN | apply below_drew1) | exact HB.out)) hb); clear HB; have HB := n0_; clear n0_; (try clear hb); (try clear hb2); (try clear hk); (try clear hi)))
                        go_meet
                        case rel => exact ⟨_, (true), (by first | rfl | (simp; done) | (simp [*]; done)), H', ⟨by have := HJ4.out; first | omega | exact Nat.le_refl _⟩, ⟨by repeat (first | (with_reducible first | exact HB.out | apply below_alloc | apply pw_below_drewN | apply below_drew1) | exact HB.out)⟩⟩
                      · replace c177 := Bool.eq_false_iff.mpr c177
                        subst c177
                        have H1 : ((char_Name.f kj4 (a0 ++ (⟨#[0]⟩ : ByteArray))).bind fun t192 => (rubriclaw1_CharJoins.j1 kj4 a0 t192)) = some r := by rw [if_neg (show ¬ (false = true) by decide)] at H; exact H
                        clear H
                        have H := H1
                        clear H1
                        replace H := Option.bind_eq_some_iff.mp H
                        obtain ⟨t192, A1820, H⟩ := H
                        replace H : (rubriclaw1_CharJoins.j1 kj4 a0 t192) = some r := H
                        have A182 := Aside0.mk A1820
                        clear A1820
                        have H' := Aside0.mk H
                        clear H
                        go_wp2_with (first | ((with_reducible refine gate_callee (f := 15) rfl ?_); refine goesL_ (some 19) rfl rfl Try.func15 (by kernel_rfl) rfl #[.string a0] rfl (by (try simp only [List.map_toArray, List.map_cons, List.map_nil]); first | done | rfl | (simp only [List.length_drop, List.length_take]; rfl)) ?_; (with_reducible refine (char_Name.calls kj4 a0 false _ A10.out).mono ?_); rintro e w183 ⟨rfl, hb⟩; refine ⟨_, rfl, ?_⟩; have n0_ := Aside0.mk (below_step (by repeat (first | (with_reducible first | exact HB.out | apply below_alloc | apply pw_below_drewN | apply below_drew1) | exact HB.out)) hb); clear HB; have HB := n0_; clear n0_; (try clear hb); (try clear hb2); (try clear hk); (try clear hi)) | (go_at_call 17; (with_reducible refine (char_NCName.calls kj4 a0 true _ A147.out).mono ?_); rintro e w184 ⟨rfl, hb⟩; have n0_ := Aside0.mk (below_step (by repeat (first | (with_reducible first | exact HB.out | apply below_alloc | apply pw_below_drewN | apply below_drew1) | exact HB.out)) hb); clear HB; have HB := n0_; clear n0_; (try clear hb); (try clear hb2); (try clear hk); (try clear hi)) | (go_at_call 17; (with_reducible refine (char_NCName.calls kj4 a1 false _ A149.out).mono ?_); rintro e w185 ⟨rfl, hb⟩; have n0_ := Aside0.mk (below_step (by repeat (first | (with_reducible first | exact HB.out | apply below_alloc | apply pw_below_drewN | apply below_drew1) | exact HB.out)) hb); clear HB; have HB := n0_; clear n0_; (try clear hb); (try clear hb2); (try clear hk); (try clear hi)) | (go_at_call 15; (with_reducible refine (char_Name.calls kj4 ((a0 ++ (⟨#[32]⟩ : ByteArray)) ++ a1) false _ A176.out).mono ?_); rintro e w186 ⟨rfl, hb⟩; have n0_ := Aside0.mk (below_step (by repeat (first | (with_reducible first | exact HB.out | apply below_alloc | apply pw_below_drewN | apply below_drew1) | exact HB.out)) hb); clear HB; have HB := n0_; clear n0_; (try clear hb); (try clear hb2); (try clear hk); (try clear hi)) | (go_at_call 15; (with_reducible refine (char_Name.calls kj4 (a0 ++ (⟨#[0]⟩ : ByteArray)) t192 _ A182.out).mono ?_); rintro e w187 ⟨rfl, hb⟩; have n0_ := Aside0.mk (below_step (by repeat (first | (with_reducible first | exact HB.out | apply below_alloc | apply pw_below_drewN | apply below_drew1) | exact HB.out)) hb); clear HB; have HB := n0_; clear n0_; (try clear hb); (try clear hb2); (try clear hk); (try clear hi)))
                        go_meet
                        case rel => exact ⟨_, (t192), (by first | rfl | (simp; done) | (simp [*]; done)), H', ⟨by have := HJ4.out; first | omega | exact Nat.le_refl _⟩, ⟨by repeat (first | (with_reducible first | exact HB.out | apply below_alloc | apply pw_below_drewN | apply below_drew1) | exact HB.out)⟩⟩
                    · rw [if_neg c175] at H
                      exact absurd H (by simp)
                  · rw [if_neg c174] at H
                    exact absurd H (by simp)
              · replace c148 := Bool.eq_false_iff.mpr c148
                subst c148
                have H1 : (if a0.size + 1 ≤ 9223372036854775807 then (if (a0 ++ (⟨#[32]⟩ : ByteArray)).size + a1.size ≤ 9223372036854775807 then ((char_Name.f kj4 ((a0 ++ (⟨#[32]⟩ : ByteArray)) ++ a1)).bind fun t193 => (if t193 = true then (rubriclaw1_CharJoins.j1 kj4 a0 true) else ((char_Name.f kj4 (a0 ++ (⟨#[0]⟩ : ByteArray))).bind fun t194 => (rubriclaw1_CharJoins.j1 kj4 a0 t194)))) else (none)) else (none)) = some r := by rw [if_neg (show ¬ (false = true) by decide)] at H; exact H
                clear H
                have H := H1
                clear H1
                by_cases c188 : a0.size + 1 ≤ 9223372036854775807
                · rw [if_pos c188] at H
                  have c188b0 := eq_true c188
                  have c188b1 : decide (a0.size + 1 ≤ 9223372036854775807) = true := decide_eq_true c188
                  try have c188b2 : (9223372036854775807 < a0.size + 1) = False := eq_false (Nat.not_lt.2 c188)
                  by_cases c189 : (a0 ++ (⟨#[32]⟩ : ByteArray)).size + a1.size ≤ 9223372036854775807
                  · rw [if_pos c189] at H
                    have c189b0 := eq_true c189
                    have c189b1 : decide ((a0 ++ (⟨#[32]⟩ : ByteArray)).size + a1.size ≤ 9223372036854775807) = true := decide_eq_true c189
                    try have c189b2 : (9223372036854775807 < (a0 ++ (⟨#[32]⟩ : ByteArray)).size + a1.size) = False := eq_false (Nat.not_lt.2 c189)
                    replace H := Option.bind_eq_some_iff.mp H
                    obtain ⟨t193, A1900, H⟩ := H
                    replace H : (if t193 = true then (rubriclaw1_CharJoins.j1 kj4 a0 true) else ((char_Name.f kj4 (a0 ++ (⟨#[0]⟩ : ByteArray))).bind fun t194 => (rubriclaw1_CharJoins.j1 kj4 a0 t194))) = some r := H
                    have A190 := Aside0.mk A1900
                    clear A1900
                    by_cases c191 : t193 = true
                    · subst c191
                      have H1 : (rubriclaw1_CharJoins.j1 kj4 a0 true) = some r := by rw [if_pos rfl] at H; exact H
                      clear H
                      have H := H1
                      clear H1
                      have H' := Aside0.mk H
                      clear H
                      go_wp2_with (first | ((with_reducible refine gate_callee (f := 15) rfl ?_); refine goesL_ (some 19) rfl rfl Try.func15 (by kernel_rfl) rfl #[.string a0] rfl (by (try simp only [List.map_toArray, List.map_cons, List.map_nil]); first | done | rfl | (simp only [List.length_drop, List.length_take]; rfl)) ?_; (with_reducible refine (char_Name.calls kj4 a0 false _ A10.out).mono ?_); rintro e w192 ⟨rfl, hb⟩; refine ⟨_, rfl, ?_⟩; have n0_ := Aside0.mk (below_step (by repeat (first | (with_reducible first | exact HB.out | apply below_alloc | apply pw_below_drewN | apply below_drew1) | exact HB.out)) hb); clear HB; have HB := n0_; clear n0_; (try clear hb); (try clear hb2); (try clear hk); (try clear hi)) | (go_at_call 17; (with_reducible refine (char_NCName.calls kj4 a0 false _ A147.out).mono ?_); rintro e w193 ⟨rfl, hb⟩; have n0_ := Aside0.mk (below_step (by repeat (first | (with_reducible first | exact HB.out | apply below_alloc | apply pw_below_drewN | apply below_drew1) | exact HB.out)) hb); clear HB; have HB := n0_; clear n0_; (try clear hb); (try clear hb2); (try clear hk); (try clear hi)) | (go_at_call 15; (with_reducible refine (char_Name.calls kj4 ((a0 ++ (⟨#[32]⟩ : ByteArray)) ++ a1) true _ A190.out).mono ?_); rintro e w194 ⟨rfl, hb⟩; have n0_ := Aside0.mk (below_step (by repeat (first | (with_reducible first | exact HB.out | apply below_alloc | apply pw_below_drewN | apply below_drew1) | exact HB.out)) hb); clear HB; have HB := n0_; clear n0_; (try clear hb); (try clear hb2); (try clear hk); (try clear hi)))
                      go_meet
                      case rel => exact ⟨_, (true), (by first | rfl | (simp; done) | (simp [*]; done)), H', ⟨by have := HJ4.out; first | omega | exact Nat.le_refl _⟩, ⟨by repeat (first | (with_reducible first | exact HB.out | apply below_alloc | apply pw_below_drewN | apply below_drew1) | exact HB.out)⟩⟩
                    · replace c191 := Bool.eq_false_iff.mpr c191
                      subst c191
                      have H1 : ((char_Name.f kj4 (a0 ++ (⟨#[0]⟩ : ByteArray))).bind fun t194 => (rubriclaw1_CharJoins.j1 kj4 a0 t194)) = some r := by rw [if_neg (show ¬ (false = true) by decide)] at H; exact H
                      clear H
                      have H := H1
                      clear H1
                      replace H := Option.bind_eq_some_iff.mp H
                      obtain ⟨t194, A1950, H⟩ := H
                      replace H : (rubriclaw1_CharJoins.j1 kj4 a0 t194) = some r := H
                      have A195 := Aside0.mk A1950
                      clear A1950
                      have H' := Aside0.mk H
                      clear H
                      go_wp2_with (first | ((with_reducible refine gate_callee (f := 15) rfl ?_); refine goesL_ (some 19) rfl rfl Try.func15 (by kernel_rfl) rfl #[.string a0] rfl (by (try simp only [List.map_toArray, List.map_cons, List.map_nil]); first | done | rfl | (simp only [List.length_drop, List.length_take]; rfl)) ?_; (with_reducible refine (char_Name.calls kj4 a0 false _ A10.out).mono ?_); rintro e w196 ⟨rfl, hb⟩; refine ⟨_, rfl, ?_⟩; have n0_ := Aside0.mk (below_step (by repeat (first | (with_reducible first | exact HB.out | apply below_alloc | apply pw_below_drewN | apply below_drew1) | exact HB.out)) hb); clear HB; have HB := n0_; clear n0_; (try clear hb); (try clear hb2); (try clear hk); (try clear hi)) | (go_at_call 17; (with_reducible refine (char_NCName.calls kj4 a0 false _ A147.out).mono ?_); rintro e w197 ⟨rfl, hb⟩; have n0_ := Aside0.mk (below_step (by repeat (first | (with_reducible first | exact HB.out | apply below_alloc | apply pw_below_drewN | apply below_drew1) | exact HB.out)) hb); clear HB; have HB := n0_; clear n0_; (try clear hb); (try clear hb2); (try clear hk); (try clear hi)) | (go_at_call 15; (with_reducible refine (char_Name.calls kj4 ((a0 ++ (⟨#[32]⟩ : ByteArray)) ++ a1) false _ A190.out).mono ?_); rintro e w198 ⟨rfl, hb⟩; have n0_ := Aside0.mk (below_step (by repeat (first | (with_reducible first | exact HB.out | apply below_alloc | apply pw_below_drewN | apply below_drew1) | exact HB.out)) hb); clear HB; have HB := n0_; clear n0_; (try clear hb); (try clear hb2); (try clear hk); (try clear hi)) | (go_at_call 15; (with_reducible refine (char_Name.calls kj4 (a0 ++ (⟨#[0]⟩ : ByteArray)) t194 _ A195.out).mono ?_); rintro e w199 ⟨rfl, hb⟩; have n0_ := Aside0.mk (below_step (by repeat (first | (with_reducible first | exact HB.out | apply below_alloc | apply pw_below_drewN | apply below_drew1) | exact HB.out)) hb); clear HB; have HB := n0_; clear n0_; (try clear hb); (try clear hb2); (try clear hk); (try clear hi)))
                      go_meet
                      case rel => exact ⟨_, (t194), (by first | rfl | (simp; done) | (simp [*]; done)), H', ⟨by have := HJ4.out; first | omega | exact Nat.le_refl _⟩, ⟨by repeat (first | (with_reducible first | exact HB.out | apply below_alloc | apply pw_below_drewN | apply below_drew1) | exact HB.out)⟩⟩
                  · rw [if_neg c189] at H
                    exact absurd H (by simp)
                · rw [if_neg c188] at H
                  exact absurd H (by simp)
          case rest =>
            clear HC9
            try clear c1
            try clear c2
            try clear p2
            try clear c5
            try clear c6
            try clear c7
            try clear c8
            try clear c9
            try clear c11
            try clear c12
            try clear c13
            try clear c14
            try clear c15
            try clear c16
            try clear c17
            try clear c18
            try clear c19
            try clear c20
            try clear c21
            try clear c22
            try clear c22b1
            try clear c22b2
            try clear c24
            try clear c25
            try clear c25b0
            try clear c25b1
            try clear c25b2
            try clear c27
            try clear c50
            try clear c50b0
            try clear c50b1
            try clear c50b2
            try clear c51
            try clear c51b0
            try clear c51b1
            try clear c51b2
            try clear c53
            try clear c68
            try clear c68b0
            try clear c68b1
            try clear c68b2
            try clear c69
            try clear c69b0
            try clear c69b1
            try clear c69b2
            try clear c71
            try clear c88
            try clear c90
            try clear c91
            try clear c91b0
            try clear c91b1
            try clear c91b2
            try clear c92
            try clear c92b0
            try clear c92b1
            try clear c92b2
            try clear c94
            try clear c95
            try clear c95b0
            try clear c95b1
            try clear c95b2
            try clear c97
            try clear c117
            try clear c117b0
            try clear c117b1
            try clear c117b2
            try clear c118
            try clear c118b0
            try clear c118b1
            try clear c118b2
            try clear c120
            try clear c133
            try clear c133b0
            try clear c133b1
            try clear c133b2
            try clear c134
            try clear c134b0
            try clear c134b1
            try clear c134b2
            try clear c136
            try clear c148
            try clear c150
            try clear c151
            try clear c151b0
            try clear c151b1
            try clear c151b2
            try clear c152
            try clear c152b0
            try clear c152b1
            try clear c152b2
            try clear c154
            try clear c155
            try clear c155b0
            try clear c155b1
            try clear c155b2
            try clear c157
            try clear c174
            try clear c174b0
            try clear c174b1
            try clear c174b2
            try clear c175
            try clear c175b0
            try clear c175b1
            try clear c175b2
            try clear c177
            try clear c188
            try clear c188b0
            try clear c188b1
            try clear c188b2
            try clear c189
            try clear c189b0
            try clear c189b1
            try clear c189b2
            try clear c191
            obtain ⟨kq, x58_8, rfl, HA, HJ8, HB⟩ := hcut
            cases kq with
            | zero => exact absurd HA.out (by simp [rubriclaw1_CharJoins.j1])
            | succ kj8 =>
              have H := HA.out
              clear HA
              simp only [rubriclaw1_CharJoins.j1] at H
              by_cases c200 : x58_8 = true
              · subst c200
                have H1 : (some false) = some r := by rw [if_pos rfl] at H; exact H
                clear H
                have H := H1
                clear H1
                obtain rfl := Option.some.inj H
                go_wp2
                go_ret
                exact ⟨by first | rfl | (simp [errW_none, errW_some] <;> rfl) | (simp [*, errW_none, errW_some] <;> rfl), by repeat (first | (with_reducible first | exact HB.out | apply below_alloc | apply pw_below_drewN | apply below_drew1) | exact HB.out)⟩
              · replace c200 := Bool.eq_false_iff.mpr c200
                subst c200
                have H1 : ((char_QName.f kj8 a0).bind fun bt195 => (if bt195.2.2 = true then (if bt195.1.toList = ([] : List UInt8) then (if bt195.2.1.toList = a0.toList then ((char_NCName.f kj8 a0).bind fun t198 => (some t198)) else (some false)) else (if bt195.1.size + 1 ≤ 9223372036854775807 then (if (bt195.1 ++ (⟨#[58]⟩ : ByteArray)).size + bt195.2.1.size ≤ 9223372036854775807 then (if ((bt195.1 ++ (⟨#[58]⟩ : ByteArray)) ++ bt195.2.1).toList = a0.toList then ((char_NCName.f kj8 bt195.1).bind fun t199 => (if t199 = true then ((char_NCName.f kj8 bt195.2.1).bind fun t200 => (if t200 = true then ((char_NCName.f kj8 a0).bind fun t201 => (some (!t201))) else (some false))) else (some false))) else (some false)) else (none)) else (none))) else (if bt195.1.toList = ([] : List UInt8) then (some bt195.2.1.toList.isEmpty) else (some false)))) = some r := by rw [if_neg (show ¬ (false = true) by decide)] at H; exact H
                clear H
                have H := H1
                clear H1
                replace H := Option.bind_eq_some_iff.mp H
                obtain ⟨⟨t195, t196, t197⟩, A2010, H⟩ := H
                replace H : (if t197 = true then (if t195.toList = ([] : List UInt8) then (if t196.toList = a0.toList then ((char_NCName.f kj8 a0).bind fun t198 => (some t198)) else (some false)) else (if t195.size + 1 ≤ 9223372036854775807 then (if (t195 ++ (⟨#[58]⟩ : ByteArray)).size + t196.size ≤ 9223372036854775807 then (if ((t195 ++ (⟨#[58]⟩ : ByteArray)) ++ t196).toList = a0.toList then ((char_NCName.f kj8 t195).bind fun t199 => (if t199 = true then ((char_NCName.f kj8 t196).bind fun t200 => (if t200 = true then ((char_NCName.f kj8 a0).bind fun t201 => (some (!t201))) else (some false))) else (some false))) else (some false)) else (none)) else (none))) else (if t195.toList = ([] : List UInt8) then (some t196.toList.isEmpty) else (some false))) = some r := H
                have A201 := Aside0.mk A2010
                clear A2010
                by_cases c202 : t197 = true
                · subst c202
                  have H1 : (if t195.toList = ([] : List UInt8) then (if t196.toList = a0.toList then ((char_NCName.f kj8 a0).bind fun t198 => (some t198)) else (some false)) else (if t195.size + 1 ≤ 9223372036854775807 then (if (t195 ++ (⟨#[58]⟩ : ByteArray)).size + t196.size ≤ 9223372036854775807 then (if ((t195 ++ (⟨#[58]⟩ : ByteArray)) ++ t196).toList = a0.toList then ((char_NCName.f kj8 t195).bind fun t199 => (if t199 = true then ((char_NCName.f kj8 t196).bind fun t200 => (if t200 = true then ((char_NCName.f kj8 a0).bind fun t201 => (some (!t201))) else (some false))) else (some false))) else (some false)) else (none)) else (none))) = some r := by rw [if_pos rfl] at H; exact H
                  clear H
                  have H := H1
                  clear H1
                  by_cases c203 : t195.toList = ([] : List UInt8)
                  · rw [if_pos c203] at H
                    have c203b0 : (t195.toList == ([] : List UInt8)) = true := beq_iff_eq.mpr c203
                    have c203b1 : (t195.toList != ([] : List UInt8)) = false := bne_eq_false_iff_eq.mpr c203
                    have c203b2 : t195.toList.isEmpty = true := by simpa using c203
                    clear c203
                    by_cases c204 : t196.toList = a0.toList
                    · rw [if_pos c204] at H
                      have c204b0 : (t196.toList == a0.toList) = true := beq_iff_eq.mpr c204
                      have c204b1 : (t196.toList != a0.toList) = false := bne_eq_false_iff_eq.mpr c204
                      clear c204
                      replace H := Option.bind_eq_some_iff.mp H
                      obtain ⟨t198, A2050, H⟩ := H
                      replace H : (some t198) = some r := H
                      have A205 := Aside0.mk A2050
                      clear A2050
                      obtain rfl := Option.some.inj H
                      go_wp2_with (first | ((with_reducible refine gate_callee (f := 13) rfl ?_); refine goesL_ (some 61) rfl rfl Try.func13 (by kernel_rfl) rfl #[.string a0] rfl (by (try simp only [List.map_toArray, List.map_cons, List.map_nil]); first | done | rfl | (simp only [List.length_drop, List.length_take]; rfl)) ?_; (with_reducible refine (char_QName.calls kj8 a0 t195 t196 true _ A201.out).mono ?_); rintro e w206 ⟨rfl, hb⟩; refine ⟨_, rfl, ?_⟩; have n0_ := Aside0.mk (below_step (by repeat (first | (with_reducible first | exact HB.out | apply below_alloc | apply pw_below_drewN | apply below_drew1) | exact HB.out)) hb); clear HB; have HB := n0_; clear n0_; (try clear hb); (try clear hb2); (try clear hk); (try clear hi)) | (go_at_call 17; (with_reducible refine (char_NCName.calls kj8 a0 t198 _ A205.out).mono ?_); rintro e w207 ⟨rfl, hb⟩; have n0_ := Aside0.mk (below_step (by repeat (first | (with_reducible first | exact HB.out | apply below_alloc | apply pw_below_drewN | apply below_drew1) | exact HB.out)) hb); clear HB; have HB := n0_; clear n0_; (try clear hb); (try clear hb2); (try clear hk); (try clear hi)))
                      go_ret
                      exact ⟨by first | rfl | (simp [errW_none, errW_some] <;> rfl) | (simp [*, errW_none, errW_some] <;> rfl), by repeat (first | (with_reducible first | exact HB.out | apply below_alloc | apply pw_below_drewN | apply below_drew1) | exact HB.out)⟩
                    · rw [if_neg c204] at H
                      have c204b0 : (t196.toList == a0.toList) = false := beq_eq_false_iff_ne.mpr c204
                      have c204b1 : (t196.toList != a0.toList) = true := bne_iff_ne.mpr c204
                      obtain rfl := Option.some.inj H
                      go_wp2_with (first | ((with_reducible refine gate_callee (f := 13) rfl ?_); refine goesL_ (some 61) rfl rfl Try.func13 (by kernel_rfl) rfl #[.string a0] rfl (by (try simp only [List.map_toArray, List.map_cons, List.map_nil]); first | done | rfl | (simp only [List.length_drop, List.length_take]; rfl)) ?_; (with_reducible refine (char_QName.calls kj8 a0 t195 t196 true _ A201.out).mono ?_); rintro e w208 ⟨rfl, hb⟩; refine ⟨_, rfl, ?_⟩; have n0_ := Aside0.mk (below_step (by repeat (first | (with_reducible first | exact HB.out | apply below_alloc | apply pw_below_drewN | apply below_drew1) | exact HB.out)) hb); clear HB; have HB := n0_; clear n0_; (try clear hb); (try clear hb2); (try clear hk); (try clear hi)))
                      go_ret
                      exact ⟨by first | rfl | (simp [errW_none, errW_some] <;> rfl) | (simp [*, errW_none, errW_some] <;> rfl), by repeat (first | (with_reducible first | exact HB.out | apply below_alloc | apply pw_below_drewN | apply below_drew1) | exact HB.out)⟩
                  · rw [if_neg c203] at H
                    have c203b0 : (t195.toList == ([] : List UInt8)) = false := beq_eq_false_iff_ne.mpr c203
                    have c203b1 : (t195.toList != ([] : List UInt8)) = true := bne_iff_ne.mpr c203
                    have c203b2 : t195.toList.isEmpty = false := by simpa using c203
                    by_cases c209 : t195.size + 1 ≤ 9223372036854775807
                    · rw [if_pos c209] at H
                      have c209b0 := eq_true c209
                      have c209b1 : decide (t195.size + 1 ≤ 9223372036854775807) = true := decide_eq_true c209
                      try have c209b2 : (9223372036854775807 < t195.size + 1) = False := eq_false (Nat.not_lt.2 c209)
                      by_cases c210 : (t195 ++ (⟨#[58]⟩ : ByteArray)).size + t196.size ≤ 9223372036854775807
                      · rw [if_pos c210] at H
                        have c210b0 := eq_true c210
                        have c210b1 : decide ((t195 ++ (⟨#[58]⟩ : ByteArray)).size + t196.size ≤ 9223372036854775807) = true := decide_eq_true c210
                        try have c210b2 : (9223372036854775807 < (t195 ++ (⟨#[58]⟩ : ByteArray)).size + t196.size) = False := eq_false (Nat.not_lt.2 c210)
                        by_cases c211 : ((t195 ++ (⟨#[58]⟩ : ByteArray)) ++ t196).toList = a0.toList
                        · rw [if_pos c211] at H
                          have c211b0 : (((t195 ++ (⟨#[58]⟩ : ByteArray)) ++ t196).toList == a0.toList) = true := beq_iff_eq.mpr c211
                          have c211b1 : (((t195 ++ (⟨#[58]⟩ : ByteArray)) ++ t196).toList != a0.toList) = false := bne_eq_false_iff_eq.mpr c211
                          clear c211
                          replace H := Option.bind_eq_some_iff.mp H
                          obtain ⟨t199, A2120, H⟩ := H
                          replace H : (if t199 = true then ((char_NCName.f kj8 t196).bind fun t200 => (if t200 = true then ((char_NCName.f kj8 a0).bind fun t201 => (some (!t201))) else (some false))) else (some false)) = some r := H
                          have A212 := Aside0.mk A2120
                          clear A2120
                          by_cases c213 : t199 = true
                          · subst c213
                            have H1 : ((char_NCName.f kj8 t196).bind fun t200 => (if t200 = true then ((char_NCName.f kj8 a0).bind fun t201 => (some (!t201))) else (some false))) = some r := by rw [if_pos rfl] at H; exact H
                            clear H
                            have H := H1
                            clear H1
                            replace H := Option.bind_eq_some_iff.mp H
                            obtain ⟨t200, A2140, H⟩ := H
                            replace H : (if t200 = true then ((char_NCName.f kj8 a0).bind fun t201 => (some (!t201))) else (some false)) = some r := H
                            have A214 := Aside0.mk A2140
                            clear A2140
                            by_cases c215 : t200 = true
                            · subst c215
                              have H1 : ((char_NCName.f kj8 a0).bind fun t201 => (some (!t201))) = some r := by rw [if_pos rfl] at H; exact H
                              clear H
                              have H := H1
                              clear H1
                              replace H := Option.bind_eq_some_iff.mp H
                              obtain ⟨t201, A2160, H⟩ := H
                              replace H : (some (!t201)) = some r := H
                              have A216 := Aside0.mk A2160
                              clear A2160
                              obtain rfl := Option.some.inj H
                              go_wp2_with (first | ((with_reducible refine gate_callee (f := 13) rfl ?_); refine goesL_ (some 61) rfl rfl Try.func13 (by kernel_rfl) rfl #[.string a0] rfl (by (try simp only [List.map_toArray, List.map_cons, List.map_nil]); first | done | rfl | (simp only [List.length_drop, List.length_take]; rfl)) ?_; (with_reducible refine (char_QName.calls kj8 a0 t195 t196 true _ A201.out).mono ?_); rintro e w217 ⟨rfl, hb⟩; refine ⟨_, rfl, ?_⟩; have n0_ := Aside0.mk (below_step (by repeat (first | (with_reducible first | exact HB.out | apply below_alloc | apply pw_below_drewN | apply below_drew1) | exact HB.out)) hb); clear HB; have HB := n0_; clear n0_; (try clear hb); (try clear hb2); (try clear hk); (try clear hi)) | (go_at_call 17; (with_reducible refine (char_NCName.calls kj8 t195 true _ A212.out).mono ?_); rintro e w218 ⟨rfl, hb⟩; have n0_ := Aside0.mk (below_step (by repeat (first | (with_reducible first | exact HB.out | apply below_alloc | apply pw_below_drewN | apply below_drew1) | exact HB.out)) hb); clear HB; have HB := n0_; clear n0_; (try clear hb); (try clear hb2); (try clear hk); (try clear hi)) | (go_at_call 17; (with_reducible refine (char_NCName.calls kj8 t196 true _ A214.out).mono ?_); rintro e w219 ⟨rfl, hb⟩; have n0_ := Aside0.mk (below_step (by repeat (first | (with_reducible first | exact HB.out | apply below_alloc | apply pw_below_drewN | apply below_drew1) | exact HB.out)) hb); clear HB; have HB := n0_; clear n0_; (try clear hb); (try clear hb2); (try clear hk); (try clear hi)) | (go_at_call 17; (with_reducible refine (char_NCName.calls kj8 a0 t201 _ A216.out).mono ?_); rintro e w220 ⟨rfl, hb⟩; have n0_ := Aside0.mk (below_step (by repeat (first | (with_reducible first | exact HB.out | apply below_alloc | apply pw_below_drewN | apply below_drew1) | exact HB.out)) hb); clear HB; have HB := n0_; clear n0_; (try clear hb); (try clear hb2); (try clear hk); (try clear hi)))
                              go_ret
                              exact ⟨by first | rfl | (simp [errW_none, errW_some] <;> rfl) | (simp [*, errW_none, errW_some] <;> rfl), by repeat (first | (with_reducible first | exact HB.out | apply below_alloc | apply pw_below_drewN | apply below_drew1) | exact HB.out)⟩
                            · replace c215 := Bool.eq_false_iff.mpr c215
                              subst c215
                              have H1 : (some false) = some r := by rw [if_neg (show ¬ (false = true) by decide)] at H; exact H
                              clear H
                              have H := H1
                              clear H1
                              obtain rfl := Option.some.inj H
                              go_wp2_with (first | ((with_reducible refine gate_callee (f := 13) rfl ?_); refine goesL_ (some 61) rfl rfl Try.func13 (by kernel_rfl) rfl #[.string a0] rfl (by (try simp only [List.map_toArray, List.map_cons, List.map_nil]); first | done | rfl | (simp only [List.length_drop, List.length_take]; rfl)) ?_; (with_reducible refine (char_QName.calls kj8 a0 t195 t196 true _ A201.out).mono ?_); rintro e w221 ⟨rfl, hb⟩; refine ⟨_, rfl, ?_⟩; have n0_ := Aside0.mk (below_step (by repeat (first | (with_reducible first | exact HB.out | apply below_alloc | apply pw_below_drewN | apply below_drew1) | exact HB.out)) hb); clear HB; have HB := n0_; clear n0_; (try clear hb); (try clear hb2); (try clear hk); (try clear hi)) | (go_at_call 17; (with_reducible refine (char_NCName.calls kj8 t195 true _ A212.out).mono ?_); rintro e w222 ⟨rfl, hb⟩; have n0_ := Aside0.mk (below_step (by repeat (first | (with_reducible first | exact HB.out | apply below_alloc | apply pw_below_drewN | apply below_drew1) | exact HB.out)) hb); clear HB; have HB := n0_; clear n0_; (try clear hb); (try clear hb2); (try clear hk); (try clear hi)) | (go_at_call 17; (with_reducible refine (char_NCName.calls kj8 t196 false _ A214.out).mono ?_); rintro e w223 ⟨rfl, hb⟩; have n0_ := Aside0.mk (below_step (by repeat (first | (with_reducible first | exact HB.out | apply below_alloc | apply pw_below_drewN | apply below_drew1) | exact HB.out)) hb); clear HB; have HB := n0_; clear n0_; (try clear hb); (try clear hb2); (try clear hk); (try clear hi)))
                              go_ret
                              exact ⟨by first | rfl | (simp [errW_none, errW_some] <;> rfl) | (simp [*, errW_none, errW_some] <;> rfl), by repeat (first | (with_reducible first | exact HB.out | apply below_alloc | apply pw_below_drewN | apply below_drew1) | exact HB.out)⟩
                          · replace c213 := Bool.eq_false_iff.mpr c213
                            subst c213
                            have H1 : (some false) = some r := by rw [if_neg (show ¬ (false = true) by decide)] at H; exact H
                            clear H
                            have H := H1
                            clear H1
                            obtain rfl := Option.some.inj H
                            go_wp2_with (first | ((with_reducible refine gate_callee (f := 13) rfl ?_); refine goesL_ (some 61) rfl rfl Try.func13 (by kernel_rfl) rfl #[.string a0] rfl (by (try simp only [List.map_toArray, List.map_cons, List.map_nil]); first | done | rfl | (simp only [List.length_drop, List.length_take]; rfl)) ?_; (with_reducible refine (char_QName.calls kj8 a0 t195 t196 true _ A201.out).mono ?_); rintro e w224 ⟨rfl, hb⟩; refine ⟨_, rfl, ?_⟩; have n0_ := Aside0.mk (below_step (by repeat (first | (with_reducible first | exact HB.out | apply below_alloc | apply pw_below_drewN | apply below_drew1) | exact HB.out)) hb); clear HB; have HB := n0_; clear n0_; (try clear hb); (try clear hb2); (try clear hk); (try clear hi)) | (go_at_call 17; (with_reducible refine (char_NCName.calls kj8 t195 false _ A212.out).mono ?_); rintro e w225 ⟨rfl, hb⟩; have n0_ := Aside0.mk (below_step (by repeat (first | (with_reducible first | exact HB.out | apply below_alloc | apply pw_below_drewN | apply below_drew1) | exact HB.out)) hb); clear HB; have HB := n0_; clear n0_; (try clear hb); (try clear hb2); (try clear hk); (try clear hi)))
                            go_ret
                            exact ⟨by first | rfl | (simp [errW_none, errW_some] <;> rfl) | (simp [*, errW_none, errW_some] <;> rfl), by repeat (first | (with_reducible first | exact HB.out | apply below_alloc | apply pw_below_drewN | apply below_drew1) | exact HB.out)⟩
                        · rw [if_neg c211] at H
                          have c211b0 : (((t195 ++ (⟨#[58]⟩ : ByteArray)) ++ t196).toList == a0.toList) = false := beq_eq_false_iff_ne.mpr c211
                          have c211b1 : (((t195 ++ (⟨#[58]⟩ : ByteArray)) ++ t196).toList != a0.toList) = true := bne_iff_ne.mpr c211
                          obtain rfl := Option.some.inj H
                          go_wp2_with (first | ((with_reducible refine gate_callee (f := 13) rfl ?_); refine goesL_ (some 61) rfl rfl Try.func13 (by kernel_rfl) rfl #[.string a0] rfl (by (try simp only [List.map_toArray, List.map_cons, List.map_nil]); first | done | rfl | (simp only [List.length_drop, List.length_take]; rfl)) ?_; (with_reducible refine (char_QName.calls kj8 a0 t195 t196 true _ A201.out).mono ?_); rintro e w226 ⟨rfl, hb⟩; refine ⟨_, rfl, ?_⟩; have n0_ := Aside0.mk (below_step (by repeat (first | (with_reducible first | exact HB.out | apply below_alloc | apply pw_below_drewN | apply below_drew1) | exact HB.out)) hb); clear HB; have HB := n0_; clear n0_; (try clear hb); (try clear hb2); (try clear hk); (try clear hi)))
                          go_ret
                          exact ⟨by first | rfl | (simp [errW_none, errW_some] <;> rfl) | (simp [*, errW_none, errW_some] <;> rfl), by repeat (first | (with_reducible first | exact HB.out | apply below_alloc | apply pw_below_drewN | apply below_drew1) | exact HB.out)⟩
                      · rw [if_neg c210] at H
                        exact absurd H (by simp)
                    · rw [if_neg c209] at H
                      exact absurd H (by simp)
                · replace c202 := Bool.eq_false_iff.mpr c202
                  subst c202
                  have H1 : (if t195.toList = ([] : List UInt8) then (some t196.toList.isEmpty) else (some false)) = some r := by rw [if_neg (show ¬ (false = true) by decide)] at H; exact H
                  clear H
                  have H := H1
                  clear H1
                  by_cases c227 : t195.toList = ([] : List UInt8)
                  · rw [if_pos c227] at H
                    have c227b0 : (t195.toList == ([] : List UInt8)) = true := beq_iff_eq.mpr c227
                    have c227b1 : (t195.toList != ([] : List UInt8)) = false := bne_eq_false_iff_eq.mpr c227
                    have c227b2 : t195.toList.isEmpty = true := by simpa using c227
                    clear c227
                    obtain rfl := Option.some.inj H
                    go_wp2_with (first | ((with_reducible refine gate_callee (f := 13) rfl ?_); refine goesL_ (some 61) rfl rfl Try.func13 (by kernel_rfl) rfl #[.string a0] rfl (by (try simp only [List.map_toArray, List.map_cons, List.map_nil]); first | done | rfl | (simp only [List.length_drop, List.length_take]; rfl)) ?_; (with_reducible refine (char_QName.calls kj8 a0 t195 t196 false _ A201.out).mono ?_); rintro e w228 ⟨rfl, hb⟩; refine ⟨_, rfl, ?_⟩; have n0_ := Aside0.mk (below_step (by repeat (first | (with_reducible first | exact HB.out | apply below_alloc | apply pw_below_drewN | apply below_drew1) | exact HB.out)) hb); clear HB; have HB := n0_; clear n0_; (try clear hb); (try clear hb2); (try clear hk); (try clear hi)))
                    go_ret
                    exact ⟨by first | rfl | (simp [errW_none, errW_some] <;> rfl) | (simp [*, errW_none, errW_some] <;> rfl), by repeat (first | (with_reducible first | exact HB.out | apply below_alloc | apply pw_below_drewN | apply below_drew1) | exact HB.out)⟩
                  · rw [if_neg c227] at H
                    have c227b0 : (t195.toList == ([] : List UInt8)) = false := beq_eq_false_iff_ne.mpr c227
                    have c227b1 : (t195.toList != ([] : List UInt8)) = true := bne_iff_ne.mpr c227
                    have c227b2 : t195.toList.isEmpty = false := by simpa using c227
                    obtain rfl := Option.some.inj H
                    go_wp2_with (first | ((with_reducible refine gate_callee (f := 13) rfl ?_); refine goesL_ (some 61) rfl rfl Try.func13 (by kernel_rfl) rfl #[.string a0] rfl (by (try simp only [List.map_toArray, List.map_cons, List.map_nil]); first | done | rfl | (simp only [List.length_drop, List.length_take]; rfl)) ?_; (with_reducible refine (char_QName.calls kj8 a0 t195 t196 false _ A201.out).mono ?_); rintro e w229 ⟨rfl, hb⟩; refine ⟨_, rfl, ?_⟩; have n0_ := Aside0.mk (below_step (by repeat (first | (with_reducible first | exact HB.out | apply below_alloc | apply pw_below_drewN | apply below_drew1) | exact HB.out)) hb); clear HB; have HB := n0_; clear n0_; (try clear hb); (try clear hb2); (try clear hk); (try clear hi)))
                    go_ret
                    exact ⟨by first | rfl | (simp [errW_none, errW_some] <;> rfl) | (simp [*, errW_none, errW_some] <;> rfl), by repeat (first | (with_reducible first | exact HB.out | apply below_alloc | apply pw_below_drewN | apply below_drew1) | exact HB.out)⟩
  · replace c4 := Bool.eq_false_iff.mpr c4
    subst c4
    have H1 : (some false) = some r := by rw [if_neg (show ¬ (false = true) by decide)] at H; exact H
    clear H
    have H := H1
    clear H1
    obtain rfl := Option.some.inj H
    go_enter Try.func5, Try.ntmps5
    go_wp2_with (first | ((with_reducible refine gate_callee (f := 9) rfl ?_); refine goesL_ (some 8) rfl rfl Try.func9 (by kernel_rfl) rfl #[] rfl (by (try simp only [List.map_toArray, List.map_cons, List.map_nil]); first | done | rfl | (simp only [List.length_drop, List.length_take]; rfl)) ?_; (with_reducible refine (rubriclaw1_known.calls k  false _ A3.out).mono ?_); rintro e w230 ⟨rfl, hb⟩; refine ⟨_, rfl, ?_⟩; have n0_ := Aside0.mk (below_step (by repeat (first | (with_reducible first | exact HB.out | apply below_alloc | apply pw_below_drewN | apply below_drew1) | exact HB.out)) hb); clear HB; have HB := n0_; clear n0_; (try clear hb); (try clear hb2); (try clear hk); (try clear hi)))
    go_ret
    exact ⟨by first | rfl | (simp [errW_none, errW_some] <;> rfl) | (simp [*, errW_none, errW_some] <;> rfl), by repeat (first | (with_reducible first | exact HB.out | apply below_alloc | apply pw_below_drewN | apply below_drew1) | exact HB.out)⟩

/-- THE ONE PURE STATEMENT of rubriclaw1_CharJoins: yours. -/
def rubriclaw1_CharJoins.Pure : Prop := ∀ (a0 : ByteArray) (a1 : ByteArray), a0.size ≤ 140737488351232 → a1.size ≤ 140737488351232 → ∃ k, rubriclaw1_CharJoins.f k a0 a1 = some true
theorem rubriclaw1_CharJoins.walk (P : rubriclaw1_CharJoins.Pure) (a0 : ByteArray) (a1 : ByteArray) (w : World) (w0 : a0.size ≤ 140737488351232) (w1 : a1.size ≤ 140737488351232) :
    Calls Try.prog 5 #[.string a0, .string a1] w fun e w' => e = .returned (.bool true) ∧ Below w.heap.size w w' := by
  obtain ⟨k, h⟩ := P a0 a1 w0 w1
  refine (rubriclaw1_CharJoins.calls k a0 a1 true w h).mono ?_
  rintro e w' ⟨rfl, hd⟩
  exact ⟨rfl, hd⟩

end Go.Proofs.Ytjogllgkdnomiaa.PCharJoins
