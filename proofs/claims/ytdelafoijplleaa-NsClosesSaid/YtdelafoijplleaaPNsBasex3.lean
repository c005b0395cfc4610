-- Written by a turned copy of the print (wip/print/mkprint.py): contracts proved by hand are joined in. Lean checks it.
import Derived.Test.YtdelafoijplleaaPNsBasex0
import Derived.Test.YtdelafoijplleaaPNsBasex2
namespace Go.Proofs.Ytdelafoijplleaa.PNsBase
open Go.RowKit Go.Proofs.YtdelafoijplleaaW.PrintWords Go.Proofs.YtdelafoijplleaaW.PrintLast Go.Proofs.YtdelafoijplleaaW.PrintMore
attribute [local go_sem] max2_int min2_int max_two min_two max_three min_three max_four min_four   -- for this text's walks alone
set_option linter.unusedVariables false
set_option linter.unusedSimpArgs false

/-! ### ns_wrong: function 16 -/
def ns_wrong.j0 : Nat → ByteArray → ByteArray → Bool → Option (Bool)
  | 0, _, _, _ => none
  | k + 1, x1, x2, x7 => if x7 = true then (some true) else (if ((x1.toList == ([120, 109, 108] : List UInt8)) != (x2.toList == ([104, 116, 116, 112, 58, 47, 47, 119, 119, 119, 46, 119, 51, 46, 111, 114, 103, 47, 88, 77, 76, 47, 49, 57, 57, 56, 47, 110, 97, 109, 101, 115, 112, 97, 99, 101] : List UInt8))) = true then (some true) else (if x2.toList = ([104, 116, 116, 112, 58, 47, 47, 119, 119, 119, 46, 119, 51, 46, 111, 114, 103, 47, 50, 48, 48, 48, 47, 120, 109, 108, 110, 115, 47] : List UInt8) then (some true) else (if x2.toList = ([] : List UInt8) then (some (!x1.toList.isEmpty)) else (some false))))
def ns_wrong.f (k : Nat) (a0 : ByteArray) (a1 : ByteArray) (a2 : ByteArray) : Option (Bool) := if a0.toList = ([120, 109, 108, 110, 115] : List UInt8) then (ns_wrong.j0 k a1 a2 false) else ((char_NCName.f k a1).bind fun t119 => (if t119 = true then (ns_wrong.j0 k a1 a2 (a1.toList == ([120, 109, 108, 110, 115] : List UInt8))) else (ns_wrong.j0 k a1 a2 true)))
theorem ns_wrong.mono_l : ∀ k, (∀ y0 y1 y2, LeO (ns_wrong.j0 k y0 y1 y2) (ns_wrong.j0 (k + 1) y0 y1 y2))
  | 0 => fun _ _ _ r h => by simp [ns_wrong.j0] at h
  | k + 1 => by
    have ih0 := ns_wrong.mono_l k
    · intro y0 y1 y2
      unfold ns_wrong.j0
      repeat' first
      | (with_reducible exact ih0 _ _ _)
      | (with_reducible exact char_NCName.mono _ _)
      | (with_reducible exact LeO.refl _)
      | (with_reducible exact LeO.none _)
      | (with_reducible refine LeO.ite ?_ ?_)
      | (with_reducible refine LeO.bind ?_ (fun _ => ?_))
      | exact ih0 _ _ _
      | exact char_NCName.mono _ _
      | exact LeO.none _
      | refine LeO.ite ?_ ?_
      | refine LeO.bind ?_ (fun _ => ?_)
theorem ns_wrong.mono : ∀ a0 a1 a2 k, LeO (ns_wrong.f k a0 a1 a2) (ns_wrong.f (k + 1) a0 a1 a2) := by
  intro a0 a1 a2 k
  have ih0 := ns_wrong.mono_l k
  unfold ns_wrong.f
  repeat' first
      | (with_reducible exact ih0 _ _ _)
      | (with_reducible exact char_NCName.mono _ _)
      | (with_reducible exact LeO.refl _)
      | (with_reducible exact LeO.none _)
      | (with_reducible refine LeO.ite ?_ ?_)
      | (with_reducible refine LeO.bind ?_ (fun _ => ?_))
      | exact ih0 _ _ _
      | exact char_NCName.mono _ _
      | exact LeO.none _
      | refine LeO.ite ?_ ?_
      | refine LeO.bind ?_ (fun _ => ?_)
set_option maxHeartbeats 8000000 in
set_option maxRecDepth 100000 in
theorem ns_wrong.calls (k : Nat) (a0 : ByteArray) (a1 : ByteArray) (a2 : ByteArray) (r : Bool) (w : World) (h : ns_wrong.f k a0 a1 a2 = some r) :
    Calls Try.prog 16 #[.string a0, .string a1, .string a2] w fun e w' => e = .returned (.bool r) ∧ Below w.heap.size w w' := by
  have HB := Aside0.mk (Below.refl w.heap.size w)
  have H : (if a0.toList = ([120, 109, 108, 110, 115] : List UInt8) then (ns_wrong.j0 k a1 a2 false) else ((char_NCName.f k a1).bind fun t119 => (if t119 = true then (ns_wrong.j0 k a1 a2 (a1.toList == ([120, 109, 108, 110, 115] : List UInt8))) else (ns_wrong.j0 k a1 a2 true)))) = some r := h
  clear h
  have HC4 := Aside0.mk H
  clear H
  go_enter Try.func16, Try.ntmps16
  go_upto_region 1 with (fail)
  go_cut [7] (fun v7 wc => ∃ (kq : Nat) (x7_3 : Bool), v7 = .bool x7_3 ∧ Aside0 (ns_wrong.j0 kq a1 a2 x7_3 = some r) ∧ Aside0 (kq ≤ k) ∧ Aside0 (Below w.heap.size w wc))
  case first =>
    have H := HC4.out
    clear HC4
    by_cases c5 : a0.toList = ([120, 109, 108, 110, 115] : List UInt8)
    · rw [if_pos c5] at H
      have c5b0 : (a0.toList == ([120, 109, 108, 110, 115] : List UInt8)) = true := beq_iff_eq.mpr c5
      have c5b1 : (a0.toList != ([120, 109, 108, 110, 115] : List UInt8)) = false := bne_eq_false_iff_eq.mpr c5
      clear c5
      (first | rw [c5b0] | (simp only [i64_w, i32_w]; rw [c5b0]) | skip)
      have H' := Aside0.mk H
      clear H
      go_wp2
      go_meet
      case rel => exact ⟨_, (false), (by first | rfl | (simp; done) | (simp [*]; done)), H', ⟨by first | omega | exact Nat.le_refl _⟩, ⟨by repeat (first | (with_reducible first | exact HB.out | apply below_alloc | apply pw_below_drewN | apply below_drew1) | exact HB.out)⟩⟩
    · rw [if_neg c5] at H
      have c5b0 : (a0.toList == ([120, 109, 108, 110, 115] : List UInt8)) = false := beq_eq_false_iff_ne.mpr c5
      have c5b1 : (a0.toList != ([120, 109, 108, 110, 115] : List UInt8)) = true := bne_iff_ne.mpr c5
      (first | rw [c5b0] | (simp only [i64_w, i32_w]; rw [c5b0]) | skip)
      replace H := Option.bind_eq_some_iff.mp H
      obtain ⟨t119, A60, H⟩ := H
      replace H : (if t119 = true then (ns_wrong.j0 k a1 a2 (a1.toList == ([120, 109, 108, 110, 115] : List UInt8))) else (ns_wrong.j0 k a1 a2 true)) = some r := H
      have A6 := Aside0.mk A60
      clear A60
      by_cases c7 : t119 = true
      · subst c7
        have H1 : (ns_wrong.j0 k a1 a2 (a1.toList == ([120, 109, 108, 110, 115] : List UInt8))) = some r := by rw [if_pos rfl] at H; exact H
        clear H
        have H := H1
        clear H1
        have H' := Aside0.mk H
        clear H
        go_wp2_with (first | (go_at_call 24; (with_reducible refine (char_NCName.calls k a1 true _ A6.out).mono ?_); rintro e w8 ⟨rfl, hb⟩; have n0_ := Aside0.mk (below_step (by repeat (first | (with_reducible first | exact HB.out | apply below_alloc | apply pw_below_drewN | apply below_drew1) | exact HB.out)) hb); clear HB; have HB := n0_; clear n0_; (try clear hb); (try clear hb2); (try clear hk); (try clear hi)))
        go_meet
        case rel => exact ⟨_, ((a1.toList == ([120, 109, 108, 110, 115] : List UInt8))), (by first | rfl | (simp; done) | (simp [*]; done)), H', ⟨by first | omega | exact Nat.le_refl _⟩, ⟨by repeat (first | (with_reducible first | exact HB.out | apply below_alloc | apply pw_below_drewN | apply below_drew1) | exact HB.out)⟩⟩
      · replace c7 := Bool.eq_false_iff.mpr c7
        subst c7
        have H1 : (ns_wrong.j0 k a1 a2 true) = some r := by rw [if_neg (show ¬ (false = true) by decide)] at H; exact H
        clear H
        have H := H1
        clear H1
        have H' := Aside0.mk H
        clear H
        go_wp2_with (first | (go_at_call 24; (with_reducible refine (char_NCName.calls k a1 false _ A6.out).mono ?_); rintro e w9 ⟨rfl, hb⟩; have n0_ := Aside0.mk (below_step (by repeat (first | (with_reducible first | exact HB.out | apply below_alloc | apply pw_below_drewN | apply below_drew1) | exact HB.out)) hb); clear HB; have HB := n0_; clear n0_; (try clear hb); (try clear hb2); (try clear hk); (try clear hi)))
        go_meet
        case rel => exact ⟨_, (true), (by first | rfl | (simp; done) | (simp [*]; done)), H', ⟨by first | omega | exact Nat.le_refl _⟩, ⟨by repeat (first | (with_reducible first | exact HB.out | apply below_alloc | apply pw_below_drewN | apply below_drew1) | exact HB.out)⟩⟩
  case rest =>
    clear HC4
    try clear c1
    try clear p2
    try clear c5
    try clear c5b0
    try clear c5b1
    try clear c7
    obtain ⟨kq, x7_3, rfl, HA, HJ3, HB⟩ := hcut
    cases kq with
    | zero => exact absurd HA.out (by simp [ns_wrong.j0])
    | succ kj3 =>
      have H := HA.out
      clear HA
      simp only [ns_wrong.j0] at H
      by_cases c10 : x7_3 = true
      · subst c10
        have H1 : (some true) = some r := by rw [if_pos rfl] at H; exact H
        clear H
        have H := H1
        clear H1
        obtain rfl := Option.some.inj H
        go_wp2
        go_ret
        exact ⟨by first | rfl | (simp [errW_none, errW_some] <;> rfl) | (simp [*, errW_none, errW_some] <;> rfl), by repeat (first | (with_reducible first | exact HB.out | apply below_alloc | apply pw_below_drewN | apply below_drew1) | exact HB.out)⟩
      · replace c10 := Bool.eq_false_iff.mpr c10
        subst c10
        have H1 : (if ((a1.toList == ([120, 109, 108] : List UInt8)) != (a2.toList == ([104, 116, 116, 112, 58, 47, 47, 119, 119, 119, 46, 119, 51, 46, 111, 114, 103, 47, 88, 77, 76, 47, 49, 57, 57, 56, 47, 110, 97, 109, 101, 115, 112, 97, 99, 101] : List UInt8))) = true then (some true) else (if a2.toList = ([104, 116, 116, 112, 58, 47, 47, 119, 119, 119, 46, 119, 51, 46, 111, 114, 103, 47, 50, 48, 48, 48, 47, 120, 109, 108, 110, 115, 47] : List UInt8) then (some true) else (if a2.toList = ([] : List UInt8) then (some (!a1.toList.isEmpty)) else (some false)))) = some r := by rw [if_neg (show ¬ (false = true) by decide)] at H; exact H
        clear H
        have H := H1
        clear H1
        by_cases c11 : ((a1.toList == ([120, 109, 108] : List UInt8)) != (a2.toList == ([104, 116, 116, 112, 58, 47, 47, 119, 119, 119, 46, 119, 51, 46, 111, 114, 103, 47, 88, 77, 76, 47, 49, 57, 57, 56, 47, 110, 97, 109, 101, 115, 112, 97, 99, 101] : List UInt8))) = true
        · rw [if_pos c11] at H
          have c11b0 : ((a1.toList == ([120, 109, 108] : List UInt8)) != (a2.toList == ([104, 116, 116, 112, 58, 47, 47, 119, 119, 119, 46, 119, 51, 46, 111, 114, 103, 47, 88, 77, 76, 47, 49, 57, 57, 56, 47, 110, 97, 109, 101, 115, 112, 97, 99, 101] : List UInt8))) = true := c11
          (try (have c11b1 : decide ((a1.toList == ([120, 109, 108] : List UInt8)) = (a2.toList == ([104, 116, 116, 112, 58, 47, 47, 119, 119, 119, 46, 119, 51, 46, 111, 114, 103, 47, 88, 77, 76, 47, 49, 57, 57, 56, 47, 110, 97, 109, 101, 115, 112, 97, 99, 101] : List UInt8))) = false := by simpa using c11))
          (try (have c11b2 : ((a1.toList == ([120, 109, 108] : List UInt8)) == (a2.toList == ([104, 116, 116, 112, 58, 47, 47, 119, 119, 119, 46, 119, 51, 46, 111, 114, 103, 47, 88, 77, 76, 47, 49, 57, 57, 56, 47, 110, 97, 109, 101, 115, 112, 97, 99, 101] : List UInt8))) = false := by simpa using c11))
          (try (have c11b3 : ¬ ((a1.toList == ([120, 109, 108] : List UInt8)) = (a2.toList == ([104, 116, 116, 112, 58, 47, 47, 119, 119, 119, 46, 119, 51, 46, 111, 114, 103, 47, 88, 77, 76, 47, 49, 57, 57, 56, 47, 110, 97, 109, 101, 115, 112, 97, 99, 101] : List UInt8))) := by simpa using c11))
          clear c11
          obtain rfl := Option.some.inj H
          go_wp2
          go_ret
          exact ⟨by first | rfl | (simp [errW_none, errW_some] <;> rfl) | (simp [*, errW_none, errW_some] <;> rfl), by repeat (first | (with_reducible first | exact HB.out | apply below_alloc | apply pw_below_drewN | apply below_drew1) | exact HB.out)⟩
        · rw [if_neg c11] at H
          have c11b0 : ((a1.toList == ([120, 109, 108] : List UInt8)) != (a2.toList == ([104, 116, 116, 112, 58, 47, 47, 119, 119, 119, 46, 119, 51, 46, 111, 114, 103, 47, 88, 77, 76, 47, 49, 57, 57, 56, 47, 110, 97, 109, 101, 115, 112, 97, 99, 101] : List UInt8))) = false := by simpa using c11
          (try (have c11b1 : decide ((a1.toList == ([120, 109, 108] : List UInt8)) = (a2.toList == ([104, 116, 116, 112, 58, 47, 47, 119, 119, 119, 46, 119, 51, 46, 111, 114, 103, 47, 88, 77, 76, 47, 49, 57, 57, 56, 47, 110, 97, 109, 101, 115, 112, 97, 99, 101] : List UInt8))) = true := by simpa using c11))
          (try (have c11b2 : ((a1.toList == ([120, 109, 108] : List UInt8)) == (a2.toList == ([104, 116, 116, 112, 58, 47, 47, 119, 119, 119, 46, 119, 51, 46, 111, 114, 103, 47, 88, 77, 76, 47, 49, 57, 57, 56, 47, 110, 97, 109, 101, 115, 112, 97, 99, 101] : List UInt8))) = true := by simpa using c11))
          clear c11
          by_cases c12 : a2.toList = ([104, 116, 116, 112, 58, 47, 47, 119, 119, 119, 46, 119, 51, 46, 111, 114, 103, 47, 50, 48, 48, 48, 47, 120, 109, 108, 110, 115, 47] : List UInt8)
          · rw [if_pos c12] at H
            have c12b0 : (a2.toList == ([104, 116, 116, 112, 58, 47, 47, 119, 119, 119, 46, 119, 51, 46, 111, 114, 103, 47, 50, 48, 48, 48, 47, 120, 109, 108, 110, 115, 47] : List UInt8)) = true := beq_iff_eq.mpr c12
            have c12b1 : (a2.toList != ([104, 116, 116, 112, 58, 47, 47, 119, 119, 119, 46, 119, 51, 46, 111, 114, 103, 47, 50, 48, 48, 48, 47, 120, 109, 108, 110, 115, 47] : List UInt8)) = false := bne_eq_false_iff_eq.mpr c12
            clear c12
            obtain rfl := Option.some.inj H
            go_wp2
            go_ret
            exact ⟨by first | rfl | (simp [errW_none, errW_some] <;> rfl) | (simp [*, errW_none, errW_some] <;> rfl), by repeat (first | (with_reducible first | exact HB.out | apply below_alloc | apply pw_below_drewN | apply below_drew1) | exact HB.out)⟩
          · rw [if_neg c12] at H
            have c12b0 : (a2.toList == ([104, 116, 116, 112, 58, 47, 47, 119, 119, 119, 46, 119, 51, 46, 111, 114, 103, 47, 50, 48, 48, 48, 47, 120, 109, 108, 110, 115, 47] : List UInt8)) = false := beq_eq_false_iff_ne.mpr c12
            have c12b1 : (a2.toList != ([104, 116, 116, 112, 58, 47, 47, 119, 119, 119, 46, 119, 51, 46, 111, 114, 103, 47, 50, 48, 48, 48, 47, 120, 109, 108, 110, 115, 47] : List UInt8)) = true := bne_iff_ne.mpr c12
            by_cases c13 : a2.toList = ([] : List UInt8)
            · rw [if_pos c13] at H
              have c13b0 : (a2.toList == ([] : List UInt8)) = true := beq_iff_eq.mpr c13
              have c13b1 : (a2.toList != ([] : List UInt8)) = false := bne_eq_false_iff_eq.mpr c13
              have c13b2 : a2.toList.isEmpty = true := by simpa using c13
              clear c13
              obtain rfl := Option.some.inj H
              go_wp2
              go_ret
              exact ⟨by first | rfl | (simp [errW_none, errW_some] <;> rfl) | (simp [*, errW_none, errW_some] <;> rfl), by repeat (first | (with_reducible first | exact HB.out | apply below_alloc | apply pw_below_drewN | apply below_drew1) | exact HB.out)⟩
            · rw [if_neg c13] at H
              have c13b0 : (a2.toList == ([] : List UInt8)) = false := beq_eq_false_iff_ne.mpr c13
              have c13b1 : (a2.toList != ([] : List UInt8)) = true := bne_iff_ne.mpr c13
              have c13b2 : a2.toList.isEmpty = false := by simpa using c13
              obtain rfl := Option.some.inj H
              go_wp2
              go_ret
              exact ⟨by first | rfl | (simp [errW_none, errW_some] <;> rfl) | (simp [*, errW_none, errW_some] <;> rfl), by repeat (first | (with_reducible first | exact HB.out | apply below_alloc | apply pw_below_drewN | apply below_drew1) | exact HB.out)⟩

/-- THE ONE PURE STATEMENT of ns_wrong: yours. -/
def ns_wrong.Pure : Prop := ∀ (a0 : ByteArray) (a1 : ByteArray) (a2 : ByteArray), a0.size ≤ 140737488351232 → a1.size ≤ 140737488351232 → a2.size ≤ 140737488351232 → ∃ k, ns_wrong.f k a0 a1 a2 = some true
theorem ns_wrong.walk (P : ns_wrong.Pure) (a0 : ByteArray) (a1 : ByteArray) (a2 : ByteArray) (w : World) (w0 : a0.size ≤ 140737488351232) (w1 : a1.size ≤ 140737488351232) (w2 : a2.size ≤ 140737488351232) :
    Calls Try.prog 16 #[.string a0, .string a1, .string a2] w fun e w' => e = .returned (.bool true) ∧ Below w.heap.size w w' := by
  obtain ⟨k, h⟩ := P a0 a1 a2 w0 w1 w2
  refine (ns_wrong.calls k a0 a1 a2 true w h).mono ?_
  rintro e w' ⟨rfl, hd⟩
  exact ⟨rfl, hd⟩

-- NOT PRINTED: function 34 (stringslite_HasPrefix)

-- NOT PRINTED: function 31 (stringslite_CutPrefix)

/-! ### strings_CutPrefix: function 23 -/
def strings_CutPrefix.f (a0 a1 : ByteArray) : Option (ByteArray × Bool) := some (⟨(Lib.trimPrefix a0.data.toList a1.data.toList).toArray⟩, Lib.hasPrefix a0.data.toList a1.data.toList)
theorem strings_CutPrefix.calls (a0 : ByteArray) (a1 : ByteArray) (r1 : ByteArray) (r2 : Bool) (w : World) (h : strings_CutPrefix.f a0 a1 = some (r1, r2)) :
    Calls Try.prog 23 #[.string a0, .string a1] w fun e w' => e = .returned (.tuple #[.string r1, .bool r2]) ∧ Drawn0 w w' := by
  unfold strings_CutPrefix.f at h
  simp only [Option.some.injEq, Prod.mk.injEq] at h
  obtain ⟨rfl, rfl⟩ := h
  refine (Try.strings_CutPrefix a0 a1 w).mono fun e w' hh => ?_
  obtain ⟨rfl, rfl⟩ := hh
  exact ⟨rfl, Drawn0.refl _⟩

/-! ### ns_binds: function 15 -/
def ns_binds.f (a0 : ByteArray) : Option (ByteArray × Bool) := if a0.toList = ([120, 109, 108, 110, 115] : List UInt8) then (some ((⟨#[]⟩ : ByteArray), true)) else ((strings_CutPrefix.f a0 (⟨#[120, 109, 108, 110, 115, 58]⟩ : ByteArray)).bind fun bt120 => (some (bt120.1, bt120.2)))
set_option maxHeartbeats 8000000 in
set_option maxRecDepth 100000 in
theorem ns_binds.calls (a0 : ByteArray) (r1 : ByteArray) (r2 : Bool) (w : World) (h : ns_binds.f a0 = some (r1, r2)) :
    Calls Try.prog 15 #[.string a0] w fun e w' => e = .returned (.tuple #[.string r1, .bool r2]) ∧ Drawn0 w w' := by
  have H : (if a0.toList = ([120, 109, 108, 110, 115] : List UInt8) then (some ((⟨#[]⟩ : ByteArray), true)) else ((strings_CutPrefix.f a0 (⟨#[120, 109, 108, 110, 115, 58]⟩ : ByteArray)).bind fun bt120 => (some (bt120.1, bt120.2)))) = some (r1, r2) := h
  clear h
  by_cases c2 : a0.toList = ([120, 109, 108, 110, 115] : List UInt8)
  · rw [if_pos c2] at H
    have c2b0 : (a0.toList == ([120, 109, 108, 110, 115] : List UInt8)) = true := beq_iff_eq.mpr c2
    have c2b1 : (a0.toList != ([120, 109, 108, 110, 115] : List UInt8)) = false := bne_eq_false_iff_eq.mpr c2
    clear c2
    simp only [Option.some.injEq, Prod.mk.injEq] at H
    obtain ⟨rfl, rfl⟩ := H
    go_enter Try.func15, Try.ntmps15
    go_wp2
    go_ret2
    exact ⟨by first | rfl | (simp; done) | (simp [*]; done), by repeat (first | exact Drawn0.refl _ | apply Drawn0.step)⟩
  · rw [if_neg c2] at H
    have c2b0 : (a0.toList == ([120, 109, 108, 110, 115] : List UInt8)) = false := beq_eq_false_iff_ne.mpr c2
    have c2b1 : (a0.toList != ([120, 109, 108, 110, 115] : List UInt8)) = true := bne_iff_ne.mpr c2
    replace H := Option.bind_eq_some_iff.mp H
    obtain ⟨⟨t120, t121⟩, A30, H⟩ := H
    replace H : (some (t120, t121)) = some (r1, r2) := H
    have A3 := Aside0.mk A30
    clear A30
    simp only [Option.some.injEq, Prod.mk.injEq] at H
    obtain ⟨rfl, rfl⟩ := H
    go_enter Try.func15, Try.ntmps15
    go_wp2_with (first | ((with_reducible refine gate_callee (f := 23) rfl ?_); refine goesL_ (some 7) rfl rfl Try.func23 (by kernel_rfl) rfl #[.string a0, .string (⟨#[120, 109, 108, 110, 115, 58]⟩ : ByteArray)] rfl (by (try simp only [List.map_toArray, List.map_cons, List.map_nil]); first | done | rfl | (simp only [List.length_drop, List.length_take]; rfl)) ?_; (with_reducible refine (strings_CutPrefix.calls a0 (⟨#[120, 109, 108, 110, 115, 58]⟩ : ByteArray) t120 t121 _ A3.out).mono ?_); rintro e w' ⟨rfl, ⟨nd, rfl⟩⟩; refine ⟨_, rfl, ?_⟩))
    go_ret2
    exact ⟨by first | rfl | (simp; done) | (simp [*]; done), by repeat (first | exact Drawn0.refl _ | apply Drawn0.step)⟩

-- NOT PRINTED: function 67 (bytealg_IndexString)

-- NOT PRINTED: function 68 (bytealg_Cutover)

-- NOT PRINTED: function 71 (bytealg_hashStr_string)

-- NOT PRINTED: function 69 (bytealg_IndexRabinKarp_string)

-- NOT PRINTED: function 58 (stringslite_Index)

-- NOT PRINTED: function 43 (stringslite_Cut)

/-! ### strings_Cut: function 35 -/
/-- strings.Cut at a separator of one byte. -/
def strings_Cut.f (a0 a1 : ByteArray) : Option (ByteArray × ByteArray × Bool) :=
  if a0.size < 140737488355328 then match a1.data.toList with
  | [c] => if Lib.indexByte a0.data.toList c < 0 then some (a0, ⟨#[]⟩, false) else some (a0.extract 0 (Lib.indexByte a0.data.toList c).toNat, a0.extract ((Lib.indexByte a0.data.toList c).toNat + 1) a0.size, true)
  | _ => none
  else none
theorem indexByte_range (l : List UInt8) (c : UInt8) : -1 ≤ Lib.indexByte l c ∧ Lib.indexByte l c < l.length := by
  induction l with
  | nil => simp [Lib.indexByte]
  | cons b l ih =>
    unfold Lib.indexByte
    simp only [List.length_cons]
    split
    · omega
    · split
      · omega
      · omega
set_option maxHeartbeats 1600000 in
set_option maxRecDepth 100000 in
theorem cut_no (a0 : ByteArray) (c : UInt8) (w : World) (hi : Lib.indexByte a0.data.toList c < 0) :
    Calls Try.prog 43 #[.string a0, .string ⟨#[c]⟩] w fun e w' => e = .returned (.tuple #[.string a0, .string ⟨#[]⟩, .bool false]) ∧ Drawn0 w w' := by
  have hd : decide (Lib.indexByte a0.data.toList c ≥ 0) = false := by rw [decide_eq_false_iff_not]; omega
  go_enter Try.func43, Try.ntmps43
  go_wp2_with (go_at_call 58; (with_reducible refine (Try.stringslite_Index_one a0 c _).mono ?_); rintro e w' ⟨rfl, rfl⟩)
  go_ret3
  exact ⟨by first | rfl | (simp; done) | (simp [*]; done), by repeat (first | exact Drawn0.refl _ | apply Drawn0.step)⟩
set_option maxHeartbeats 1600000 in
set_option maxRecDepth 100000 in
theorem cut_yes (a0 : ByteArray) (c : UInt8) (i : Nat) (w : World) (hi : Lib.indexByte a0.data.toList c = i) (hs : i < a0.size) (hz : a0.size < 140737488355328) :
    Calls Try.prog 43 #[.string a0, .string ⟨#[c]⟩] w fun e w' => e = .returned (.tuple #[.string (a0.extract 0 i), .string (a0.extract (i + 1) a0.size), .bool true]) ∧ Drawn0 w w' := by
  have HI := Aside0.mk hi
  clear hi
  have c1 : (0 : Int) ≤ ↑i := by omega
  have c0 : IntKind.i64.wrap ((i : Int) + 1) = (i : Int) + 1 := IntWalk.i64_in _ (by omega)
  have c5 : ((i : Int) + 1).toNat = i + 1 := by omega
  have c2 : (↑i : Int) ≤ ↑a0.size := by omega
  have c3 : (0 : Int) ≤ ↑i + 1 := by omega
  have c4 : (↑i + 1 : Int) ≤ ↑a0.size := by omega
  go_enter Try.func43, Try.ntmps43
  go_wp2_with (go_at_call 58; (with_reducible refine (Try.stringslite_Index_one a0 c _).mono ?_); rintro e w' ⟨rfl, rfl⟩; rw [HI.out])
  go_region
  all_goals
    go_wp2
    go_ret3
    exact ⟨by first | rfl | (simp; done) | (simp [*]; done), ⟨⟨1, rfl⟩⟩⟩
theorem strings_Cut.calls (a0 : ByteArray) (a1 : ByteArray) (r1 : ByteArray) (r2 : ByteArray) (r3 : Bool) (w : World) (h : strings_Cut.f a0 a1 = some (r1, r2, r3)) :
    Calls Try.prog 35 #[.string a0, .string a1] w fun e w' => e = .returned (.tuple #[.string r1, .string r2, .bool r3]) ∧ Drawn0 w w' := by
  have key : Calls Try.prog 43 #[.string a0, .string a1] w fun e w' => e = .returned (.tuple #[.string r1, .string r2, .bool r3]) ∧ Drawn0 w w' := by
    unfold strings_Cut.f at h
    obtain ⟨⟨l1⟩⟩ := a1
    by_cases hz : a0.size < 140737488355328
    rotate_left
    · rw [if_neg hz] at h; exact absurd h (by simp)
    rw [if_pos hz] at h
    match l1, h with
    | [c], h =>
      simp only [] at h
      have hr := indexByte_range a0.data.toList c
      by_cases hi : Lib.indexByte a0.data.toList c < 0
      · rw [if_pos hi] at h
        simp only [Option.some.injEq, Prod.mk.injEq] at h
        obtain ⟨rfl, rfl, rfl⟩ := h
        exact cut_no a0 c w hi
      · rw [if_neg hi] at h
        simp only [Option.some.injEq, Prod.mk.injEq] at h
        obtain ⟨rfl, rfl, rfl⟩ := h
        obtain ⟨i, hi'⟩ : ∃ i : Nat, Lib.indexByte a0.data.toList c = i := ⟨(Lib.indexByte a0.data.toList c).toNat, by omega⟩
        rw [hi', Int.toNat_natCast]
        have hs : i < a0.size := by
          have := hr.2
          rw [hi', data_length] at this
          omega
        exact cut_yes a0 c i w hi' hs hz
  go_enter Try.func35, Try.ntmps35
  go_wp2_with fail
  refine key.mono ?_
  rintro e w' ⟨rfl, ⟨nd, rfl⟩⟩
  go_wp2
  go_ret3
  exact ⟨by first | rfl | (simp; done) | (simp [*]; done), by repeat (first | exact Drawn0.refl _ | apply Drawn0.step)⟩

/-! ### char_QName: function 26 -/
def char_QName.j0 : Nat → ByteArray → ByteArray → Bool → Option (ByteArray × ByteArray × Bool)
  | 0, _, _, _ => none
  | k + 1, x5, x6, x7 => if x7 = true then ((char_NCName.f k x5).bind fun t125 => (if t125 = true then ((char_NCName.f k x6).bind fun t126 => (if t126 = true then (some (x5, x6, true)) else (some ((⟨#[]⟩ : ByteArray), (⟨#[]⟩ : ByteArray), false)))) else (some ((⟨#[]⟩ : ByteArray), (⟨#[]⟩ : ByteArray), false)))) else ((char_NCName.f k x6).bind fun t127 => (if t127 = true then (some (x5, x6, true)) else (some ((⟨#[]⟩ : ByteArray), (⟨#[]⟩ : ByteArray), false))))
def char_QName.f (k : Nat) (a0 : ByteArray) : Option (ByteArray × ByteArray × Bool) := (strings_Cut.f a0 (⟨#[58]⟩ : ByteArray)).bind fun bt122 => (if bt122.2.2 = true then (char_QName.j0 k bt122.1 bt122.2.1 bt122.2.2) else (char_QName.j0 k (⟨#[]⟩ : ByteArray) a0 bt122.2.2))
theorem char_QName.mono_l : ∀ k, (∀ y0 y1 y2, LeO (char_QName.j0 k y0 y1 y2) (char_QName.j0 (k + 1) y0 y1 y2))
  | 0 => fun _ _ _ r h => by simp [char_QName.j0] at h
  | k + 1 => by
    have ih0 := char_QName.mono_l k
    · intro y0 y1 y2
      unfold char_QName.j0
      repeat' first
      | (with_reducible exact ih0 _ _ _)
      | (with_reducible exact char_NCName.mono _ _)
      | (with_reducible exact LeO.refl _)
      | (with_reducible exact LeO.none _)
      | (with_reducible refine LeO.ite ?_ ?_)
      | (with_reducible refine LeO.bind ?_ (fun _ => ?_))
      | exact ih0 _ _ _
      | exact char_NCName.mono _ _
      | exact LeO.none _
      | refine LeO.ite ?_ ?_
      | refine LeO.bind ?_ (fun _ => ?_)
theorem char_QName.mono : ∀ a0 k, LeO (char_QName.f k a0) (char_QName.f (k + 1) a0) := by
  intro a0 k
  have ih0 := char_QName.mono_l k
  unfold char_QName.f
  repeat' first
      | (with_reducible exact ih0 _ _ _)
      | (with_reducible exact char_NCName.mono _ _)
      | (with_reducible exact LeO.refl _)
      | (with_reducible exact LeO.none _)
      | (with_reducible refine LeO.ite ?_ ?_)
      | (with_reducible refine LeO.bind ?_ (fun _ => ?_))
      | exact ih0 _ _ _
      | exact char_NCName.mono _ _
      | exact LeO.none _
      | refine LeO.ite ?_ ?_
      | refine LeO.bind ?_ (fun _ => ?_)
set_option maxHeartbeats 8000000 in
set_option maxRecDepth 100000 in
theorem char_QName.calls (k : Nat) (a0 : ByteArray) (r1 : ByteArray) (r2 : ByteArray) (r3 : Bool) (w : World) (h : char_QName.f k a0 = some (r1, r2, r3)) :
    Calls Try.prog 26 #[.string a0] w fun e w' => e = .returned (.tuple #[.string r1, .string r2, .bool r3]) ∧ Below w.heap.size w w' := by
  have HB := Aside0.mk (Below.refl w.heap.size w)
  have H : ((strings_Cut.f a0 (⟨#[58]⟩ : ByteArray)).bind fun bt122 => (if bt122.2.2 = true then (char_QName.j0 k bt122.1 bt122.2.1 bt122.2.2) else (char_QName.j0 k (⟨#[]⟩ : ByteArray) a0 bt122.2.2))) = some (r1, r2, r3) := h
  clear h
  replace H := Option.bind_eq_some_iff.mp H
  obtain ⟨⟨t122, t123, t124⟩, A20, H⟩ := H
  replace H : (if t124 = true then (char_QName.j0 k t122 t123 t124) else (char_QName.j0 k (⟨#[]⟩ : ByteArray) a0 t124)) = some (r1, r2, r3) := H
  have A2 := Aside0.mk A20
  clear A20
  have HC3 := Aside0.mk H
  clear H
  go_enter Try.func26, Try.ntmps26
  go_upto_if 15 with (first | ((with_reducible refine gate_callee (f := 35) rfl ?_); refine goesL_ (some 10) rfl rfl Try.func35 (by kernel_rfl) rfl #[.string a0, .string (⟨#[58]⟩ : ByteArray)] rfl (by (try simp only [List.map_toArray, List.map_cons, List.map_nil]); first | done | rfl | (simp only [List.length_drop, List.length_take]; rfl)) ?_; (with_reducible refine (strings_Cut.calls a0 (⟨#[58]⟩ : ByteArray) t122 t123 t124 _ A2.out).mono ?_); rintro e w' ⟨rfl, ⟨nd, rfl⟩⟩; refine ⟨_, rfl, ?_⟩))
  (try simp only [Act.put, List.setIfInBounds_toArray, List.set_cons_zero, List.set_cons_succ])
  go_cut [5, 6] (fun v5 v6 wc => ∃ (kq : Nat) (x5_2 : ByteArray) (x6_2 : ByteArray), v5 = .string x5_2 ∧ v6 = .string x6_2 ∧ Aside0 (char_QName.j0 kq x5_2 x6_2 t124 = some (r1, r2, r3)) ∧ Aside0 (kq ≤ k) ∧ Aside0 (Below w.heap.size w wc))
  case first =>
    have H := HC3.out
    clear HC3
    by_cases c4 : t124 = true
    · subst c4
      have H1 : (char_QName.j0 k t122 t123 true) = some (r1, r2, r3) := by rw [if_pos rfl] at H; exact H
      clear H
      have H := H1
      clear H1
      have H' := Aside0.mk H
      clear H
      go_wp2
      go_meet
      case rel => exact ⟨_, (t122), (t123), (by first | rfl | (simp; done) | (simp [*]; done)), (by first | rfl | (simp; done) | (simp [*]; done)), H', ⟨by first | omega | exact Nat.le_refl _⟩, ⟨by repeat (first | (with_reducible first | exact HB.out | apply below_alloc | apply pw_below_drewN | apply below_drew1) | exact HB.out)⟩⟩
    · replace c4 := Bool.eq_false_iff.mpr c4
      subst c4
      have H1 : (char_QName.j0 k (⟨#[]⟩ : ByteArray) a0 false) = some (r1, r2, r3) := by rw [if_neg (show ¬ (false = true) by decide)] at H; exact H
      clear H
      have H := H1
      clear H1
      have H' := Aside0.mk H
      clear H
      go_wp2
      go_meet
      case rel => exact ⟨_, ((⟨#[]⟩ : ByteArray)), (a0), (by first | rfl | (simp; done) | (simp [*]; done)), (by first | rfl | (simp; done) | (simp [*]; done)), H', ⟨by first | omega | exact Nat.le_refl _⟩, ⟨by repeat (first | (with_reducible first | exact HB.out | apply below_alloc | apply pw_below_drewN | apply below_drew1) | exact HB.out)⟩⟩
  case rest =>
    clear HC3
    try clear c2
    try clear p2
    try clear c3
    try clear c4
    obtain ⟨kq, x5_2, x6_2, rfl, rfl, HA, HJ2, HB⟩ := hcut
    cases kq with
    | zero => exact absurd HA.out (by simp [char_QName.j0])
    | succ kj2 =>
      have H := HA.out
      clear HA
      simp only [char_QName.j0] at H
      by_cases c5 : t124 = true
      · subst c5
        have H1 : ((char_NCName.f kj2 x5_2).bind fun t125 => (if t125 = true then ((char_NCName.f kj2 x6_2).bind fun t126 => (if t126 = true then (some (x5_2, x6_2, true)) else (some ((⟨#[]⟩ : ByteArray), (⟨#[]⟩ : ByteArray), false)))) else (some ((⟨#[]⟩ : ByteArray), (⟨#[]⟩ : ByteArray), false)))) = some (r1, r2, r3) := by rw [if_pos rfl] at H; exact H
        clear H
        have H := H1
        clear H1
        replace H := Option.bind_eq_some_iff.mp H
        obtain ⟨t125, A60, H⟩ := H
        replace H : (if t125 = true then ((char_NCName.f kj2 x6_2).bind fun t126 => (if t126 = true then (some (x5_2, x6_2, true)) else (some ((⟨#[]⟩ : ByteArray), (⟨#[]⟩ : ByteArray), false)))) else (some ((⟨#[]⟩ : ByteArray), (⟨#[]⟩ : ByteArray), false))) = some (r1, r2, r3) := H
        have A6 := Aside0.mk A60
        clear A60
        by_cases c7 : t125 = true
        · subst c7
          have H1 : ((char_NCName.f kj2 x6_2).bind fun t126 => (if t126 = true then (some (x5_2, x6_2, true)) else (some ((⟨#[]⟩ : ByteArray), (⟨#[]⟩ : ByteArray), false)))) = some (r1, r2, r3) := by rw [if_pos rfl] at H; exact H
          clear H
          have H := H1
          clear H1
          replace H := Option.bind_eq_some_iff.mp H
          obtain ⟨t126, A80, H⟩ := H
          replace H : (if t126 = true then (some (x5_2, x6_2, true)) else (some ((⟨#[]⟩ : ByteArray), (⟨#[]⟩ : ByteArray), false))) = some (r1, r2, r3) := H
          have A8 := Aside0.mk A80
          clear A80
          by_cases c9 : t126 = true
          · subst c9
            have H1 : (some (x5_2, x6_2, true)) = some (r1, r2, r3) := by rw [if_pos rfl] at H; exact H
            clear H
            have H := H1
            clear H1
            simp only [Option.some.injEq, Prod.mk.injEq] at H
            obtain ⟨rfl, rfl, rfl⟩ := H
            go_wp2_with (first | (go_at_call 24; (with_reducible refine (char_NCName.calls kj2 x5_2 true _ A6.out).mono ?_); rintro e w10 ⟨rfl, hb⟩; have n0_ := Aside0.mk (below_step (by repeat (first | (with_reducible first | exact HB.out | apply below_alloc | apply pw_below_drewN | apply below_drew1) | exact HB.out)) hb); clear HB; have HB := n0_; clear n0_; (try clear hb); (try clear hb2); (try clear hk); (try clear hi)) | (go_at_call 24; (with_reducible refine (char_NCName.calls kj2 x6_2 true _ A8.out).mono ?_); rintro e w11 ⟨rfl, hb⟩; have n0_ := Aside0.mk (below_step (by repeat (first | (with_reducible first | exact HB.out | apply below_alloc | apply pw_below_drewN | apply below_drew1) | exact HB.out)) hb); clear HB; have HB := n0_; clear n0_; (try clear hb); (try clear hb2); (try clear hk); (try clear hi)))
            go_ret3
            exact ⟨by first | rfl | (simp [errW_none, errW_some] <;> rfl) | (simp [*, errW_none, errW_some] <;> rfl), by repeat (first | (with_reducible first | exact HB.out | apply below_alloc | apply pw_below_drewN | apply below_drew1) | exact HB.out)⟩
          · replace c9 := Bool.eq_false_iff.mpr c9
            subst c9
            have H1 : (some ((⟨#[]⟩ : ByteArray), (⟨#[]⟩ : ByteArray), false)) = some (r1, r2, r3) := by rw [if_neg (show ¬ (false = true) by decide)] at H; exact H
            clear H
            have H := H1
            clear H1
            simp only [Option.some.injEq, Prod.mk.injEq] at H
            obtain ⟨rfl, rfl, rfl⟩ := H
            go_wp2_with (first | (go_at_call 24; (with_reducible refine (char_NCName.calls kj2 x5_2 true _ A6.out).mono ?_); rintro e w12 ⟨rfl, hb⟩; have n0_ := Aside0.mk (below_step (by repeat (first | (with_reducible first | exact HB.out | apply below_alloc | apply pw_below_drewN | apply below_drew1) | exact HB.out)) hb); clear HB; have HB := n0_; clear n0_; (try clear hb); (try clear hb2); (try clear hk); (try clear hi)) | (go_at_call 24; (with_reducible refine (char_NCName.calls kj2 x6_2 false _ A8.out).mono ?_); rintro e w13 ⟨rfl, hb⟩; have n0_ := Aside0.mk (below_step (by repeat (first | (with_reducible first | exact HB.out | apply below_alloc | apply pw_below_drewN | apply below_drew1) | exact HB.out)) hb); clear HB; have HB := n0_; clear n0_; (try clear hb); (try clear hb2); (try clear hk); (try clear hi)))
            go_ret3
            exact ⟨by first | rfl | (simp [errW_none, errW_some] <;> rfl) | (simp [*, errW_none, errW_some] <;> rfl), by repeat (first | (with_reducible first | exact HB.out | apply below_alloc | apply pw_below_drewN | apply below_drew1) | exact HB.out)⟩
        · replace c7 := Bool.eq_false_iff.mpr c7
          subst c7
          have H1 : (some ((⟨#[]⟩ : ByteArray), (⟨#[]⟩ : ByteArray), false)) = some (r1, r2, r3) := by rw [if_neg (show ¬ (false = true) by decide)] at H; exact H
          clear H
          have H := H1
          clear H1
          simp only [Option.some.injEq, Prod.mk.injEq] at H
          obtain ⟨rfl, rfl, rfl⟩ := H
          go_wp2_with (first | (go_at_call 24; (with_reducible refine (char_NCName.calls kj2 x5_2 false _ A6.out).mono ?_); rintro e w14 ⟨rfl, hb⟩; have n0_ := Aside0.mk (below_step (by repeat (first | (with_reducible first | exact HB.out | apply below_alloc | apply pw_below_drewN | apply below_drew1) | exact HB.out)) hb); clear HB; have HB := n0_; clear n0_; (try clear hb); (try clear hb2); (try clear hk); (try clear hi)))
          go_ret3
          exact ⟨by first | rfl | (simp [errW_none, errW_some] <;> rfl) | (simp [*, errW_none, errW_some] <;> rfl), by repeat (first | (with_reducible first | exact HB.out | apply below_alloc | apply pw_below_drewN | apply below_drew1) | exact HB.out)⟩
      · replace c5 := Bool.eq_false_iff.mpr c5
        subst c5
        have H1 : ((char_NCName.f kj2 x6_2).bind fun t127 => (if t127 = true then (some (x5_2, x6_2, true)) else (some ((⟨#[]⟩ : ByteArray), (⟨#[]⟩ : ByteArray), false)))) = some (r1, r2, r3) := by rw [if_neg (show ¬ (false = true) by decide)] at H; exact H
        clear H
        have H := H1
        clear H1
        replace H := Option.bind_eq_some_iff.mp H
        obtain ⟨t127, A150, H⟩ := H
        replace H : (if t127 = true then (some (x5_2, x6_2, true)) else (some ((⟨#[]⟩ : ByteArray), (⟨#[]⟩ : ByteArray), false))) = some (r1, r2, r3) := H
        have A15 := Aside0.mk A150
        clear A150
        by_cases c16 : t127 = true
        · subst c16
          have H1 : (some (x5_2, x6_2, true)) = some (r1, r2, r3) := by rw [if_pos rfl] at H; exact H
          clear H
          have H := H1
          clear H1
          simp only [Option.some.injEq, Prod.mk.injEq] at H
          obtain ⟨rfl, rfl, rfl⟩ := H
          go_wp2_with (first | (go_at_call 24; (with_reducible refine (char_NCName.calls kj2 x6_2 true _ A15.out).mono ?_); rintro e w17 ⟨rfl, hb⟩; have n0_ := Aside0.mk (below_step (by repeat (first | (with_reducible first | exact HB.out | apply below_alloc | apply pw_below_drewN | apply below_drew1) | exact HB.out)) hb); clear HB; have HB := n0_; clear n0_; (try clear hb); (try clear hb2); (try clear hk); (try clear hi)))
          go_ret3
          exact ⟨by first | rfl | (simp [errW_none, errW_some] <;> rfl) | (simp [*, errW_none, errW_some] <;> rfl), by repeat (first | (with_reducible first | exact HB.out | apply below_alloc | apply pw_below_drewN | apply below_drew1) | exact HB.out)⟩
        · replace c16 := Bool.eq_false_iff.mpr c16
          subst c16
          have H1 : (some ((⟨#[]⟩ : ByteArray), (⟨#[]⟩ : ByteArray), false)) = some (r1, r2, r3) := by rw [if_neg (show ¬ (false = true) by decide)] at H; exact H
          clear H
          have H := H1
          clear H1
          simp only [Option.some.injEq, Prod.mk.injEq] at H
          obtain ⟨rfl, rfl, rfl⟩ := H
          go_wp2_with (first | (go_at_call 24; (with_reducible refine (char_NCName.calls kj2 x6_2 false _ A15.out).mono ?_); rintro e w18 ⟨rfl, hb⟩; have n0_ := Aside0.mk (below_step (by repeat (first | (with_reducible first | exact HB.out | apply below_alloc | apply pw_below_drewN | apply below_drew1) | exact HB.out)) hb); clear HB; have HB := n0_; clear n0_; (try clear hb); (try clear hb2); (try clear hk); (try clear hi)))
          go_ret3
          exact ⟨by first | rfl | (simp [errW_none, errW_some] <;> rfl) | (simp [*, errW_none, errW_some] <;> rfl), by repeat (first | (with_reducible first | exact HB.out | apply below_alloc | apply pw_below_drewN | apply below_drew1) | exact HB.out)⟩

/-! ### strings_HasPrefix: function 25 -/
def strings_HasPrefix.f (a0 a1 : ByteArray) : Option Bool := some (Lib.hasPrefix a0.data.toList a1.data.toList)
theorem strings_HasPrefix.calls (a0 : ByteArray) (a1 : ByteArray) (r : Bool) (w : World) (h : strings_HasPrefix.f a0 a1 = some r) :
    Calls Try.prog 25 #[.string a0, .string a1] w fun e w' => e = .returned (.bool r) ∧ Drawn0 w w' := by
  obtain rfl := Option.some.inj h
  refine (Try.strings_HasPrefix a0 a1 w).mono fun e w' hh => ?_
  obtain ⟨rfl, rfl⟩ := hh
  exact ⟨rfl, Drawn0.refl _⟩

end Go.Proofs.Ytdelafoijplleaa.PNsBase
