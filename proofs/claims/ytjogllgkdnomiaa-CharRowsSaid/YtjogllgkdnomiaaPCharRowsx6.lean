-- Written by a turned copy of the print (wip/print/mkprint.py): contracts proved by hand are joined in. Lean checks it.
import Derived.Test.YtjogllgkdnomiaaPCharRowsx0
import Derived.Test.YtjogllgkdnomiaaPCharRowsx1
import Derived.Test.YtjogllgkdnomiaaPCharRowsx3
import Derived.Test.YtjogllgkdnomiaaPCharRowsx4
import Derived.Test.YtjogllgkdnomiaaPCharRowsx5
namespace Go.Proofs.Ytjogllgkdnomiaa.PCharRows
open Go.RowKit Go.Proofs.YtjogllgkdnomiaaW.PrintWords Go.Proofs.YtjogllgkdnomiaaW.PrintLast Go.Proofs.YtjogllgkdnomiaaW.PrintMore
attribute [local go_sem] max2_int min2_int max_two min_two max_three min_three max_four min_four   -- for this text's walks alone
set_option linter.unusedVariables false
set_option linter.unusedSimpArgs false

/-! ### rubriclaw1_CharRows: function 8 -/
mutual
def rubriclaw1_CharRows.l0 : Nat → List Int → List Int → Int → List Int → Int → Option (Bool)
  | 0, _, _, _, _, _ => none
  | k + 1, x0, x3, x4, x5, x6 => if x6 < (x0.length : Int) then (if 0 ≤ x6 then ((char_Encode.f (rd x0 x6)).bind fun t157 => (if x3.length + t157.length < 140737488355328 then ((some (x3 ++ t157 : List Int)).bind fun y160 => (if (t157.length : Int) > 0 then (if x5.length < 35184372088832 then (rubriclaw1_CharRows.l0 k x0 y160 (wrap64 (x4 + 1)) (x5 ++ [rd x0 x6]) (wrap64 (x6 + 1))) else (none)) else (rubriclaw1_CharRows.l0 k x0 y160 x4 x5 (wrap64 (x6 + 1))))) else (none))) else (none)) else ((char_Count.f k (strOfNums x3)).bind fun t167 => (if t167 = x4 then (rubriclaw1_CharRows.l1 k x3 x5 0 true 0) else (some false)))
def rubriclaw1_CharRows.l1 : Nat → List Int → List Int → Int → Bool → Int → Option (Bool)
  | 0, _, _, _, _, _ => none
  | k + 1, x3, x5, x8, x9, x10 => if x10 < (x5.length : Int) then (if 0 ≤ x8 then (if x8 ≤ (x3.length : Int) then ((char_Decode.f (x3.drop (x8 : Int).toNat)).bind fun bt174 => (if 0 ≤ x10 then (if bt174.1 = (rd x5 x10) then (if bt174.2 < 1 then (some false) else (if bt174.2 > 4 then (some false) else (if x9 = true then ((char_Char.f bt174.1).bind fun t177 => (rubriclaw1_CharRows.l1 k x3 x5 (wrap64 (x8 + bt174.2)) t177 (wrap64 (x10 + 1)))) else (rubriclaw1_CharRows.l1 k x3 x5 (wrap64 (x8 + bt174.2)) false (wrap64 (x10 + 1)))))) else (some false)) else (none))) else (none)) else (none)) else ((char_Right.f k x3).bind fun bt168 => (if x8 = (x3.length : Int) then (some (bt168.2 == x9)) else (some false)))
end
def rubriclaw1_CharRows.f (k : Nat) (l0 : List Int) : Option (Bool) := (rubriclaw1_known.f k).bind fun t155 => (if t155 = true then (if (l0.length : Int) > 300 then (some true) else (rubriclaw1_CharRows.l0 k l0 ([] : List Int) 0 ([] : List Int) 0)) else (some false))
theorem rubriclaw1_CharRows.mono_l : ∀ k, (∀ y0 y1 y2 y3 y4, LeO (rubriclaw1_CharRows.l0 k y0 y1 y2 y3 y4) (rubriclaw1_CharRows.l0 (k + 1) y0 y1 y2 y3 y4)) ∧ (∀ y0 y1 y2 y3 y4, LeO (rubriclaw1_CharRows.l1 k y0 y1 y2 y3 y4) (rubriclaw1_CharRows.l1 (k + 1) y0 y1 y2 y3 y4))
  | 0 => ⟨fun _ _ _ _ _ r h => by simp [rubriclaw1_CharRows.l0] at h, fun _ _ _ _ _ r h => by simp [rubriclaw1_CharRows.l1] at h⟩
  | k + 1 => by
    obtain ⟨ih0, ih1⟩ := rubriclaw1_CharRows.mono_l k
    refine ⟨?_, ?_⟩
    · intro y0 y1 y2 y3 y4
      unfold rubriclaw1_CharRows.l0
      repeat' first
      | (with_reducible exact ih0 _ _ _ _ _)
      | (with_reducible exact ih1 _ _ _ _ _)
      | (with_reducible exact char_Count.mono _ _)
      | (with_reducible exact char_Right.mono _ _)
      | (with_reducible exact rubriclaw1_known.mono _)
      | (with_reducible exact LeO.refl _)
      | (with_reducible exact LeO.none _)
      | (with_reducible refine LeO.ite ?_ ?_)
      | (with_reducible refine LeO.bind ?_ (fun _ => ?_))
      | exact ih0 _ _ _ _ _
      | exact ih1 _ _ _ _ _
      | exact char_Count.mono _ _
      | exact char_Right.mono _ _
      | exact rubriclaw1_known.mono _
      | exact LeO.none _
      | refine LeO.ite ?_ ?_
      | refine LeO.bind ?_ (fun _ => ?_)
    · intro y0 y1 y2 y3 y4
      unfold rubriclaw1_CharRows.l1
      repeat' first
      | (with_reducible exact ih0 _ _ _ _ _)
      | (with_reducible exact ih1 _ _ _ _ _)
      | (with_reducible exact char_Count.mono _ _)
      | (with_reducible exact char_Right.mono _ _)
      | (with_reducible exact rubriclaw1_known.mono _)
      | (with_reducible exact LeO.refl _)
      | (with_reducible exact LeO.none _)
      | (with_reducible refine LeO.ite ?_ ?_)
      | (with_reducible refine LeO.bind ?_ (fun _ => ?_))
      | exact ih0 _ _ _ _ _
      | exact ih1 _ _ _ _ _
      | exact char_Count.mono _ _
      | exact char_Right.mono _ _
      | exact rubriclaw1_known.mono _
      | exact LeO.none _
      | refine LeO.ite ?_ ?_
      | refine LeO.bind ?_ (fun _ => ?_)
theorem rubriclaw1_CharRows.mono : ∀ a0 k, LeO (rubriclaw1_CharRows.f k a0) (rubriclaw1_CharRows.f (k + 1) a0) := by
  intro a0 k
  obtain ⟨ih0, ih1⟩ := rubriclaw1_CharRows.mono_l k
  unfold rubriclaw1_CharRows.f
  repeat' first
      | (with_reducible exact ih0 _ _ _ _ _)
      | (with_reducible exact ih1 _ _ _ _ _)
      | (with_reducible exact char_Count.mono _ _)
      | (with_reducible exact char_Right.mono _ _)
      | (with_reducible exact rubriclaw1_known.mono _)
      | (with_reducible exact LeO.refl _)
      | (with_reducible exact LeO.none _)
      | (with_reducible refine LeO.ite ?_ ?_)
      | (with_reducible refine LeO.bind ?_ (fun _ => ?_))
      | exact ih0 _ _ _ _ _
      | exact ih1 _ _ _ _ _
      | exact char_Count.mono _ _
      | exact char_Right.mono _ _
      | exact rubriclaw1_known.mono _
      | exact LeO.none _
      | refine LeO.ite ?_ ?_
      | refine LeO.bind ?_ (fun _ => ?_)
set_option maxHeartbeats 8000000 in
set_option maxRecDepth 100000 in
theorem rubriclaw1_CharRows.calls (k : Nat) (A0 : Option Addr) (c0 : Nat) (l0 : List Int) (r : Bool) (w : World) (hr0 : Kd.C (Kd.int .i32) w A0 l0.length l0) (hc0 : l0.length ≤ c0) (h : rubriclaw1_CharRows.f k l0 = some r) :
    Calls Try.prog 8 #[.slice A0 l0.length c0] w fun e w' => e = .returned (.bool r) ∧ Below w.heap.size w w' := by
  have HR0 := Aside0.mk hr0
  have HC0 := Aside0.mk hc0
  clear hr0 hc0
  have HB := Aside0.mk (Below.refl w.heap.size w)
  have H : ((rubriclaw1_known.f k).bind fun t155 => (if t155 = true then (if (l0.length : Int) > 300 then (some true) else (rubriclaw1_CharRows.l0 k l0 ([] : List Int) 0 ([] : List Int) 0)) else (some false))) = some r := h
  clear h
  replace H := Option.bind_eq_some_iff.mp H
  obtain ⟨t155, A20, H⟩ := H
  replace H : (if t155 = true then (if (l0.length : Int) > 300 then (some true) else (rubriclaw1_CharRows.l0 k l0 ([] : List Int) 0 ([] : List Int) 0)) else (some false)) = some r := H
  have A2 := Aside0.mk A20
  clear A20
  by_cases c3 : t155 = true
  · subst c3
    have H1 : (if (l0.length : Int) > 300 then (some true) else (rubriclaw1_CharRows.l0 k l0 ([] : List Int) 0 ([] : List Int) 0)) = some r := by rw [if_pos rfl] at H; exact H
    clear H
    have H := H1
    clear H1
    by_cases c4 : (l0.length : Int) > 300
    · rw [if_pos c4] at H
      have c4b0 : decide (300 < (l0.length : Int)) = true := decide_eq_true c4
      have c4b1 : decide (300 < l0.length) = true := decide_eq_true (by omega)
      clear c4
      obtain rfl := Option.some.inj H
      go_enter Try.func8, Try.ntmps8
      go_wp2_with (first | ((with_reducible refine gate_callee (f := 9) rfl ?_); refine goesL_ (some 15) rfl rfl Try.func9 (by kernel_rfl) rfl #[] rfl (by (try simp only [List.map_toArray, List.map_cons, List.map_nil]); first | done | rfl | (simp only [List.length_drop, List.length_take]; rfl)) ?_; (with_reducible refine (rubriclaw1_known.calls k  true _ A2.out).mono ?_); rintro e w5 ⟨rfl, hb⟩; refine ⟨_, rfl, ?_⟩; have n0_ := Aside0.mk (below_step (by repeat (first | (with_reducible first | exact HB.out | apply below_alloc | apply pw_below_drewN | apply below_drew1) | exact HB.out)) hb); clear HB; have HB := n0_; clear n0_; (try clear hb); (try clear hb2); (try clear hk); (try clear hi)))
      go_ret
      exact ⟨by first | rfl | (simp [errW_none, errW_some] <;> rfl) | (simp [*, errW_none, errW_some] <;> rfl), by repeat (first | (with_reducible first | exact HB.out | apply below_alloc | apply pw_below_drewN | apply below_drew1) | exact HB.out)⟩
    · rw [if_neg c4] at H
      have c4b0 : decide (300 < (l0.length : Int)) = false := decide_eq_false c4
      have c4b1 : decide (300 < l0.length) = false := decide_eq_false (by omega)
      clear c4
      have H' := Aside0.mk H
      clear H
      go_enter Try.func8, Try.ntmps8
      go_wp2_with (first | ((with_reducible refine gate_callee (f := 9) rfl ?_); refine goesL_ (some 15) rfl rfl Try.func9 (by kernel_rfl) rfl #[] rfl (by (try simp only [List.map_toArray, List.map_cons, List.map_nil]); first | done | rfl | (simp only [List.length_drop, List.length_take]; rfl)) ?_; (with_reducible refine (rubriclaw1_known.calls k  true _ A2.out).mono ?_); rintro e w6 ⟨rfl, hb⟩; refine ⟨_, rfl, ?_⟩; have n0_ := Aside0.mk (below_step (by repeat (first | (with_reducible first | exact HB.out | apply below_alloc | apply pw_below_drewN | apply below_drew1) | exact HB.out)) hb); clear HB; have HB := n0_; clear n0_; (try clear hb); (try clear hb2); (try clear hk); (try clear hi)))
      go_loopg [3, 4, 5, 6] k (fun kq v3 v4 v5 v6 w' => ∃ (x3_1 : List Int) (x4_1 : Int) (x5_1 : List Int) (x6_1 : Int), v4 = .int .i64 x4_1 ∧ v6 = .int .i64 x6_1 ∧ Aside0 (rubriclaw1_CharRows.l0 kq l0 x3_1 x4_1 x5_1 x6_1 = some r) ∧ Aside0 (kq ≤ k) ∧ Aside0 (Kd.R (Kd.int .u8) 5 w' w.heap.size (fun _ => True) v3 x3_1) ∧ Aside0 (Kd.R (Kd.int .i32) 21 w' w.heap.size (fun _ => True) v5 x5_1) ∧ Aside0 (Below w.heap.size w w'))
      case atStart => exact ⟨(([] : List Int)), (0), (([] : List Int)), (0), (by first | rfl | (simp; done) | (simp [*]; done)), (by first | rfl | (simp; done) | (simp [*]; done)), H', ⟨Nat.le_refl _⟩, ⟨by first | exact Kd.R_nil _ _ _ _ _ | exact Kd.N_nil _ _ _ _ _ | exact Kd.V_nil _ _ _ _ _ | exact Kd.Q_nil _ _ _ _ _ | exact Kd.S_nil _ _ _ _ _⟩, ⟨by first | exact Kd.R_nil _ _ _ _ _ | exact Kd.N_nil _ _ _ _ _ | exact Kd.V_nil _ _ _ _ _ | exact Kd.Q_nil _ _ _ _ _ | exact Kd.S_nil _ _ _ _ _⟩, ⟨by repeat (first | (with_reducible first | exact HB.out | apply below_alloc | apply pw_below_drewN | apply below_drew1) | exact HB.out)⟩⟩
      case round =>
        clear H'
        try clear p2
        try clear c3
        try clear c4
        try clear c4b0
        try clear c4b1
        obtain ⟨x3_1, x4_1, x5_1, x6_1, rfl, rfl, HA, HK1, HO_3, HO_5, HB⟩ := hrel
        cases gk with
        | zero => exact absurd HA.out (by simp [rubriclaw1_CharRows.l0])
        | succ k1 =>
          have H := HA.out
          clear HA
          simp only [rubriclaw1_CharRows.l0] at H
          by_cases c7 : x6_1 < (l0.length : Int)
          · rw [if_pos c7] at H
            have c7b0 : decide (x6_1 < (l0.length : Int)) = true := decide_eq_true c7
            clear c7
            by_cases c8 : 0 ≤ x6_1
            · rw [if_pos c8] at H
              have c8b0 : decide (0 ≤ x6_1) = true := decide_eq_true c8
              clear c8
              replace H := Option.bind_eq_some_iff.mp H
              obtain ⟨t157, A90, H⟩ := H
              replace H : (if x3_1.length + t157.length < 140737488355328 then ((some (x3_1 ++ t157 : List Int)).bind fun y160 => (if (t157.length : Int) > 0 then (if x5_1.length < 35184372088832 then (rubriclaw1_CharRows.l0 k1 l0 y160 (wrap64 (x4_1 + 1)) (x5_1 ++ [rd l0 x6_1]) (wrap64 (x6_1 + 1))) else (none)) else (rubriclaw1_CharRows.l0 k1 l0 y160 x4_1 x5_1 (wrap64 (x6_1 + 1))))) else (none)) = some r := H
              have A9 := Aside0.mk A90
              clear A90
              by_cases c10 : x3_1.length + t157.length < 140737488355328
              · rw [if_pos c10] at H
                have LMc10 := Aside0.mk c10
                clear c10
                obtain ⟨y160, hy160⟩ : ∃ y_ : List Int, y_ = (x3_1 ++ t157) := ⟨_, rfl⟩
                replace H : (if (t157.length : Int) > 0 then (if x5_1.length < 35184372088832 then (rubriclaw1_CharRows.l0 k1 l0 y160 (wrap64 (x4_1 + 1)) (x5_1 ++ [rd l0 x6_1]) (wrap64 (x6_1 + 1))) else (none)) else (rubriclaw1_CharRows.l0 k1 l0 y160 x4_1 x5_1 (wrap64 (x6_1 + 1)))) = some r := by first | (rw [hy160]; with_reducible exact H) | (have H2_ := (Option.bind_some _ _).symm.trans H; rw [hy160]; with_reducible exact H2_) | (have H2_ := (Option.bind_some _ _).symm.trans H; with_reducible exact H2_) | with_reducible exact H | (rw [hy160]; exact H) | exact H
                have Ny160 := Aside0.mk hy160
                clear hy160
                by_cases c11 : (t157.length : Int) > 0
                · rw [if_pos c11] at H
                  have c11b0 : decide (0 < (t157.length : Int)) = true := decide_eq_true c11
                  have c11b1 : decide (0 < t157.length) = true := decide_eq_true (by omega)
                  clear c11
                  by_cases c12 : x5_1.length < 35184372088832
                  · rw [if_pos c12] at H
                    have LMc12 := Aside0.mk c12
                    clear c12
                    obtain ⟨y164, hy164⟩ : ∃ y_ : List Int, y_ = (x5_1 ++ [rd l0 x6_1]) := ⟨_, rfl⟩
                    replace H : (rubriclaw1_CharRows.l0 k1 l0 y160 (wrap64 (x4_1 + 1)) y164 (wrap64 (x6_1 + 1))) = some r := by first | (rw [hy164]; with_reducible exact H) | (have H2_ := (Option.bind_some _ _).symm.trans H; rw [hy164]; with_reducible exact H2_) | (have H2_ := (Option.bind_some _ _).symm.trans H; with_reducible exact H2_) | with_reducible exact H | (rw [hy164]; exact H) | exact H
                    have Ny164 := Aside0.mk hy164
                    clear hy164
                    have H' := Aside0.mk H
                    clear H
                    have p156 : 0 ≤ (x6_1 : Int) := of_decide_eq_true (by first | (with_reducible assumption) | assumption)
                    have q156 : x6_1 < (l0.length : Int) := of_decide_eq_true (by first | (with_reducible assumption) | assumption)
                    obtain ⟨ad156, e156, hx156_0⟩ := Kd.at_int HR0.out x6_1 p156 q156
                    cases e156
                    replace hx156_0 := (HB.out.cell (World.block_lt_of_cell? w _ hx156_0)).trans hx156_0
                    replace p156 := eq_true p156
                    replace q156 := eq_true q156
                    go_wp2_with (first | ((with_reducible refine gate_callee (f := 29) rfl ?_); refine goesL_ (some 30) rfl rfl Try.func29 (by kernel_rfl) rfl #[.int .i32 (rd l0 x6_1)] rfl (by (try simp only [List.map_toArray, List.map_cons, List.map_nil]); first | done | rfl | (simp only [List.length_drop, List.length_take]; rfl)) ?_; (with_reducible refine (char_Encode.calls (rd l0 x6_1) t157 _ A9.out).mono ?_); rintro e w13 ⟨v158, rfl, ho0, hb⟩; refine ⟨_, rfl, ?_⟩; have n0_ := Aside0.mk (Kd.R_elder' (by (with_reducible repeat (first | apply Kd.R_alloc | apply Kd.R_drewN | apply Kd.R_drew)); exact HO_3.out) (Kd.R_base ho0) hb); have n1_ := Aside0.mk (Kd.R_below (by (with_reducible repeat (first | apply Kd.R_alloc | apply Kd.R_drewN | apply Kd.R_drew)); exact HO_5.out) hb); have n2_ := Aside0.mk (Kd.R_lower (Kd.R_new' ho0 (Kd.R_lt (by (with_reducible repeat (first | apply Kd.R_alloc | apply Kd.R_drewN | apply Kd.R_drew)); exact HO_3.out))) (below_size (by repeat (first | (with_reducible first | exact HB.out | apply below_alloc | apply pw_below_drewN | apply below_drew1) | exact HB.out)))); have n3_ := Aside0.mk (below_step (by repeat (first | (with_reducible first | exact HB.out | apply below_alloc | apply pw_below_drewN | apply below_drew1) | exact HB.out)) hb); clear HO_3; clear HO_5; clear HB; have HO_3 := n0_; have HO_5 := n1_; have HO159 := n2_; have HB := n3_; clear n0_ n1_ n2_ n3_; (try clear hb); (try clear hb2); (try clear hk); (try clear hi); (try clear ho0); obtain ⟨Ao15, co15, eo15⟩ := Kd.R_slice HO159.out; subst eo15) | ((with_reducible refine gate_builtin (b := .append) (xs := #[.tmp 31, .tmp 32]) rfl ?_); at_builtin; refine Kd.R_append_rows (Kd.int .u8) (w0 := w) w.heap.size rfl (.tmp 31) (.tmp 32) 32 5 (.int .u8 0) 1 rfl Try.underlying32 info5 rfl (by decide) (by omega) u3 x3_1 t157 _ _ _ (fun k_ => some k_ ≠ (.slice Ao15 t157.length co15 : Value).ownBlock) (fun _ => False) rfl rfl ?aO ?aR (fun _ _ h => h) (fun _ h => h.elim) ?aF ?aB ?aS ?aL ?_; (case aR => repeat (first | exact (Kd.R_reads' HO159.out).2.2 | (with_reducible refine Kd.C_alloc ?_ _) | (with_reducible refine Kd.C_drewN ?_ _) | (with_reducible refine Kd.C_drew ?_))); (case aB => exact (by repeat (first | (with_reducible first | exact HB.out | apply below_alloc | apply pw_below_drewN | apply below_drew1) | exact HB.out))); (case aF => exact (fun k_ hk => Kd.fresh' (Kd.R_lt (by (with_reducible repeat (first | apply Kd.R_alloc | apply Kd.R_drewN | apply Kd.R_drew)); exact HO159.out)) k_ hk)); (case aO => exact (by (with_reducible repeat (first | apply Kd.R_alloc | apply Kd.R_drewN | apply Kd.R_drew)); exact Kd.R_mono HO_3.out (fun _ hk => hk.2))); (case aS => exact (below_size (by repeat (first | (with_reducible first | exact HB.out | apply below_alloc | apply pw_below_drewN | apply below_drew1) | exact HB.out)))); (case aL => have := LMc10.out; omega); intro v161 w14 ho hb hg hat; rw [← Ny160.out] at ho; have n0_ := Aside0.mk (Kd.R_over' (by (with_reducible repeat (first | apply Kd.R_alloc | apply Kd.R_drewN | apply Kd.R_drew)); exact HO_5.out) (Kd.R_typed (by (with_reducible repeat (first | apply Kd.R_alloc | apply Kd.R_drewN | apply Kd.R_drew)); exact HO_3.out)) (by decide) hg); have n1_ := Aside0.mk (Kd.R_after (ok := (fun _ => True)) (by (with_reducible repeat (first | apply Kd.R_alloc | apply Kd.R_drewN | apply Kd.R_drew)); exact HO159.out) hg hat); have n2_ := Aside0.mk (hb); have n3_ := Aside0.mk (ho); clear HO_5; clear HO159; clear HB; clear HO_3; have HO_5 := n0_; have HO159 := n1_; have HB := n2_; have HO162 := n3_; clear n0_ n1_ n2_ n3_; clear ho hb hg hat; have p163 : 0 ≤ (x6_1 : Int) := of_decide_eq_true (by first | (with_reducible assumption) | assumption); have q163 : x6_1 < (l0.length : Int) := of_decide_eq_true (by first | (with_reducible assumption) | assumption); obtain ⟨ad163, e163, hx163_0⟩ := Kd.at_int HR0.out x6_1 p163 q163; obtain rfl : ad156 = ad163 := (by injection e163); replace hx163_0 := (HB.out.cell (World.block_lt_of_cell? w _ hx163_0)).trans hx163_0; replace p163 := eq_true p163; replace q163 := eq_true q163) | ((with_reducible refine gate_builtin (b := .append) (xs := #[.tmp 39, .tmp 44]) rfl ?_); at_builtin; refine Kd.R_append (Kd.int .i32) (w0 := w) w.heap.size rfl (.tmp 39) (.tmp 44) 45 21 (.int .i32 0) 4 rfl Try.underlying45 info21 rfl (by decide) (by omega) u5 x5_1 (rd l0 x6_1) [.int .i32 (rd l0 x6_1)] (fun _ => True) (fun _ => False) rfl rfl ?aP (fun _ hk => hk.elim) ?aF ?aO ?aB ?aS ?aL ?_; (case aP => exact rfl); (case aB => exact (by repeat (first | (with_reducible first | exact HB.out | apply below_alloc | apply pw_below_drewN | apply below_drew1) | exact HB.out))); (case aF => exact (fun _ _ => trivial)); (case aO => exact (by (with_reducible repeat (first | apply Kd.R_alloc | apply Kd.R_drewN | apply Kd.R_drew)); exact HO_5.out)); (case aS => exact (below_size (by repeat (first | (with_reducible first | exact HB.out | apply below_alloc | apply pw_below_drewN | apply below_drew1) | exact HB.out)))); (case aL => have := LMc12.out; omega); intro v165 w16 ho hb hg hat; rw [← Ny164.out] at ho; have n0_ := Aside0.mk (Kd.R_over' (by (with_reducible repeat (first | apply Kd.R_alloc | apply Kd.R_drewN | apply Kd.R_drew)); exact HO159.out) (Kd.R_typed (by (with_reducible repeat (first | apply Kd.R_alloc | apply Kd.R_drewN | apply Kd.R_drew)); exact HO_5.out)) (by decide) hg); have n1_ := Aside0.mk (Kd.R_over' (by (with_reducible repeat (first | apply Kd.R_alloc | apply Kd.R_drewN | apply Kd.R_drew)); exact HO162.out) (Kd.R_typed (by (with_reducible repeat (first | apply Kd.R_alloc | apply Kd.R_drewN | apply Kd.R_drew)); exact HO_5.out)) (by decide) hg); have n2_ := Aside0.mk (hb); have n3_ := Aside0.mk (ho); clear HO159; clear HO162; clear HB; clear HO_5; have HO159 := n0_; have HO162 := n1_; have HB := n2_; have HO166 := n3_; clear n0_ n1_ n2_ n3_; clear ho hb hg hat))
                    go_roundg k1
                    case measure => have := HK1.out; omega
                    case rel => exact ⟨(y160), (wrap64 (x4_1 + 1)), (y164), (wrap64 (x6_1 + 1)), (by first | rfl | (simp; done) | (simp [*]; done)), (by first | rfl | (simp; done) | (simp [*]; done)), H', ⟨by have := HK1.out; omega⟩, ⟨by (with_reducible repeat (first | apply Kd.R_alloc | apply Kd.R_drewN | apply Kd.R_drew)); exact Kd.R_mono HO162.out (fun _ hk => trivial)⟩, ⟨by (with_reducible repeat (first | apply Kd.R_alloc | apply Kd.R_drewN | apply Kd.R_drew)); exact HO166.out⟩, ⟨by repeat (first | (with_reducible first | exact HB.out | apply below_alloc | apply pw_below_drewN | apply below_drew1) | exact HB.out)⟩⟩
                  · rw [if_neg c12] at H
                    exact absurd H (by simp)
                · rw [if_neg c11] at H
                  have c11b0 : decide (0 < (t157.length : Int)) = false := decide_eq_false c11
                  have c11b1 : decide (0 < t157.length) = false := decide_eq_false (by omega)
                  clear c11
                  have H' := Aside0.mk H
                  clear H
                  have p156 : 0 ≤ (x6_1 : Int) := of_decide_eq_true (by first | (with_reducible assumption) | assumption)
                  have q156 : x6_1 < (l0.length : Int) := of_decide_eq_true (by first | (with_reducible assumption) | assumption)
                  obtain ⟨ad156, e156, hx156_0⟩ := Kd.at_int HR0.out x6_1 p156 q156
                  cases e156
                  replace hx156_0 := (HB.out.cell (World.block_lt_of_cell? w _ hx156_0)).trans hx156_0
                  replace p156 := eq_true p156
                  replace q156 := eq_true q156
                  go_wp2_with (first | ((with_reducible refine gate_callee (f := 29) rfl ?_); refine goesL_ (some 30) rfl rfl Try.func29 (by kernel_rfl) rfl #[.int .i32 (rd l0 x6_1)] rfl (by (try simp only [List.map_toArray, List.map_cons, List.map_nil]); first | done | rfl | (simp only [List.length_drop, List.length_take]; rfl)) ?_; (with_reducible refine (char_Encode.calls (rd l0 x6_1) t157 _ A9.out).mono ?_); rintro e w17 ⟨v158, rfl, ho0, hb⟩; refine ⟨_, rfl, ?_⟩; have n0_ := Aside0.mk (Kd.R_elder' (by (with_reducible repeat (first | apply Kd.R_alloc | apply Kd.R_drewN | apply Kd.R_drew)); exact HO_3.out) (Kd.R_base ho0) hb); have n1_ := Aside0.mk (Kd.R_below (by (with_reducible repeat (first | apply Kd.R_alloc | apply Kd.R_drewN | apply Kd.R_drew)); exact HO_5.out) hb); have n2_ := Aside0.mk (Kd.R_lower (Kd.R_new' ho0 (Kd.R_lt (by (with_reducible repeat (first | apply Kd.R_alloc | apply Kd.R_drewN | apply Kd.R_drew)); exact HO_3.out))) (below_size (by repeat (first | (with_reducible first | exact HB.out | apply below_alloc | apply pw_below_drewN | apply below_drew1) | exact HB.out)))); have n3_ := Aside0.mk (below_step (by repeat (first | (with_reducible first | exact HB.out | apply below_alloc | apply pw_below_drewN | apply below_drew1) | exact HB.out)) hb); clear HO_3; clear HO_5; clear HB; have HO_3 := n0_; have HO_5 := n1_; have HO159 := n2_; have HB := n3_; clear n0_ n1_ n2_ n3_; (try clear hb); (try clear hb2); (try clear hk); (try clear hi); (try clear ho0); obtain ⟨Ao19, co19, eo19⟩ := Kd.R_slice HO159.out; subst eo19) | ((with_reducible refine gate_builtin (b := .append) (xs := #[.tmp 31, .tmp 32]) rfl ?_); at_builtin; refine Kd.R_append_rows (Kd.int .u8) (w0 := w) w.heap.size rfl (.tmp 31) (.tmp 32) 32 5 (.int .u8 0) 1 rfl Try.underlying32 info5 rfl (by decide) (by omega) u3 x3_1 t157 _ _ _ (fun k_ => some k_ ≠ (.slice Ao19 t157.length co19 : Value).ownBlock) (fun _ => False) rfl rfl ?aO ?aR (fun _ _ h => h) (fun _ h => h.elim) ?aF ?aB ?aS ?aL ?_; (case aR => repeat (first | exact (Kd.R_reads' HO159.out).2.2 | (with_reducible refine Kd.C_alloc ?_ _) | (with_reducible refine Kd.C_drewN ?_ _) | (with_reducible refine Kd.C_drew ?_))); (case aB => exact (by repeat (first | (with_reducible first | exact HB.out | apply below_alloc | apply pw_below_drewN | apply below_drew1) | exact HB.out))); (case aF => exact (fun k_ hk => Kd.fresh' (Kd.R_lt (by (with_reducible repeat (first | apply Kd.R_alloc | apply Kd.R_drewN | apply Kd.R_drew)); exact HO159.out)) k_ hk)); (case aO => exact (by (with_reducible repeat (first | apply Kd.R_alloc | apply Kd.R_drewN | apply Kd.R_drew)); exact Kd.R_mono HO_3.out (fun _ hk => hk.2))); (case aS => exact (below_size (by repeat (first | (with_reducible first | exact HB.out | apply below_alloc | apply pw_below_drewN | apply below_drew1) | exact HB.out)))); (case aL => have := LMc10.out; omega); intro v161 w18 ho hb hg hat; rw [← Ny160.out] at ho; have n0_ := Aside0.mk (Kd.R_over' (by (with_reducible repeat (first | apply Kd.R_alloc | apply Kd.R_drewN | apply Kd.R_drew)); exact HO_5.out) (Kd.R_typed (by (with_reducible repeat (first | apply Kd.R_alloc | apply Kd.R_drewN | apply Kd.R_drew)); exact HO_3.out)) (by decide) hg); have n1_ := Aside0.mk (Kd.R_after (ok := (fun _ => True)) (by (with_reducible repeat (first | apply Kd.R_alloc | apply Kd.R_drewN | apply Kd.R_drew)); exact HO159.out) hg hat); have n2_ := Aside0.mk (hb); have n3_ := Aside0.mk (ho); clear HO_5; clear HO159; clear HB; clear HO_3; have HO_5 := n0_; have HO159 := n1_; have HB := n2_; have HO162 := n3_; clear n0_ n1_ n2_ n3_; clear ho hb hg hat))
                  go_roundg k1
                  case measure => have := HK1.out; omega
                  case rel => exact ⟨(y160), (x4_1), (x5_1), (wrap64 (x6_1 + 1)), (by first | rfl | (simp; done) | (simp [*]; done)), (by first | rfl | (simp; done) | (simp [*]; done)), H', ⟨by have := HK1.out; omega⟩, ⟨by (with_reducible repeat (first | apply Kd.R_alloc | apply Kd.R_drewN | apply Kd.R_drew)); exact Kd.R_mono HO162.out (fun _ hk => trivial)⟩, ⟨by (with_reducible repeat (first | apply Kd.R_alloc | apply Kd.R_drewN | apply Kd.R_drew)); exact HO_5.out⟩, ⟨by repeat (first | (with_reducible first | exact HB.out | apply below_alloc | apply pw_below_drewN | apply below_drew1) | exact HB.out)⟩⟩
              · rw [if_neg c10] at H
                exact absurd H (by simp)
            · rw [if_neg c8] at H
              exact absurd H (by simp)
          · rw [if_neg c7] at H
            have c7b0 : decide (x6_1 < (l0.length : Int)) = false := decide_eq_false c7
            clear c7
            replace H := Option.bind_eq_some_iff.mp H
            obtain ⟨t167, A200, H⟩ := H
            replace H : (if t167 = x4_1 then (rubriclaw1_CharRows.l1 k1 x3_1 x5_1 0 true 0) else (some false)) = some r := H
            have A20 := Aside0.mk A200
            clear A200
            by_cases c21 : t167 = x4_1
            · rw [if_pos c21] at H
              have c21b0 : (t167 == x4_1) = true := beq_iff_eq.mpr c21
              have c21b1 : (t167 != x4_1) = false := bne_eq_false_iff_eq.mpr c21
              clear c21
              have H' := Aside0.mk H
              clear H
              have hcv22 := own_string (P := Try.prog) Try.underlying32 Try.underlying5 Try.underlying9 (Kd.own_of_R HO_3.out)
              go_wp2_with (first | ((with_reducible refine gate_callee (f := 27) rfl ?_); refine goesL_ (some 48) rfl rfl Try.func27 (by kernel_rfl) rfl #[.string (strOfNums x3_1)] rfl (by (try simp only [List.map_toArray, List.map_cons, List.map_nil]); first | done | rfl | (simp only [List.length_drop, List.length_take]; rfl)) ?_; (with_reducible refine (char_Count.calls k1 (strOfNums x3_1) t167 _ A20.out).mono ?_); rintro e w23 ⟨rfl, hb⟩; refine ⟨_, rfl, ?_⟩; have n0_ := Aside0.mk (Kd.R_below (by (with_reducible repeat (first | apply Kd.R_alloc | apply Kd.R_drewN | apply Kd.R_drew)); exact HO_3.out) hb); have n1_ := Aside0.mk (Kd.R_below (by (with_reducible repeat (first | apply Kd.R_alloc | apply Kd.R_drewN | apply Kd.R_drew)); exact HO_5.out) hb); have n2_ := Aside0.mk (below_step (by repeat (first | (with_reducible first | exact HB.out | apply below_alloc | apply pw_below_drewN | apply below_drew1) | exact HB.out)) hb); clear HO_3; clear HO_5; clear HB; have HO_3 := n0_; have HO_5 := n1_; have HB := n2_; clear n0_ n1_ n2_; (try clear hb); (try clear hb2); (try clear hk); (try clear hi)))
              go_loopg [8, 9, 10] k1 (fun kq v8 v9 v10 w' => ∃ (x8_2 : Int) (x9_2 : Bool) (x10_2 : Int), v8 = .int .i64 x8_2 ∧ v9 = .bool x9_2 ∧ v10 = .int .i64 x10_2 ∧ Aside0 (rubriclaw1_CharRows.l1 kq x3_1 x5_1 x8_2 x9_2 x10_2 = some r) ∧ Aside0 (kq ≤ k1) ∧ Aside0 (Kd.R (Kd.int .u8) 5 w' w.heap.size (fun _ => True) u3 x3_1) ∧ Aside0 (Kd.R (Kd.int .i32) 21 w' w.heap.size (fun _ => True) u5 x5_1) ∧ Aside0 (Below w.heap.size w w'))
              case atStart => exact ⟨(0), (true), (0), (by first | rfl | (simp; done) | (simp [*]; done)), (by first | rfl | (simp; done) | (simp [*]; done)), (by first | rfl | (simp; done) | (simp [*]; done)), H', ⟨Nat.le_refl _⟩, ⟨by (with_reducible repeat (first | apply Kd.R_alloc | apply Kd.R_drewN | apply Kd.R_drew)); exact HO_3.out⟩, ⟨by (with_reducible repeat (first | apply Kd.R_alloc | apply Kd.R_drewN | apply Kd.R_drew)); exact HO_5.out⟩, ⟨by repeat (first | (with_reducible first | exact HB.out | apply below_alloc | apply pw_below_drewN | apply below_drew1) | exact HB.out)⟩⟩
              case round =>
                clear H'
                try clear c1
                try clear p1
                try clear q1
                try clear hx1
                try clear c2
                try clear p2
                try clear hcv2
                try clear c3
                try clear c4
                try clear c4b0
                try clear c4b1
                try clear p6
                try clear c7
                try clear c7b0
                try clear c8
                try clear c8b0
                try clear c9
                try clear c10
                try clear c11
                try clear c11b0
                try clear c11b1
                try clear c12
                try clear p15
                try clear q15
                try clear hx15
                try clear p16
                try clear q16
                try clear hx16
                try clear c21
                try clear c21b0
                try clear c21b1
                try clear hcv22
                try clear hx156_0
                try clear hx163_0
                try clear p156
                try clear p163
                try clear p2
                try clear q156
                try clear q163
                obtain ⟨x8_2, x9_2, x10_2, rfl, rfl, rfl, HA, HK2, HO_3, HO_5, HB⟩ := hrel
                cases gk with
                | zero => exact absurd HA.out (by simp [rubriclaw1_CharRows.l1])
                | succ k2 =>
                  have H := HA.out
                  clear HA
                  simp only [rubriclaw1_CharRows.l1] at H
                  by_cases c24 : x10_2 < (x5_1.length : Int)
                  · rw [if_pos c24] at H
                    have c24b0 : decide (x10_2 < (x5_1.length : Int)) = true := decide_eq_true c24
                    clear c24
                    by_cases c25 : 0 ≤ x8_2
                    · rw [if_pos c25] at H
                      have c25b0 := eq_true c25
                      have c25b1 : decide (0 ≤ x8_2) = true := decide_eq_true c25
                      clear c25
                      by_cases c26 : x8_2 ≤ (x3_1.length : Int)
                      · rw [if_pos c26] at H
                        have c26b0 := eq_true c26
                        have c26b1 : decide (x8_2 ≤ (x3_1.length : Int)) = true := decide_eq_true c26
                        clear c26
                        obtain ⟨y170, hy170⟩ : ∃ y_ : List Int, y_ = (x3_1.drop (x8_2 : Int).toNat) := ⟨_, rfl⟩
                        replace H : ((char_Decode.f y170).bind fun bt174 => (if 0 ≤ x10_2 then (if bt174.1 = (rd x5_1 x10_2) then (if bt174.2 < 1 then (some false) else (if bt174.2 > 4 then (some false) else (if x9_2 = true then ((char_Char.f bt174.1).bind fun t177 => (rubriclaw1_CharRows.l1 k2 x3_1 x5_1 (wrap64 (x8_2 + bt174.2)) t177 (wrap64 (x10_2 + 1)))) else (rubriclaw1_CharRows.l1 k2 x3_1 x5_1 (wrap64 (x8_2 + bt174.2)) false (wrap64 (x10_2 + 1)))))) else (some false)) else (none))) = some r := by first | (rw [hy170]; with_reducible exact H) | (have H2_ := (Option.bind_some _ _).symm.trans H; rw [hy170]; with_reducible exact H2_) | (have H2_ := (Option.bind_some _ _).symm.trans H; with_reducible exact H2_) | with_reducible exact H | (rw [hy170]; exact H) | exact H
                        have Ny170 := Aside0.mk hy170
                        clear hy170
                        replace H := Option.bind_eq_some_iff.mp H
                        obtain ⟨⟨t174, t175⟩, A270, H⟩ := H
                        replace H : (if 0 ≤ x10_2 then (if t174 = (rd x5_1 x10_2) then (if t175 < 1 then (some false) else (if t175 > 4 then (some false) else (if x9_2 = true then ((char_Char.f t174).bind fun t177 => (rubriclaw1_CharRows.l1 k2 x3_1 x5_1 (wrap64 (x8_2 + t175)) t177 (wrap64 (x10_2 + 1)))) else (rubriclaw1_CharRows.l1 k2 x3_1 x5_1 (wrap64 (x8_2 + t175)) false (wrap64 (x10_2 + 1)))))) else (some false)) else (none)) = some r := H
                        have A27 := Aside0.mk A270
                        clear A270
                        by_cases c28 : 0 ≤ x10_2
                        · rw [if_pos c28] at H
                          have c28b0 : decide (0 ≤ x10_2) = true := decide_eq_true c28
                          clear c28
                          by_cases c29 : t174 = (rd x5_1 x10_2)
                          · rw [if_pos c29] at H
                            have c29b0 : (t174 == (rd x5_1 x10_2)) = true := beq_iff_eq.mpr c29
                            have c29b1 : (t174 != (rd x5_1 x10_2)) = false := bne_eq_false_iff_eq.mpr c29
                            clear c29
                            by_cases c30 : t175 < 1
                            · rw [if_pos c30] at H
                              have c30b0 : decide (t175 < 1) = true := decide_eq_true c30
                              clear c30
                              obtain rfl := Option.some.inj H
                              obtain ⟨Ao31, co31, eo31⟩ := Kd.R_slice HO_5.out
                              subst eo31
                              obtain ⟨Ao33, co33, eo33⟩ := Kd.R_slice HO_3.out
                              subst eo33
                              have q32 : (x8_2 : Int) ≤ ((x3_1.length : Int) : Int) := of_decide_eq_true (by first | (with_reducible assumption) | assumption)
                              obtain ⟨i032, hi032, _, hsz32, _⟩ := info_parts info5
                              have hroom32 : x3_1.length ≤ co33 := (Kd.R_reads' HO_3.out).2.1
                              have hC32 : Kd.C (Kd.int .u8) _ Ao33 x3_1.length x3_1 := (Kd.R_reads' HO_3.out).2.2
                              have q032 : (0 : Int) ≤ (x8_2 : Int) := of_decide_eq_true (by first | (with_reducible assumption) | assumption)
                              have hcut32 := cut_from (P := Try.prog) 32 5 .i64 Try.underlying32 hi032 1 hsz32 Ao33 x3_1.length co33 x8_2 q032 q32
                              have hr32 := Kd.C_drop (m := (x8_2 : Int).toNat) (c := co33) hC32 (by omega) hroom32
                              obtain ⟨A32, hA32⟩ : ∃ A1, A1 = (if co33 = (x8_2 : Int).toNat then Ao33 else (Ao33 : Option Addr).map (·.add ((x8_2 : Int).toNat * 1))) := ⟨_, rfl⟩
                              obtain ⟨c32, hc32⟩ : ∃ c1, c1 = co33 - (x8_2 : Int).toNat := ⟨_, rfl⟩
                              have hy32 : y170.length = x3_1.length - (x8_2 : Int).toNat := (by rw [Ny170.out, List.length_drop] <;> omega)
                              rw [show (x3_1).drop (x8_2 : Int).toNat = y170 from Ny170.out.symm] at hr32
                              replace hr32 : Kd.C (Kd.int .u8) _ A32 y170.length y170 := (by rw [hA32]; exact hr32)
                              rw [← hy32, ← hA32, ← hc32] at hcut32
                              have HR173 := Aside0.mk hr32
                              have HC173 := Aside0.mk (show y170.length ≤ c32 from by rw [hy32, hc32]; exact Nat.sub_le_sub_right hroom32 _)
                              clear hr32 hC32 hroom32 hi032 hsz32 hc32
                              have KY32 := Aside0.mk hy32
                              have KA32 := Aside0.mk hA32
                              clear hy32 hA32
                              have KL32 := Aside0.mk (show (x8_2 : Int).toNat ≤ x3_1.length from by omega)
                              replace q32 := eq_true q32
                              go_wp2_with (first | ((with_reducible refine gate_callee (f := 23) rfl ?_); refine goesL_ (some 61) rfl rfl Try.func23 (by kernel_rfl) rfl #[.slice A32 y170.length c32] rfl (by (try simp only [List.map_toArray, List.map_cons, List.map_nil]); first | done | rfl | (simp only [List.length_drop, List.length_take]; rfl)) ?_; (with_reducible refine (char_Decode.calls _ _ y170 t174 t175 _ ?side1 ?side2 A27.out).mono ?_); (case side1 => repeat (first | exact (by repeat (first | (with_reducible exact HR173.out) | (with_reducible refine Kd.C_alloc ?_ _) | (with_reducible refine Kd.C_drewN ?_ _) | (with_reducible refine Kd.C_drew ?_) | exact HR173.out)) | (with_reducible refine Kd.C_alloc ?_ _) | (with_reducible refine Kd.C_drewN ?_ _) | (with_reducible refine Kd.C_drew ?_))); (case side2 => exact HC173.out); rintro e w' ⟨rfl, ⟨nd, rfl⟩⟩; refine ⟨_, rfl, ?_⟩; have p176 : 0 ≤ (x10_2 : Int) := of_decide_eq_true (by first | (with_reducible assumption) | assumption); have q176 : x10_2 < (x5_1.length : Int) := of_decide_eq_true (by first | (with_reducible assumption) | assumption); obtain ⟨ad176, e176, hx176_0⟩ := Kd.at_int (Kd.R_reads' HO_5.out).2.2 x10_2 p176 q176; cases e176; replace p176 := eq_true p176; replace q176 := eq_true q176))
                              go_ret
                              exact ⟨by first | rfl | (simp [errW_none, errW_some] <;> rfl) | (simp [*, errW_none, errW_some] <;> rfl), by repeat (first | (with_reducible first | exact HB.out | apply below_alloc | apply pw_below_drewN | apply below_drew1) | exact HB.out)⟩
                            · rw [if_neg c30] at H
                              have c30b0 : decide (t175 < 1) = false := decide_eq_false c30
                              clear c30
                              by_cases c34 : t175 > 4
                              · rw [if_pos c34] at H
                                have c34b0 : decide (4 < t175) = true := decide_eq_true c34
                                clear c34
                                obtain rfl := Option.some.inj H
                                obtain ⟨Ao35, co35, eo35⟩ := Kd.R_slice HO_5.out
                                subst eo35
                                obtain ⟨Ao37, co37, eo37⟩ := Kd.R_slice HO_3.out
                                subst eo37
                                have q36 : (x8_2 : Int) ≤ ((x3_1.length : Int) : Int) := of_decide_eq_true (by first | (with_reducible assumption) | assumption)
                                obtain ⟨i036, hi036, _, hsz36, _⟩ := info_parts info5
                                have hroom36 : x3_1.length ≤ co37 := (Kd.R_reads' HO_3.out).2.1
                                have hC36 : Kd.C (Kd.int .u8) _ Ao37 x3_1.length x3_1 := (Kd.R_reads' HO_3.out).2.2
                                have q036 : (0 : Int) ≤ (x8_2 : Int) := of_decide_eq_true (by first | (with_reducible assumption) | assumption)
                                have hcut36 := cut_from (P := Try.prog) 32 5 .i64 Try.underlying32 hi036 1 hsz36 Ao37 x3_1.length co37 x8_2 q036 q36
                                have hr36 := Kd.C_drop (m := (x8_2 : Int).toNat) (c := co37) hC36 (by omega) hroom36
                                obtain ⟨A36, hA36⟩ : ∃ A1, A1 = (if co37 = (x8_2 : Int).toNat then Ao37 else (Ao37 : Option Addr).map (·.add ((x8_2 : Int).toNat * 1))) := ⟨_, rfl⟩
                                obtain ⟨c36, hc36⟩ : ∃ c1, c1 = co37 - (x8_2 : Int).toNat := ⟨_, rfl⟩
                                have hy36 : y170.length = x3_1.length - (x8_2 : Int).toNat := (by rw [Ny170.out, List.length_drop] <;> omega)
                                rw [show (x3_1).drop (x8_2 : Int).toNat = y170 from Ny170.out.symm] at hr36
                                replace hr36 : Kd.C (Kd.int .u8) _ A36 y170.length y170 := (by rw [hA36]; exact hr36)
                                rw [← hy36, ← hA36, ← hc36] at hcut36
                                have HR173 := Aside0.mk hr36
                                have HC173 := Aside0.mk (show y170.length ≤ c36 from by rw [hy36, hc36]; exact Nat.sub_le_sub_right hroom36 _)
                                clear hr36 hC36 hroom36 hi036 hsz36 hc36
                                have KY36 := Aside0.mk hy36
                                have KA36 := Aside0.mk hA36
                                clear hy36 hA36
                                have KL36 := Aside0.mk (show (x8_2 : Int).toNat ≤ x3_1.length from by omega)
                                replace q36 := eq_true q36
                                go_wp2_with (first | ((with_reducible refine gate_callee (f := 23) rfl ?_); refine goesL_ (some 61) rfl rfl Try.func23 (by kernel_rfl) rfl #[.slice A36 y170.length c36] rfl (by (try simp only [List.map_toArray, List.map_cons, List.map_nil]); first | done | rfl | (simp only [List.length_drop, List.length_take]; rfl)) ?_; (with_reducible refine (char_Decode.calls _ _ y170 t174 t175 _ ?side1 ?side2 A27.out).mono ?_); (case side1 => repeat (first | exact (by repeat (first | (with_reducible exact HR173.out) | (with_reducible refine Kd.C_alloc ?_ _) | (with_reducible refine Kd.C_drewN ?_ _) | (with_reducible refine Kd.C_drew ?_) | exact HR173.out)) | (with_reducible refine Kd.C_alloc ?_ _) | (with_reducible refine Kd.C_drewN ?_ _) | (with_reducible refine Kd.C_drew ?_))); (case side2 => exact HC173.out); rintro e w' ⟨rfl, ⟨nd, rfl⟩⟩; refine ⟨_, rfl, ?_⟩; have p176 : 0 ≤ (x10_2 : Int) := of_decide_eq_true (by first | (with_reducible assumption) | assumption); have q176 : x10_2 < (x5_1.length : Int) := of_decide_eq_true (by first | (with_reducible assumption) | assumption); obtain ⟨ad176, e176, hx176_0⟩ := Kd.at_int (Kd.R_reads' HO_5.out).2.2 x10_2 p176 q176; cases e176; replace p176 := eq_true p176; replace q176 := eq_true q176))
                                go_ret
                                exact ⟨by first | rfl | (simp [errW_none, errW_some] <;> rfl) | (simp [*, errW_none, errW_some] <;> rfl), by repeat (first | (with_reducible first | exact HB.out | apply below_alloc | apply pw_below_drewN | apply below_drew1) | exact HB.out)⟩
                              · rw [if_neg c34] at H
                                have c34b0 : decide (4 < t175) = false := decide_eq_false c34
                                clear c34
                                by_cases c38 : x9_2 = true
                                · subst c38
                                  have H1 : ((char_Char.f t174).bind fun t177 => (rubriclaw1_CharRows.l1 k2 x3_1 x5_1 (wrap64 (x8_2 + t175)) t177 (wrap64 (x10_2 + 1)))) = some r := by rw [if_pos rfl] at H; exact H
                                  clear H
                                  have H := H1
                                  clear H1
                                  replace H := Option.bind_eq_some_iff.mp H
                                  obtain ⟨t177, A390, H⟩ := H
                                  replace H : (rubriclaw1_CharRows.l1 k2 x3_1 x5_1 (wrap64 (x8_2 + t175)) t177 (wrap64 (x10_2 + 1))) = some r := H
                                  have A39 := Aside0.mk A390
                                  clear A390
                                  have H' := Aside0.mk H
                                  clear H
                                  obtain ⟨Ao40, co40, eo40⟩ := Kd.R_slice HO_5.out
                                  subst eo40
                                  obtain ⟨Ao42, co42, eo42⟩ := Kd.R_slice HO_3.out
                                  subst eo42
                                  have q41 : (x8_2 : Int) ≤ ((x3_1.length : Int) : Int) := of_decide_eq_true (by first | (with_reducible assumption) | assumption)
                                  obtain ⟨i041, hi041, _, hsz41, _⟩ := info_parts info5
                                  have hroom41 : x3_1.length ≤ co42 := (Kd.R_reads' HO_3.out).2.1
                                  have hC41 : Kd.C (Kd.int .u8) _ Ao42 x3_1.length x3_1 := (Kd.R_reads' HO_3.out).2.2
                                  have q041 : (0 : Int) ≤ (x8_2 : Int) := of_decide_eq_true (by first | (with_reducible assumption) | assumption)
                                  have hcut41 := cut_from (P := Try.prog) 32 5 .i64 Try.underlying32 hi041 1 hsz41 Ao42 x3_1.length co42 x8_2 q041 q41
                                  have hr41 := Kd.C_drop (m := (x8_2 : Int).toNat) (c := co42) hC41 (by omega) hroom41
                                  obtain ⟨A41, hA41⟩ : ∃ A1, A1 = (if co42 = (x8_2 : Int).toNat then Ao42 else (Ao42 : Option Addr).map (·.add ((x8_2 : Int).toNat * 1))) := ⟨_, rfl⟩
                                  obtain ⟨c41, hc41⟩ : ∃ c1, c1 = co42 - (x8_2 : Int).toNat := ⟨_, rfl⟩
                                  have hy41 : y170.length = x3_1.length - (x8_2 : Int).toNat := (by rw [Ny170.out, List.length_drop] <;> omega)
                                  rw [show (x3_1).drop (x8_2 : Int).toNat = y170 from Ny170.out.symm] at hr41
                                  replace hr41 : Kd.C (Kd.int .u8) _ A41 y170.length y170 := (by rw [hA41]; exact hr41)
                                  rw [← hy41, ← hA41, ← hc41] at hcut41
                                  have HR173 := Aside0.mk hr41
                                  have HC173 := Aside0.mk (show y170.length ≤ c41 from by rw [hy41, hc41]; exact Nat.sub_le_sub_right hroom41 _)
                                  clear hr41 hC41 hroom41 hi041 hsz41 hc41
                                  have KY41 := Aside0.mk hy41
                                  have KA41 := Aside0.mk hA41
                                  clear hy41 hA41
                                  have KL41 := Aside0.mk (show (x8_2 : Int).toNat ≤ x3_1.length from by omega)
                                  replace q41 := eq_true q41
                                  go_wp2_with (first | ((with_reducible refine gate_callee (f := 23) rfl ?_); refine goesL_ (some 61) rfl rfl Try.func23 (by kernel_rfl) rfl #[.slice A41 y170.length c41] rfl (by (try simp only [List.map_toArray, List.map_cons, List.map_nil]); first | done | rfl | (simp only [List.length_drop, List.length_take]; rfl)) ?_; (with_reducible refine (char_Decode.calls _ _ y170 t174 t175 _ ?side1 ?side2 A27.out).mono ?_); (case side1 => repeat (first | exact (by repeat (first | (with_reducible exact HR173.out) | (with_reducible refine Kd.C_alloc ?_ _) | (with_reducible refine Kd.C_drewN ?_ _) | (with_reducible refine Kd.C_drew ?_) | exact HR173.out)) | (with_reducible refine Kd.C_alloc ?_ _) | (with_reducible refine Kd.C_drewN ?_ _) | (with_reducible refine Kd.C_drew ?_))); (case side2 => exact HC173.out); rintro e w' ⟨rfl, ⟨nd, rfl⟩⟩; refine ⟨_, rfl, ?_⟩; have p176 : 0 ≤ (x10_2 : Int) := of_decide_eq_true (by first | (with_reducible assumption) | assumption); have q176 : x10_2 < (x5_1.length : Int) := of_decide_eq_true (by first | (with_reducible assumption) | assumption); obtain ⟨ad176, e176, hx176_0⟩ := Kd.at_int (Kd.R_reads' HO_5.out).2.2 x10_2 p176 q176; cases e176; replace p176 := eq_true p176; replace q176 := eq_true q176) | (go_at_call 31; (with_reducible refine (char_Char.calls t174 t177 _ A39.out).mono ?_); rintro e w' ⟨rfl, ⟨nd, rfl⟩⟩))
                                  go_roundg k2
                                  case measure => have := HK1.out; have := HK2.out; omega
                                  case rel => exact ⟨(wrap64 (x8_2 + t175)), (t177), (wrap64 (x10_2 + 1)), (by first | rfl | (simp; done) | (simp [*]; done)), (by first | rfl | (simp; done) | (simp [*]; done)), (by first | rfl | (simp; done) | (simp [*]; done)), H', ⟨by have := HK1.out; have := HK2.out; omega⟩, ⟨by (with_reducible repeat (first | apply Kd.R_alloc | apply Kd.R_drewN | apply Kd.R_drew)); exact HO_3.out⟩, ⟨by (with_reducible repeat (first | apply Kd.R_alloc | apply Kd.R_drewN | apply Kd.R_drew)); exact HO_5.out⟩, ⟨by repeat (first | (with_reducible first | exact HB.out | apply below_alloc | apply pw_below_drewN | apply below_drew1) | exact HB.out)⟩⟩
                                · replace c38 := Bool.eq_false_iff.mpr c38
                                  subst c38
                                  have H1 : (rubriclaw1_CharRows.l1 k2 x3_1 x5_1 (wrap64 (x8_2 + t175)) false (wrap64 (x10_2 + 1))) = some r := by rw [if_neg (show ¬ (false = true) by decide)] at H; exact H
                                  clear H
                                  have H := H1
                                  clear H1
                                  have H' := Aside0.mk H
                                  clear H
                                  obtain ⟨Ao43, co43, eo43⟩ := Kd.R_slice HO_5.out
                                  subst eo43
                                  obtain ⟨Ao45, co45, eo45⟩ := Kd.R_slice HO_3.out
                                  subst eo45
                                  have q44 : (x8_2 : Int) ≤ ((x3_1.length : Int) : Int) := of_decide_eq_true (by first | (with_reducible assumption) | assumption)
                                  obtain ⟨i044, hi044, _, hsz44, _⟩ := info_parts info5
                                  have hroom44 : x3_1.length ≤ co45 := (Kd.R_reads' HO_3.out).2.1
                                  have hC44 : Kd.C (Kd.int .u8) _ Ao45 x3_1.length x3_1 := (Kd.R_reads' HO_3.out).2.2
                                  have q044 : (0 : Int) ≤ (x8_2 : Int) := of_decide_eq_true (by first | (with_reducible assumption) | assumption)
                                  have hcut44 := cut_from (P := Try.prog) 32 5 .i64 Try.underlying32 hi044 1 hsz44 Ao45 x3_1.length co45 x8_2 q044 q44
                                  have hr44 := Kd.C_drop (m := (x8_2 : Int).toNat) (c := co45) hC44 (by omega) hroom44
                                  obtain ⟨A44, hA44⟩ : ∃ A1, A1 = (if co45 = (x8_2 : Int).toNat then Ao45 else (Ao45 : Option Addr).map (·.add ((x8_2 : Int).toNat * 1))) := ⟨_, rfl⟩
                                  obtain ⟨c44, hc44⟩ : ∃ c1, c1 = co45 - (x8_2 : Int).toNat := ⟨_, rfl⟩
                                  have hy44 : y170.length = x3_1.length - (x8_2 : Int).toNat := (by rw [Ny170.out, List.length_drop] <;> omega)
                                  rw [show (x3_1).drop (x8_2 : Int).toNat = y170 from Ny170.out.symm] at hr44
                                  replace hr44 : Kd.C (Kd.int .u8) _ A44 y170.length y170 := (by rw [hA44]; exact hr44)
                                  rw [← hy44, ← hA44, ← hc44] at hcut44
                                  have HR173 := Aside0.mk hr44
                                  have HC173 := Aside0.mk (show y170.length ≤ c44 from by rw [hy44, hc44]; exact Nat.sub_le_sub_right hroom44 _)
                                  clear hr44 hC44 hroom44 hi044 hsz44 hc44
                                  have KY44 := Aside0.mk hy44
                                  have KA44 := Aside0.mk hA44
                                  clear hy44 hA44
                                  have KL44 := Aside0.mk (show (x8_2 : Int).toNat ≤ x3_1.length from by omega)
                                  replace q44 := eq_true q44
                                  go_wp2_with (first | ((with_reducible refine gate_callee (f := 23) rfl ?_); refine goesL_ (some 61) rfl rfl Try.func23 (by kernel_rfl) rfl #[.slice A44 y170.length c44] rfl (by (try simp only [List.map_toArray, List.map_cons, List.map_nil]); first | done | rfl | (simp only [List.length_drop, List.length_take]; rfl)) ?_; (with_reducible refine (char_Decode.calls _ _ y170 t174 t175 _ ?side1 ?side2 A27.out).mono ?_); (case side1 => repeat (first | exact (by repeat (first | (with_reducible exact HR173.out) | (with_reducible refine Kd.C_alloc ?_ _) | (with_reducible refine Kd.C_drewN ?_ _) | (with_reducible refine Kd.C_drew ?_) | exact HR173.out)) | (with_reducible refine Kd.C_alloc ?_ _) | (with_reducible refine Kd.C_drewN ?_ _) | (with_reducible refine Kd.C_drew ?_))); (case side2 => exact HC173.out); rintro e w' ⟨rfl, ⟨nd, rfl⟩⟩; refine ⟨_, rfl, ?_⟩; have p176 : 0 ≤ (x10_2 : Int) := of_decide_eq_true (by first | (with_reducible assumption) | assumption); have q176 : x10_2 < (x5_1.length : Int) := of_decide_eq_true (by first | (with_reducible assumption) | assumption); obtain ⟨ad176, e176, hx176_0⟩ := Kd.at_int (Kd.R_reads' HO_5.out).2.2 x10_2 p176 q176; cases e176; replace p176 := eq_true p176; replace q176 := eq_true q176))
                                  go_roundg k2
                                  case measure => have := HK1.out; have := HK2.out; omega
                                  case rel => exact ⟨(wrap64 (x8_2 + t175)), (false), (wrap64 (x10_2 + 1)), (by first | rfl | (simp; done) | (simp [*]; done)), (by first | rfl | (simp; done) | (simp [*]; done)), (by first | rfl | (simp; done) | (simp [*]; done)), H', ⟨by have := HK1.out; have := HK2.out; omega⟩, ⟨by (with_reducible repeat (first | apply Kd.R_alloc | apply Kd.R_drewN | apply Kd.R_drew)); exact HO_3.out⟩, ⟨by (with_reducible repeat (first | apply Kd.R_alloc | apply Kd.R_drewN | apply Kd.R_drew)); exact HO_5.out⟩, ⟨by repeat (first | (with_reducible first | exact HB.out | apply below_alloc | apply pw_below_drewN | apply below_drew1) | exact HB.out)⟩⟩
                          · rw [if_neg c29] at H
                            have c29b0 : (t174 == (rd x5_1 x10_2)) = false := beq_eq_false_iff_ne.mpr c29
                            have c29b1 : (t174 != (rd x5_1 x10_2)) = true := bne_iff_ne.mpr c29
                            obtain rfl := Option.some.inj H
                            obtain ⟨Ao46, co46, eo46⟩ := Kd.R_slice HO_5.out
                            subst eo46
                            obtain ⟨Ao48, co48, eo48⟩ := Kd.R_slice HO_3.out
                            subst eo48
                            have q47 : (x8_2 : Int) ≤ ((x3_1.length : Int) : Int) := of_decide_eq_true (by first | (with_reducible assumption) | assumption)
                            obtain ⟨i047, hi047, _, hsz47, _⟩ := info_parts info5
                            have hroom47 : x3_1.length ≤ co48 := (Kd.R_reads' HO_3.out).2.1
                            have hC47 : Kd.C (Kd.int .u8) _ Ao48 x3_1.length x3_1 := (Kd.R_reads' HO_3.out).2.2
                            have q047 : (0 : Int) ≤ (x8_2 : Int) := of_decide_eq_true (by first | (with_reducible assumption) | assumption)
                            have hcut47 := cut_from (P := Try.prog) 32 5 .i64 Try.underlying32 hi047 1 hsz47 Ao48 x3_1.length co48 x8_2 q047 q47
                            have hr47 := Kd.C_drop (m := (x8_2 : Int).toNat) (c := co48) hC47 (by omega) hroom47
                            obtain ⟨A47, hA47⟩ : ∃ A1, A1 = (if co48 = (x8_2 : Int).toNat then Ao48 else (Ao48 : Option Addr).map (·.add ((x8_2 : Int).toNat * 1))) := ⟨_, rfl⟩
                            obtain ⟨c47, hc47⟩ : ∃ c1, c1 = co48 - (x8_2 : Int).toNat := ⟨_, rfl⟩
                            have hy47 : y170.length = x3_1.length - (x8_2 : Int).toNat := (by rw [Ny170.out, List.length_drop] <;> omega)
                            rw [show (x3_1).drop (x8_2 : Int).toNat = y170 from Ny170.out.symm] at hr47
                            replace hr47 : Kd.C (Kd.int .u8) _ A47 y170.length y170 := (by rw [hA47]; exact hr47)
                            rw [← hy47, ← hA47, ← hc47] at hcut47
                            have HR173 := Aside0.mk hr47
                            have HC173 := Aside0.mk (show y170.length ≤ c47 from by rw [hy47, hc47]; exact Nat.sub_le_sub_right hroom47 _)
                            clear hr47 hC47 hroom47 hi047 hsz47 hc47
                            have KY47 := Aside0.mk hy47
                            have KA47 := Aside0.mk hA47
                            clear hy47 hA47
                            have KL47 := Aside0.mk (show (x8_2 : Int).toNat ≤ x3_1.length from by omega)
                            replace q47 := eq_true q47
                            go_wp2_with (first | ((with_reducible refine gate_callee (f := 23) rfl ?_); refine goesL_ (some 61) rfl rfl Try.func23 (by kernel_rfl) rfl #[.slice A47 y170.length c47] rfl (by (try simp only [List.map_toArray, List.map_cons, List.map_nil]); first | done | rfl | (simp only [List.length_drop, List.length_take]; rfl)) ?_; (with_reducible refine (char_Decode.calls _ _ y170 t174 t175 _ ?side1 ?side2 A27.out).mono ?_); (case side1 => repeat (first | exact (by repeat (first | (with_reducible exact HR173.out) | (with_reducible refine Kd.C_alloc ?_ _) | (with_reducible refine Kd.C_drewN ?_ _) | (with_reducible refine Kd.C_drew ?_) | exact HR173.out)) | (with_reducible refine Kd.C_alloc ?_ _) | (with_reducible refine Kd.C_drewN ?_ _) | (with_reducible refine Kd.C_drew ?_))); (case side2 => exact HC173.out); rintro e w' ⟨rfl, ⟨nd, rfl⟩⟩; refine ⟨_, rfl, ?_⟩; have p176 : 0 ≤ (x10_2 : Int) := of_decide_eq_true (by first | (with_reducible assumption) | assumption); have q176 : x10_2 < (x5_1.length : Int) := of_decide_eq_true (by first | (with_reducible assumption) | assumption); obtain ⟨ad176, e176, hx176_0⟩ := Kd.at_int (Kd.R_reads' HO_5.out).2.2 x10_2 p176 q176; cases e176; replace p176 := eq_true p176; replace q176 := eq_true q176))
                            go_ret
                            exact ⟨by first | rfl | (simp [errW_none, errW_some] <;> rfl) | (simp [*, errW_none, errW_some] <;> rfl), by repeat (first | (with_reducible first | exact HB.out | apply below_alloc | apply pw_below_drewN | apply below_drew1) | exact HB.out)⟩
                        · rw [if_neg c28] at H
                          exact absurd H (by simp)
                      · rw [if_neg c26] at H
                        exact absurd H (by simp)
                    · rw [if_neg c25] at H
                      exact absurd H (by simp)
                  · rw [if_neg c24] at H
                    have c24b0 : decide (x10_2 < (x5_1.length : Int)) = false := decide_eq_false c24
                    clear c24
                    replace H := Option.bind_eq_some_iff.mp H
                    obtain ⟨⟨t168, t169⟩, A490, H⟩ := H
                    replace H : (if x8_2 = (x3_1.length : Int) then (some (t169 == x9_2)) else (some false)) = some r := H
                    have A49 := Aside0.mk A490
                    clear A490
                    by_cases c50 : x8_2 = (x3_1.length : Int)
                    · rw [if_pos c50] at H
                      have c50b0 : (x8_2 == (x3_1.length : Int)) = true := beq_iff_eq.mpr c50
                      have c50b1 : (x8_2 != (x3_1.length : Int)) = false := bne_eq_false_iff_eq.mpr c50
                      clear c50
                      obtain rfl := Option.some.inj H
                      obtain ⟨Ao51, co51, eo51⟩ := Kd.R_slice HO_5.out
                      subst eo51
                      obtain ⟨Ao52, co52, eo52⟩ := Kd.R_slice HO_3.out
                      subst eo52
                      go_wp2_with (first | ((with_reducible refine gate_callee (f := 25) rfl ?_); refine goesL_ (some 88) rfl rfl Try.func25 (by kernel_rfl) rfl #[.slice Ao52 x3_1.length co52] rfl (by (try simp only [List.map_toArray, List.map_cons, List.map_nil]); first | done | rfl | (simp only [List.length_drop, List.length_take]; rfl)) ?_; (with_reducible refine (char_Right.calls k2 _ _ x3_1 t168 t169 _ ?side1 ?side2 A49.out).mono ?_); (case side1 => repeat (first | exact (Kd.R_reads' HO_3.out).2.2 | (with_reducible refine Kd.C_alloc ?_ _) | (with_reducible refine Kd.C_drewN ?_ _) | (with_reducible refine Kd.C_drew ?_))); (case side2 => exact (Kd.R_reads' HO_3.out).2.1); rintro e w' ⟨rfl, ⟨nd, rfl⟩⟩; refine ⟨_, rfl, ?_⟩))
                      go_ret
                      exact ⟨by first | rfl | (simp [errW_none, errW_some] <;> rfl) | (simp [*, errW_none, errW_some] <;> rfl), by repeat (first | (with_reducible first | exact HB.out | apply below_alloc | apply pw_below_drewN | apply below_drew1) | exact HB.out)⟩
                    · rw [if_neg c50] at H
                      have c50b0 : (x8_2 == (x3_1.length : Int)) = false := beq_eq_false_iff_ne.mpr c50
                      have c50b1 : (x8_2 != (x3_1.length : Int)) = true := bne_iff_ne.mpr c50
                      obtain rfl := Option.some.inj H
                      obtain ⟨Ao53, co53, eo53⟩ := Kd.R_slice HO_5.out
                      subst eo53
                      obtain ⟨Ao54, co54, eo54⟩ := Kd.R_slice HO_3.out
                      subst eo54
                      go_wp2_with (first | ((with_reducible refine gate_callee (f := 25) rfl ?_); refine goesL_ (some 88) rfl rfl Try.func25 (by kernel_rfl) rfl #[.slice Ao54 x3_1.length co54] rfl (by (try simp only [List.map_toArray, List.map_cons, List.map_nil]); first | done | rfl | (simp only [List.length_drop, List.length_take]; rfl)) ?_; (with_reducible refine (char_Right.calls k2 _ _ x3_1 t168 t169 _ ?side1 ?side2 A49.out).mono ?_); (case side1 => repeat (first | exact (Kd.R_reads' HO_3.out).2.2 | (with_reducible refine Kd.C_alloc ?_ _) | (with_reducible refine Kd.C_drewN ?_ _) | (with_reducible refine Kd.C_drew ?_))); (case side2 => exact (Kd.R_reads' HO_3.out).2.1); rintro e w' ⟨rfl, ⟨nd, rfl⟩⟩; refine ⟨_, rfl, ?_⟩))
                      go_ret
                      exact ⟨by first | rfl | (simp [errW_none, errW_some] <;> rfl) | (simp [*, errW_none, errW_some] <;> rfl), by repeat (first | (with_reducible first | exact HB.out | apply below_alloc | apply pw_below_drewN | apply below_drew1) | exact HB.out)⟩
            · rw [if_neg c21] at H
              have c21b0 : (t167 == x4_1) = false := beq_eq_false_iff_ne.mpr c21
              have c21b1 : (t167 != x4_1) = true := bne_iff_ne.mpr c21
              obtain rfl := Option.some.inj H
              have hcv55 := own_string (P := Try.prog) Try.underlying32 Try.underlying5 Try.underlying9 (Kd.own_of_R HO_3.out)
              go_wp2_with (first | ((with_reducible refine gate_callee (f := 27) rfl ?_); refine goesL_ (some 48) rfl rfl Try.func27 (by kernel_rfl) rfl #[.string (strOfNums x3_1)] rfl (by (try simp only [List.map_toArray, List.map_cons, List.map_nil]); first | done | rfl | (simp only [List.length_drop, List.length_take]; rfl)) ?_; (with_reducible refine (char_Count.calls k1 (strOfNums x3_1) t167 _ A20.out).mono ?_); rintro e w56 ⟨rfl, hb⟩; refine ⟨_, rfl, ?_⟩; have n0_ := Aside0.mk (Kd.R_below (by (with_reducible repeat (first | apply Kd.R_alloc | apply Kd.R_drewN | apply Kd.R_drew)); exact HO_3.out) hb); have n1_ := Aside0.mk (Kd.R_below (by (with_reducible repeat (first | apply Kd.R_alloc | apply Kd.R_drewN | apply Kd.R_drew)); exact HO_5.out) hb); have n2_ := Aside0.mk (below_step (by repeat (first | (with_reducible first | exact HB.out | apply below_alloc | apply pw_below_drewN | apply below_drew1) | exact HB.out)) hb); clear HO_3; clear HO_5; clear HB; have HO_3 := n0_; have HO_5 := n1_; have HB := n2_; clear n0_ n1_ n2_; (try clear hb); (try clear hb2); (try clear hk); (try clear hi)))
              go_ret
              exact ⟨by first | rfl | (simp [errW_none, errW_some] <;> rfl) | (simp [*, errW_none, errW_some] <;> rfl), by repeat (first | (with_reducible first | exact HB.out | apply below_alloc | apply pw_below_drewN | apply below_drew1) | exact HB.out)⟩
  · replace c3 := Bool.eq_false_iff.mpr c3
    subst c3
    have H1 : (some false) = some r := by rw [if_neg (show ¬ (false = true) by decide)] at H; exact H
    clear H
    have H := H1
    clear H1
    obtain rfl := Option.some.inj H
    go_enter Try.func8, Try.ntmps8
    go_wp2_with (first | ((with_reducible refine gate_callee (f := 9) rfl ?_); refine goesL_ (some 15) rfl rfl Try.func9 (by kernel_rfl) rfl #[] rfl (by (try simp only [List.map_toArray, List.map_cons, List.map_nil]); first | done | rfl | (simp only [List.length_drop, List.length_take]; rfl)) ?_; (with_reducible refine (rubriclaw1_known.calls k  false _ A2.out).mono ?_); rintro e w57 ⟨rfl, hb⟩; refine ⟨_, rfl, ?_⟩; have n0_ := Aside0.mk (below_step (by repeat (first | (with_reducible first | exact HB.out | apply below_alloc | apply pw_below_drewN | apply below_drew1) | exact HB.out)) hb); clear HB; have HB := n0_; clear n0_; (try clear hb); (try clear hb2); (try clear hk); (try clear hi)))
    go_ret
    exact ⟨by first | rfl | (simp [errW_none, errW_some] <;> rfl) | (simp [*, errW_none, errW_some] <;> rfl), by repeat (first | (with_reducible first | exact HB.out | apply below_alloc | apply pw_below_drewN | apply below_drew1) | exact HB.out)⟩

/-- THE ONE PURE STATEMENT of rubriclaw1_CharRows: yours. -/
def rubriclaw1_CharRows.Pure : Prop := ∀ (l0 : List Int), l0.length ≤ maxLen → l0.length * 4 ≤ 140737488351232 → (∀ x ∈ l0, (Lit.int .i32 x).wf = true) → ∃ k, rubriclaw1_CharRows.f k l0 = some true
theorem rubriclaw1_CharRows.walk (P : rubriclaw1_CharRows.Pure) (a0 : Option Addr) (len0 cap0 : Nat) (z0 : List Int) (w : World) (w0 : (a0 = none ∧ len0 = 0 ∧ cap0 = 0 ∧ z0 = []) ∨ ∃ x, a0 = some x ∧ len0 ≤ cap0 ∧ cap0 ≤ maxLen ∧ z0.length = cap0 ∧ (∀ i, i < z0.length → w.cell? (x.add i) = some (.int .i32 (z0.getD i 0))) ∧ ∀ n ∈ z0, (Lit.int .i32 n).wf = true) (y0 : len0 * 4 ≤ 140737488351232) :
    Calls Try.prog 8 #[.slice a0 len0 cap0] w fun e w' => e = .returned (.bool true) ∧ Below w.heap.size w w' := by
  obtain ⟨l0, rfl, hr0, hm0, hw0, hc0⟩ := ReadsInt.ofRowC w0
  obtain ⟨k, h⟩ := P l0 hm0 y0 hw0
  refine (rubriclaw1_CharRows.calls k _ _ l0 true w (Kd.C_of_reads (d := (0 : Int)) (h1 := fun _ => rfl) hr0) hc0 h).mono ?_
  rintro e w' ⟨rfl, hd⟩
  exact ⟨rfl, hd⟩

end Go.Proofs.Ytjogllgkdnomiaa.PCharRows
