-- Written by a turned copy of the print (wip/print/mkprint.py): contracts proved by hand are joined in. Lean checks it.
import Derived.Test.YtdelafoijplleaaPNsBasex0
namespace Go.Proofs.Ytdelafoijplleaa.PNsBase
open Go.RowKit Go.Proofs.YtdelafoijplleaaW.PrintWords Go.Proofs.YtdelafoijplleaaW.PrintLast Go.Proofs.YtdelafoijplleaaW.PrintMore
attribute [local go_sem] max2_int min2_int max_two min_two max_three min_three max_four min_four   -- for this text's walks alone
set_option linter.unusedVariables false
set_option linter.unusedSimpArgs false

/-! ### char_lead: function 65 -/
def char_lead.f (a0 : Int) : Option (Int × Int × Int) := if a0 < 128 then (some (1, wrap32 (a0), 0)) else (if (a0 / 32) = 6 then (some (2, wrap32 (Go.bits .and .u8 a0 31), 128)) else (if (a0 / 16) = 14 then (some (3, wrap32 (Go.bits .and .u8 a0 15), 2048)) else (if (a0 / 8) = 30 then (some (4, wrap32 (Go.bits .and .u8 a0 7), 65536)) else (some (0, 0, 0)))))
set_option maxHeartbeats 8000000 in
set_option maxRecDepth 100000 in
theorem char_lead.calls (a0 : Int) (r1 : Int) (r2 : Int) (r3 : Int) (w : World) (h : char_lead.f a0 = some (r1, r2, r3)) :
    Calls Try.prog 65 #[.int .u8 a0] w fun e w' => e = .returned (.tuple #[.int .i64 r1, .int .i32 r2, .int .i32 r3]) ∧ Drawn0 w w' := by
  have H : (if a0 < 128 then (some (1, wrap32 (a0), 0)) else (if (a0 / 32) = 6 then (some (2, wrap32 (Go.bits .and .u8 a0 31), 128)) else (if (a0 / 16) = 14 then (some (3, wrap32 (Go.bits .and .u8 a0 15), 2048)) else (if (a0 / 8) = 30 then (some (4, wrap32 (Go.bits .and .u8 a0 7), 65536)) else (some (0, 0, 0)))))) = some (r1, r2, r3) := h
  clear h
  by_cases c2 : a0 < 128
  · rw [if_pos c2] at H
    have c2b0 : decide (a0 < 128) = true := decide_eq_true c2
    clear c2
    simp only [Option.some.injEq, Prod.mk.injEq] at H
    obtain ⟨rfl, rfl, rfl⟩ := H
    go_enter Try.func65, Try.ntmps65
    go_wp2
    go_ret3
    exact ⟨by first | rfl | (simp; done) | (simp [*]; done), by repeat (first | exact Drawn0.refl _ | apply Drawn0.step)⟩
  · rw [if_neg c2] at H
    have c2b0 : decide (a0 < 128) = false := decide_eq_false c2
    clear c2
    by_cases c3 : (a0 / 32) = 6
    · rw [if_pos c3] at H
      have c3b0 : ((a0 / 32) == 6) = true := beq_iff_eq.mpr c3
      have c3b1 : ((a0 / 32) != 6) = false := bne_eq_false_iff_eq.mpr c3
      clear c3
      simp only [Option.some.injEq, Prod.mk.injEq] at H
      obtain ⟨rfl, rfl, rfl⟩ := H
      go_enter Try.func65, Try.ntmps65
      go_wp2
      go_ret3
      exact ⟨by first | rfl | (simp; done) | (simp [*]; done), by repeat (first | exact Drawn0.refl _ | apply Drawn0.step)⟩
    · rw [if_neg c3] at H
      have c3b0 : ((a0 / 32) == 6) = false := beq_eq_false_iff_ne.mpr c3
      have c3b1 : ((a0 / 32) != 6) = true := bne_iff_ne.mpr c3
      by_cases c4 : (a0 / 16) = 14
      · rw [if_pos c4] at H
        have c4b0 : ((a0 / 16) == 14) = true := beq_iff_eq.mpr c4
        have c4b1 : ((a0 / 16) != 14) = false := bne_eq_false_iff_eq.mpr c4
        clear c4
        simp only [Option.some.injEq, Prod.mk.injEq] at H
        obtain ⟨rfl, rfl, rfl⟩ := H
        go_enter Try.func65, Try.ntmps65
        go_wp2
        go_ret3
        exact ⟨by first | rfl | (simp; done) | (simp [*]; done), by repeat (first | exact Drawn0.refl _ | apply Drawn0.step)⟩
      · rw [if_neg c4] at H
        have c4b0 : ((a0 / 16) == 14) = false := beq_eq_false_iff_ne.mpr c4
        have c4b1 : ((a0 / 16) != 14) = true := bne_iff_ne.mpr c4
        by_cases c5 : (a0 / 8) = 30
        · rw [if_pos c5] at H
          have c5b0 : ((a0 / 8) == 30) = true := beq_iff_eq.mpr c5
          have c5b1 : ((a0 / 8) != 30) = false := bne_eq_false_iff_eq.mpr c5
          clear c5
          simp only [Option.some.injEq, Prod.mk.injEq] at H
          obtain ⟨rfl, rfl, rfl⟩ := H
          go_enter Try.func65, Try.ntmps65
          go_wp2
          go_ret3
          exact ⟨by first | rfl | (simp; done) | (simp [*]; done), by repeat (first | exact Drawn0.refl _ | apply Drawn0.step)⟩
        · rw [if_neg c5] at H
          have c5b0 : ((a0 / 8) == 30) = false := beq_eq_false_iff_ne.mpr c5
          have c5b1 : ((a0 / 8) != 30) = true := bne_iff_ne.mpr c5
          simp only [Option.some.injEq, Prod.mk.injEq] at H
          obtain ⟨rfl, rfl, rfl⟩ := H
          go_enter Try.func65, Try.ntmps65
          go_wp2
          go_ret3
          exact ⟨by first | rfl | (simp; done) | (simp [*]; done), by repeat (first | exact Drawn0.refl _ | apply Drawn0.step)⟩

/-! ### char_may: function 66 -/
def char_may.f (a0 : Int) : Option (Bool) := if a0 ≥ 0 then (if a0 ≤ 1114111 then (if a0 < 55296 then (some true) else (some (decide (a0 > 57343)))) else (some false)) else (some false)
set_option maxHeartbeats 8000000 in
set_option maxRecDepth 100000 in
theorem char_may.calls (a0 : Int) (r : Bool) (w : World) (h : char_may.f a0 = some r) :
    Calls Try.prog 66 #[.int .i32 a0] w fun e w' => e = .returned (.bool r) ∧ Drawn0 w w' := by
  have H : (if a0 ≥ 0 then (if a0 ≤ 1114111 then (if a0 < 55296 then (some true) else (some (decide (a0 > 57343)))) else (some false)) else (some false)) = some r := h
  clear h
  by_cases c2 : a0 ≥ 0
  · rw [if_pos c2] at H
    have c2b0 : decide (0 ≤ a0) = true := decide_eq_true c2
    clear c2
    by_cases c3 : a0 ≤ 1114111
    · rw [if_pos c3] at H
      have c3b0 : decide (a0 ≤ 1114111) = true := decide_eq_true c3
      clear c3
      by_cases c4 : a0 < 55296
      · rw [if_pos c4] at H
        have c4b0 : decide (a0 < 55296) = true := decide_eq_true c4
        clear c4
        obtain rfl := Option.some.inj H
        go_enter Try.func66, Try.ntmps66
        go_wp2
        go_ret
        exact ⟨by first | rfl | (simp; done) | (simp [*]; done), by repeat (first | exact Drawn0.refl _ | apply Drawn0.step)⟩
      · rw [if_neg c4] at H
        have c4b0 : decide (a0 < 55296) = false := decide_eq_false c4
        clear c4
        obtain rfl := Option.some.inj H
        go_enter Try.func66, Try.ntmps66
        go_wp2
        go_ret
        exact ⟨by first | rfl | (simp; done) | (simp [*]; done), by repeat (first | exact Drawn0.refl _ | apply Drawn0.step)⟩
    · rw [if_neg c3] at H
      have c3b0 : decide (a0 ≤ 1114111) = false := decide_eq_false c3
      clear c3
      obtain rfl := Option.some.inj H
      go_enter Try.func66, Try.ntmps66
      go_wp2
      go_ret
      exact ⟨by first | rfl | (simp; done) | (simp [*]; done), by repeat (first | exact Drawn0.refl _ | apply Drawn0.step)⟩
  · rw [if_neg c2] at H
    have c2b0 : decide (0 ≤ a0) = false := decide_eq_false c2
    clear c2
    obtain rfl := Option.some.inj H
    go_enter Try.func66, Try.ntmps66
    go_wp2
    go_ret
    exact ⟨by first | rfl | (simp; done) | (simp [*]; done), by repeat (first | exact Drawn0.refl _ | apply Drawn0.step)⟩

/-! ### char_Decode: function 55 -/
/-- The first letter and its bytes, over bytes as numbers. -/
def decS : List Int → Int × Int
  | [] => (-1, 0)
  | c :: t =>
    if c < 128 then (c, 1)
    else if c / 32 = 6 then (match t with
      | a :: _ => if a / 64 = 2 then (if c % 32 * 64 + a % 64 < 128 then (-1, 0) else (c % 32 * 64 + a % 64, 2)) else (-1, 0)
      | [] => (-1, 0))
    else if c / 16 = 14 then (match t with
      | a :: b :: _ => if a / 64 = 2 then (if b / 64 = 2 then (if (c % 16 * 64 + a % 64) * 64 + b % 64 < 2048 then (-1, 0) else if 55296 ≤ (c % 16 * 64 + a % 64) * 64 + b % 64 ∧ (c % 16 * 64 + a % 64) * 64 + b % 64 ≤ 57343 then (-1, 0) else ((c % 16 * 64 + a % 64) * 64 + b % 64, 3)) else (-1, 0)) else (-1, 0)
      | _ => (-1, 0))
    else if c / 8 = 30 then (match t with
      | a :: b :: d :: _ => if a / 64 = 2 then (if b / 64 = 2 then (if d / 64 = 2 then (if ((c % 8 * 64 + a % 64) * 64 + b % 64) * 64 + d % 64 < 65536 then (-1, 0) else if 1114111 < ((c % 8 * 64 + a % 64) * 64 + b % 64) * 64 + d % 64 then (-1, 0) else (((c % 8 * 64 + a % 64) * 64 + b % 64) * 64 + d % 64, 4)) else (-1, 0)) else (-1, 0)) else (-1, 0)
      | _ => (-1, 0))
    else (-1, 0)
def isByte (x : Int) : Bool := decide (0 ≤ x) && decide (x < 256)
def char_Decode.f (l : List Int) : Option (Int × Int) := if (l.take 4).all isByte then some (decS l) else none
theorem isByte_iff {x : Int} (h : isByte x = true) : 0 ≤ x ∧ x < 256 := by
  unfold isByte at h
  simpa using h

set_option maxHeartbeats 1600000 in
set_option maxRecDepth 100000 in
theorem dec0 (ad : Addr) (c0 m : Nat) (c : Int) (w : World) (hcap : m + 1 ≤ c0) (x0 : w.cell? ad = some (.int .u8 c)) (b1 : 0 ≤ c) (b2 : c < 256) (h1 : ¬ c < 128) (h2 : ¬ c / 32 = 6) (h3 : ¬ c / 16 = 14) (h4 : ¬ c / 8 = 30) :
    Calls Try.prog 55 #[.slice (some ad) (m + 1) c0] w fun e w' => e = .returned (.tuple #[.int .i32 (-1), .int .i64 0]) ∧ Drawn0 w w' := by
  have hl : char_lead.f c = some (0, 0, 0) := by
    unfold char_lead.f
    rw [if_neg h1, if_neg h2, if_neg h3, if_neg h4]
  have HL := Aside0.mk hl
  clear hl
  have h0 : ((m : Int) + 1 == 0) = false := by rw [beq_eq_false_iff_ne]; omega
  go_enter Try.func55, Try.ntmps55
  go_wp2_with (first | (go_at_call 65; (with_reducible refine (char_lead.calls _ _ _ _ _ HL.out).mono ?_); rintro e w' ⟨rfl, ⟨nd, rfl⟩⟩))
  go_ret2
  exact ⟨by first | rfl | (simp; done) | (simp [*]; done), by repeat (first | exact Drawn0.refl _ | apply Drawn0.step)⟩

set_option maxHeartbeats 1600000 in
set_option maxRecDepth 100000 in
theorem dec1 (ad : Addr) (c0 m : Nat) (c : Int) (w : World) (hcap : m + 1 ≤ c0) (x0 : w.cell? ad = some (.int .u8 c)) (b1 : 0 ≤ c) (b2 : c < 256) (h1 : c < 128) :
    Calls Try.prog 55 #[.slice (some ad) (m + 1) c0] w fun e w' => e = .returned (.tuple #[.int .i32 (c), .int .i64 1]) ∧ Drawn0 w w' := by
  have hl : char_lead.f c = some (1, c, 0) := by
    unfold char_lead.f
    rw [if_pos h1]
    simp [wrap32]; omega
  have HL := Aside0.mk hl
  clear hl
  have HM : Aside0 (char_may.f c = some true) := ⟨by unfold char_may.f; rw [if_pos (by omega), if_pos (by omega), if_pos (by omega)]⟩
  have h0 : ((m : Int) + 1 == 0) = false := by rw [beq_eq_false_iff_ne]; omega
  go_enter Try.func55, Try.ntmps55
  go_wp2_with (first | (go_at_call 65; (with_reducible refine (char_lead.calls _ _ _ _ _ HL.out).mono ?_); rintro e w' ⟨rfl, ⟨nd, rfl⟩⟩) | (go_at_call 66; (with_reducible refine (char_may.calls _ true _ HM.out).mono ?_); rintro e w' ⟨rfl, ⟨nd2, rfl⟩⟩))
  all_goals
    refine wp_loop_rounds 1 ?_
    rw [rounds_succ]
    go_wp2_with (first | (go_at_call 65; (with_reducible refine (char_lead.calls _ _ _ _ _ HL.out).mono ?_); rintro e w' ⟨rfl, ⟨nd, rfl⟩⟩) | (go_at_call 66; (with_reducible refine (char_may.calls _ true _ HM.out).mono ?_); rintro e w' ⟨rfl, ⟨nd2, rfl⟩⟩))
    go_ret2
    exact ⟨by first | rfl | (simp; done) | (simp [*]; done), by repeat (first | exact Drawn0.refl _ | apply Drawn0.step)⟩

set_option maxHeartbeats 1600000 in
set_option maxRecDepth 100000 in
theorem dec2s1 (ad : Addr) (c0 : Nat) (c : Int) (w : World) (hcap : 1 ≤ c0) (x0 : w.cell? ad = some (.int .u8 c)) (b1 : 0 ≤ c) (b2 : c < 256) (hn : c / 32 = 6) :
    Calls Try.prog 55 #[.slice (some ad) 1 c0] w fun e w' => e = .returned (.tuple #[.int .i32 (-1), .int .i64 0]) ∧ Drawn0 w w' := by
  have hl : char_lead.f c = some (2, c % 32, 128) := by
    unfold char_lead.f
    rw [if_neg (by omega), if_pos hn, u8_and31 _ b1 b2]
    simp [wrap32]; omega
  have HL := Aside0.mk hl
  clear hl hn
  go_enter Try.func55, Try.ntmps55
  go_wp2_with (go_at_call 65; (with_reducible refine (char_lead.calls _ _ _ _ _ HL.out).mono ?_); rintro e w' ⟨rfl, ⟨nd, rfl⟩⟩)
  go_ret2
  exact ⟨by first | rfl | (simp; done) | (simp [*]; done), by repeat (first | exact Drawn0.refl _ | apply Drawn0.step)⟩

set_option maxHeartbeats 1600000 in
set_option maxRecDepth 100000 in
theorem dec2b1 (ad : Addr) (c0 m : Nat) (c a : Int) (w : World) (hcap : m + 2 ≤ c0) (x0 : w.cell? ad = some (.int .u8 c)) (x1 : w.cell? ⟨ad.block, ad.off + 1, none⟩ = some (.int .u8 a)) (b1 : 0 ≤ c) (b2 : c < 256) (b3 : 0 ≤ a) (b4 : a < 256) (hn : c / 32 = 6) (g1 : (a / 64 != 2) = true) :
    Calls Try.prog 55 #[.slice (some ad) (m + 2) c0] w fun e w' => e = .returned (.tuple #[.int .i32 (-1), .int .i64 0]) ∧ Drawn0 w w' := by
  have hl : char_lead.f c = some (2, c % 32, 128) := by
    unfold char_lead.f
    rw [if_neg (by omega), if_pos hn, u8_and31 _ b1 b2]
    simp [wrap32]; omega
  have HL := Aside0.mk hl
  clear hl
  clear hn
  have h0 : ((m : Int) + 2 == 0) = false := by rw [beq_eq_false_iff_ne]; omega
  go_enter Try.func55, Try.ntmps55
  go_wp2_with (first | (go_at_call 65; (with_reducible refine (char_lead.calls _ _ _ _ _ HL.out).mono ?_); rintro e w' ⟨rfl, ⟨nd, rfl⟩⟩))
  refine wp_loop_rounds 1 ?_
  rw [rounds_succ]
  go_wp2_with (first | (go_at_call 65; (with_reducible refine (char_lead.calls _ _ _ _ _ HL.out).mono ?_); rintro e w' ⟨rfl, ⟨nd, rfl⟩⟩))
  go_ret2
  exact ⟨by first | rfl | (simp; done) | (simp [*]; done), by repeat (first | exact Drawn0.refl _ | apply Drawn0.step)⟩

set_option maxHeartbeats 1600000 in
set_option maxRecDepth 100000 in
theorem dec2low (ad : Addr) (c0 m : Nat) (c a : Int) (w : World) (hcap : m + 2 ≤ c0) (x0 : w.cell? ad = some (.int .u8 c)) (x1 : w.cell? ⟨ad.block, ad.off + 1, none⟩ = some (.int .u8 a)) (b1 : 0 ≤ c) (b2 : c < 256) (b3 : 0 ≤ a) (b4 : a < 256) (hn : c / 32 = 6) (g1 : (a / 64 != 2) = false) (hr : c % 32 * 64 + a % 64 < 128) :
    Calls Try.prog 55 #[.slice (some ad) (m + 2) c0] w fun e w' => e = .returned (.tuple #[.int .i32 (-1), .int .i64 0]) ∧ Drawn0 w w' := by
  have hl : char_lead.f c = some (2, c % 32, 128) := by
    unfold char_lead.f
    rw [if_neg (by omega), if_pos hn, u8_and31 _ b1 b2]
    simp [wrap32]; omega
  have HL := Aside0.mk hl
  clear hl
  clear hn
  have h0 : ((m : Int) + 2 == 0) = false := by rw [beq_eq_false_iff_ne]; omega
  go_enter Try.func55, Try.ntmps55
  go_wp2_with (first | (go_at_call 65; (with_reducible refine (char_lead.calls _ _ _ _ _ HL.out).mono ?_); rintro e w' ⟨rfl, ⟨nd, rfl⟩⟩))
  refine wp_loop_rounds 2 ?_
  rw [rounds_succ]
  go_wp2_with (first | (go_at_call 65; (with_reducible refine (char_lead.calls _ _ _ _ _ HL.out).mono ?_); rintro e w' ⟨rfl, ⟨nd, rfl⟩⟩))
  rw [rounds_succ]
  go_wp2_with (first | (go_at_call 65; (with_reducible refine (char_lead.calls _ _ _ _ _ HL.out).mono ?_); rintro e w' ⟨rfl, ⟨nd, rfl⟩⟩))
  go_ret2
  exact ⟨by first | rfl | (simp; done) | (simp [*]; done), by repeat (first | exact Drawn0.refl _ | apply Drawn0.step)⟩

set_option maxHeartbeats 1600000 in
set_option maxRecDepth 100000 in
theorem dec2ok (ad : Addr) (c0 m : Nat) (c a : Int) (w : World) (hcap : m + 2 ≤ c0) (x0 : w.cell? ad = some (.int .u8 c)) (x1 : w.cell? ⟨ad.block, ad.off + 1, none⟩ = some (.int .u8 a)) (b1 : 0 ≤ c) (b2 : c < 256) (b3 : 0 ≤ a) (b4 : a < 256) (hn : c / 32 = 6) (g1 : (a / 64 != 2) = false) (hr : ¬ c % 32 * 64 + a % 64 < 128) :
    Calls Try.prog 55 #[.slice (some ad) (m + 2) c0] w fun e w' => e = .returned (.tuple #[.int .i32 (c % 32 * 64 + a % 64), .int .i64 2]) ∧ Drawn0 w w' := by
  have hl : char_lead.f c = some (2, c % 32, 128) := by
    unfold char_lead.f
    rw [if_neg (by omega), if_pos hn, u8_and31 _ b1 b2]
    simp [wrap32]; omega
  have HL := Aside0.mk hl
  clear hl
  have HM : Aside0 (char_may.f (c % 32 * 64 + a % 64) = some true) := ⟨by unfold char_may.f; rw [if_pos (by omega), if_pos (by omega), if_pos (by omega)]⟩
  clear hn
  have h0 : ((m : Int) + 2 == 0) = false := by rw [beq_eq_false_iff_ne]; omega
  go_enter Try.func55, Try.ntmps55
  go_wp2_with (first | (go_at_call 65; (with_reducible refine (char_lead.calls _ _ _ _ _ HL.out).mono ?_); rintro e w' ⟨rfl, ⟨nd, rfl⟩⟩) | (go_at_call 66; (with_reducible refine (char_may.calls _ true _ HM.out).mono ?_); rintro e w' ⟨rfl, ⟨nd2, rfl⟩⟩))
  refine wp_loop_rounds 2 ?_
  rw [rounds_succ]
  go_wp2_with (first | (go_at_call 65; (with_reducible refine (char_lead.calls _ _ _ _ _ HL.out).mono ?_); rintro e w' ⟨rfl, ⟨nd, rfl⟩⟩) | (go_at_call 66; (with_reducible refine (char_may.calls _ true _ HM.out).mono ?_); rintro e w' ⟨rfl, ⟨nd2, rfl⟩⟩))
  rw [rounds_succ]
  go_wp2_with (first | (go_at_call 65; (with_reducible refine (char_lead.calls _ _ _ _ _ HL.out).mono ?_); rintro e w' ⟨rfl, ⟨nd, rfl⟩⟩) | (go_at_call 66; (with_reducible refine (char_may.calls _ true _ HM.out).mono ?_); rintro e w' ⟨rfl, ⟨nd2, rfl⟩⟩))
  go_ret2
  exact ⟨by first | rfl | (simp; done) | (simp [*]; done), by repeat (first | exact Drawn0.refl _ | apply Drawn0.step)⟩

set_option maxHeartbeats 1600000 in
set_option maxRecDepth 100000 in
theorem dec3s1 (ad : Addr) (c0 : Nat) (c : Int) (w : World) (hcap : 1 ≤ c0) (x0 : w.cell? ad = some (.int .u8 c)) (b1 : 0 ≤ c) (b2 : c < 256) (hn : c / 16 = 14) :
    Calls Try.prog 55 #[.slice (some ad) 1 c0] w fun e w' => e = .returned (.tuple #[.int .i32 (-1), .int .i64 0]) ∧ Drawn0 w w' := by
  have hl : char_lead.f c = some (3, c % 16, 2048) := by
    unfold char_lead.f
    rw [if_neg (by omega), if_neg (by omega), if_pos hn, u8_and15 _ b1 b2]
    simp [wrap32]; omega
  have HL := Aside0.mk hl
  clear hl hn
  go_enter Try.func55, Try.ntmps55
  go_wp2_with (go_at_call 65; (with_reducible refine (char_lead.calls _ _ _ _ _ HL.out).mono ?_); rintro e w' ⟨rfl, ⟨nd, rfl⟩⟩)
  go_ret2
  exact ⟨by first | rfl | (simp; done) | (simp [*]; done), by repeat (first | exact Drawn0.refl _ | apply Drawn0.step)⟩

set_option maxHeartbeats 1600000 in
set_option maxRecDepth 100000 in
theorem dec3s2 (ad : Addr) (c0 : Nat) (c : Int) (w : World) (hcap : 2 ≤ c0) (x0 : w.cell? ad = some (.int .u8 c)) (b1 : 0 ≤ c) (b2 : c < 256) (hn : c / 16 = 14) :
    Calls Try.prog 55 #[.slice (some ad) 2 c0] w fun e w' => e = .returned (.tuple #[.int .i32 (-1), .int .i64 0]) ∧ Drawn0 w w' := by
  have hl : char_lead.f c = some (3, c % 16, 2048) := by
    unfold char_lead.f
    rw [if_neg (by omega), if_neg (by omega), if_pos hn, u8_and15 _ b1 b2]
    simp [wrap32]; omega
  have HL := Aside0.mk hl
  clear hl hn
  go_enter Try.func55, Try.ntmps55
  go_wp2_with (go_at_call 65; (with_reducible refine (char_lead.calls _ _ _ _ _ HL.out).mono ?_); rintro e w' ⟨rfl, ⟨nd, rfl⟩⟩)
  go_ret2
  exact ⟨by first | rfl | (simp; done) | (simp [*]; done), by repeat (first | exact Drawn0.refl _ | apply Drawn0.step)⟩

set_option maxHeartbeats 1600000 in
set_option maxRecDepth 100000 in
theorem dec3b1 (ad : Addr) (c0 m : Nat) (c a : Int) (w : World) (hcap : m + 3 ≤ c0) (x0 : w.cell? ad = some (.int .u8 c)) (x1 : w.cell? ⟨ad.block, ad.off + 1, none⟩ = some (.int .u8 a)) (b1 : 0 ≤ c) (b2 : c < 256) (b3 : 0 ≤ a) (b4 : a < 256) (hn : c / 16 = 14) (g1 : (a / 64 != 2) = true) :
    Calls Try.prog 55 #[.slice (some ad) (m + 3) c0] w fun e w' => e = .returned (.tuple #[.int .i32 (-1), .int .i64 0]) ∧ Drawn0 w w' := by
  have hl : char_lead.f c = some (3, c % 16, 2048) := by
    unfold char_lead.f
    rw [if_neg (by omega), if_neg (by omega), if_pos hn, u8_and15 _ b1 b2]
    simp [wrap32]; omega
  have HL := Aside0.mk hl
  clear hl
  clear hn
  have h0 : ((m : Int) + 3 == 0) = false := by rw [beq_eq_false_iff_ne]; omega
  go_enter Try.func55, Try.ntmps55
  go_wp2_with (first | (go_at_call 65; (with_reducible refine (char_lead.calls _ _ _ _ _ HL.out).mono ?_); rintro e w' ⟨rfl, ⟨nd, rfl⟩⟩))
  refine wp_loop_rounds 1 ?_
  rw [rounds_succ]
  go_wp2_with (first | (go_at_call 65; (with_reducible refine (char_lead.calls _ _ _ _ _ HL.out).mono ?_); rintro e w' ⟨rfl, ⟨nd, rfl⟩⟩))
  go_ret2
  exact ⟨by first | rfl | (simp; done) | (simp [*]; done), by repeat (first | exact Drawn0.refl _ | apply Drawn0.step)⟩

set_option maxHeartbeats 1600000 in
set_option maxRecDepth 100000 in
theorem dec3b2 (ad : Addr) (c0 m : Nat) (c a b : Int) (w : World) (hcap : m + 3 ≤ c0) (x0 : w.cell? ad = some (.int .u8 c)) (x1 : w.cell? ⟨ad.block, ad.off + 1, none⟩ = some (.int .u8 a)) (x2 : w.cell? ⟨ad.block, ad.off + 1 + 1, none⟩ = some (.int .u8 b)) (b1 : 0 ≤ c) (b2 : c < 256) (b3 : 0 ≤ a) (b4 : a < 256) (b5 : 0 ≤ b) (b6 : b < 256) (hn : c / 16 = 14) (g1 : (a / 64 != 2) = false) (g2 : (b / 64 != 2) = true) :
    Calls Try.prog 55 #[.slice (some ad) (m + 3) c0] w fun e w' => e = .returned (.tuple #[.int .i32 (-1), .int .i64 0]) ∧ Drawn0 w w' := by
  have hl : char_lead.f c = some (3, c % 16, 2048) := by
    unfold char_lead.f
    rw [if_neg (by omega), if_neg (by omega), if_pos hn, u8_and15 _ b1 b2]
    simp [wrap32]; omega
  have HL := Aside0.mk hl
  clear hl
  clear hn
  have h0 : ((m : Int) + 3 == 0) = false := by rw [beq_eq_false_iff_ne]; omega
  go_enter Try.func55, Try.ntmps55
  go_wp2_with (first | (go_at_call 65; (with_reducible refine (char_lead.calls _ _ _ _ _ HL.out).mono ?_); rintro e w' ⟨rfl, ⟨nd, rfl⟩⟩))
  refine wp_loop_rounds 2 ?_
  rw [rounds_succ]
  go_wp2_with (first | (go_at_call 65; (with_reducible refine (char_lead.calls _ _ _ _ _ HL.out).mono ?_); rintro e w' ⟨rfl, ⟨nd, rfl⟩⟩))
  rw [rounds_succ]
  go_wp2_with (first | (go_at_call 65; (with_reducible refine (char_lead.calls _ _ _ _ _ HL.out).mono ?_); rintro e w' ⟨rfl, ⟨nd, rfl⟩⟩))
  go_ret2
  exact ⟨by first | rfl | (simp; done) | (simp [*]; done), by repeat (first | exact Drawn0.refl _ | apply Drawn0.step)⟩

set_option maxHeartbeats 1600000 in
set_option maxRecDepth 100000 in
theorem dec3low (ad : Addr) (c0 m : Nat) (c a b : Int) (w : World) (hcap : m + 3 ≤ c0) (x0 : w.cell? ad = some (.int .u8 c)) (x1 : w.cell? ⟨ad.block, ad.off + 1, none⟩ = some (.int .u8 a)) (x2 : w.cell? ⟨ad.block, ad.off + 1 + 1, none⟩ = some (.int .u8 b)) (b1 : 0 ≤ c) (b2 : c < 256) (b3 : 0 ≤ a) (b4 : a < 256) (b5 : 0 ≤ b) (b6 : b < 256) (hn : c / 16 = 14) (g1 : (a / 64 != 2) = false) (g2 : (b / 64 != 2) = false) (hr : (c % 16 * 64 + a % 64) * 64 + b % 64 < 2048) :
    Calls Try.prog 55 #[.slice (some ad) (m + 3) c0] w fun e w' => e = .returned (.tuple #[.int .i32 (-1), .int .i64 0]) ∧ Drawn0 w w' := by
  have hl : char_lead.f c = some (3, c % 16, 2048) := by
    unfold char_lead.f
    rw [if_neg (by omega), if_neg (by omega), if_pos hn, u8_and15 _ b1 b2]
    simp [wrap32]; omega
  have HL := Aside0.mk hl
  clear hl
  clear hn
  have h0 : ((m : Int) + 3 == 0) = false := by rw [beq_eq_false_iff_ne]; omega
  go_enter Try.func55, Try.ntmps55
  go_wp2_with (first | (go_at_call 65; (with_reducible refine (char_lead.calls _ _ _ _ _ HL.out).mono ?_); rintro e w' ⟨rfl, ⟨nd, rfl⟩⟩))
  refine wp_loop_rounds 3 ?_
  rw [rounds_succ]
  go_wp2_with (first | (go_at_call 65; (with_reducible refine (char_lead.calls _ _ _ _ _ HL.out).mono ?_); rintro e w' ⟨rfl, ⟨nd, rfl⟩⟩))
  rw [rounds_succ]
  go_wp2_with (first | (go_at_call 65; (with_reducible refine (char_lead.calls _ _ _ _ _ HL.out).mono ?_); rintro e w' ⟨rfl, ⟨nd, rfl⟩⟩))
  rw [rounds_succ]
  go_wp2_with (first | (go_at_call 65; (with_reducible refine (char_lead.calls _ _ _ _ _ HL.out).mono ?_); rintro e w' ⟨rfl, ⟨nd, rfl⟩⟩))
  go_ret2
  exact ⟨by first | rfl | (simp; done) | (simp [*]; done), by repeat (first | exact Drawn0.refl _ | apply Drawn0.step)⟩

set_option maxHeartbeats 1600000 in
set_option maxRecDepth 100000 in
theorem dec3no (ad : Addr) (c0 m : Nat) (c a b : Int) (w : World) (hcap : m + 3 ≤ c0) (x0 : w.cell? ad = some (.int .u8 c)) (x1 : w.cell? ⟨ad.block, ad.off + 1, none⟩ = some (.int .u8 a)) (x2 : w.cell? ⟨ad.block, ad.off + 1 + 1, none⟩ = some (.int .u8 b)) (b1 : 0 ≤ c) (b2 : c < 256) (b3 : 0 ≤ a) (b4 : a < 256) (b5 : 0 ≤ b) (b6 : b < 256) (hn : c / 16 = 14) (g1 : (a / 64 != 2) = false) (g2 : (b / 64 != 2) = false) (hr : ¬ (c % 16 * 64 + a % 64) * 64 + b % 64 < 2048) (hs : 55296 ≤ (c % 16 * 64 + a % 64) * 64 + b % 64 ∧ (c % 16 * 64 + a % 64) * 64 + b % 64 ≤ 57343) :
    Calls Try.prog 55 #[.slice (some ad) (m + 3) c0] w fun e w' => e = .returned (.tuple #[.int .i32 (-1), .int .i64 0]) ∧ Drawn0 w w' := by
  have hl : char_lead.f c = some (3, c % 16, 2048) := by
    unfold char_lead.f
    rw [if_neg (by omega), if_neg (by omega), if_pos hn, u8_and15 _ b1 b2]
    simp [wrap32]; omega
  have HL := Aside0.mk hl
  clear hl
  have HM : Aside0 (char_may.f ((c % 16 * 64 + a % 64) * 64 + b % 64) = some false) := ⟨by unfold char_may.f; rw [if_pos (by omega), if_pos (by omega), if_neg (by omega)]; simp; omega⟩
  clear hn hs
  have h0 : ((m : Int) + 3 == 0) = false := by rw [beq_eq_false_iff_ne]; omega
  go_enter Try.func55, Try.ntmps55
  go_wp2_with (first | (go_at_call 65; (with_reducible refine (char_lead.calls _ _ _ _ _ HL.out).mono ?_); rintro e w' ⟨rfl, ⟨nd, rfl⟩⟩) | (go_at_call 66; (with_reducible refine (char_may.calls _ false _ HM.out).mono ?_); rintro e w' ⟨rfl, ⟨nd2, rfl⟩⟩))
  refine wp_loop_rounds 3 ?_
  rw [rounds_succ]
  go_wp2_with (first | (go_at_call 65; (with_reducible refine (char_lead.calls _ _ _ _ _ HL.out).mono ?_); rintro e w' ⟨rfl, ⟨nd, rfl⟩⟩) | (go_at_call 66; (with_reducible refine (char_may.calls _ false _ HM.out).mono ?_); rintro e w' ⟨rfl, ⟨nd2, rfl⟩⟩))
  rw [rounds_succ]
  go_wp2_with (first | (go_at_call 65; (with_reducible refine (char_lead.calls _ _ _ _ _ HL.out).mono ?_); rintro e w' ⟨rfl, ⟨nd, rfl⟩⟩) | (go_at_call 66; (with_reducible refine (char_may.calls _ false _ HM.out).mono ?_); rintro e w' ⟨rfl, ⟨nd2, rfl⟩⟩))
  rw [rounds_succ]
  go_wp2_with (first | (go_at_call 65; (with_reducible refine (char_lead.calls _ _ _ _ _ HL.out).mono ?_); rintro e w' ⟨rfl, ⟨nd, rfl⟩⟩) | (go_at_call 66; (with_reducible refine (char_may.calls _ false _ HM.out).mono ?_); rintro e w' ⟨rfl, ⟨nd2, rfl⟩⟩))
  go_ret2
  exact ⟨by first | rfl | (simp; done) | (simp [*]; done), by repeat (first | exact Drawn0.refl _ | apply Drawn0.step)⟩

set_option maxHeartbeats 1600000 in
set_option maxRecDepth 100000 in
theorem dec3ok (ad : Addr) (c0 m : Nat) (c a b : Int) (w : World) (hcap : m + 3 ≤ c0) (x0 : w.cell? ad = some (.int .u8 c)) (x1 : w.cell? ⟨ad.block, ad.off + 1, none⟩ = some (.int .u8 a)) (x2 : w.cell? ⟨ad.block, ad.off + 1 + 1, none⟩ = some (.int .u8 b)) (b1 : 0 ≤ c) (b2 : c < 256) (b3 : 0 ≤ a) (b4 : a < 256) (b5 : 0 ≤ b) (b6 : b < 256) (hn : c / 16 = 14) (g1 : (a / 64 != 2) = false) (g2 : (b / 64 != 2) = false) (hr : ¬ (c % 16 * 64 + a % 64) * 64 + b % 64 < 2048) (hs : ¬ (55296 ≤ (c % 16 * 64 + a % 64) * 64 + b % 64 ∧ (c % 16 * 64 + a % 64) * 64 + b % 64 ≤ 57343)) :
    Calls Try.prog 55 #[.slice (some ad) (m + 3) c0] w fun e w' => e = .returned (.tuple #[.int .i32 ((c % 16 * 64 + a % 64) * 64 + b % 64), .int .i64 3]) ∧ Drawn0 w w' := by
  have hl : char_lead.f c = some (3, c % 16, 2048) := by
    unfold char_lead.f
    rw [if_neg (by omega), if_neg (by omega), if_pos hn, u8_and15 _ b1 b2]
    simp [wrap32]; omega
  have HL := Aside0.mk hl
  clear hl
  have HM : Aside0 (char_may.f ((c % 16 * 64 + a % 64) * 64 + b % 64) = some true) := ⟨by
    unfold char_may.f
    rw [if_pos (by omega), if_pos (by omega)]
    split
    · rfl
    · simp; omega⟩
  clear hn hs
  have h0 : ((m : Int) + 3 == 0) = false := by rw [beq_eq_false_iff_ne]; omega
  go_enter Try.func55, Try.ntmps55
  go_wp2_with (first | (go_at_call 65; (with_reducible refine (char_lead.calls _ _ _ _ _ HL.out).mono ?_); rintro e w' ⟨rfl, ⟨nd, rfl⟩⟩) | (go_at_call 66; (with_reducible refine (char_may.calls _ true _ HM.out).mono ?_); rintro e w' ⟨rfl, ⟨nd2, rfl⟩⟩))
  refine wp_loop_rounds 3 ?_
  rw [rounds_succ]
  go_wp2_with (first | (go_at_call 65; (with_reducible refine (char_lead.calls _ _ _ _ _ HL.out).mono ?_); rintro e w' ⟨rfl, ⟨nd, rfl⟩⟩) | (go_at_call 66; (with_reducible refine (char_may.calls _ true _ HM.out).mono ?_); rintro e w' ⟨rfl, ⟨nd2, rfl⟩⟩))
  rw [rounds_succ]
  go_wp2_with (first | (go_at_call 65; (with_reducible refine (char_lead.calls _ _ _ _ _ HL.out).mono ?_); rintro e w' ⟨rfl, ⟨nd, rfl⟩⟩) | (go_at_call 66; (with_reducible refine (char_may.calls _ true _ HM.out).mono ?_); rintro e w' ⟨rfl, ⟨nd2, rfl⟩⟩))
  rw [rounds_succ]
  go_wp2_with (first | (go_at_call 65; (with_reducible refine (char_lead.calls _ _ _ _ _ HL.out).mono ?_); rintro e w' ⟨rfl, ⟨nd, rfl⟩⟩) | (go_at_call 66; (with_reducible refine (char_may.calls _ true _ HM.out).mono ?_); rintro e w' ⟨rfl, ⟨nd2, rfl⟩⟩))
  go_ret2
  exact ⟨by first | rfl | (simp; done) | (simp [*]; done), by repeat (first | exact Drawn0.refl _ | apply Drawn0.step)⟩

set_option maxHeartbeats 1600000 in
set_option maxRecDepth 100000 in
theorem dec4s1 (ad : Addr) (c0 : Nat) (c : Int) (w : World) (hcap : 1 ≤ c0) (x0 : w.cell? ad = some (.int .u8 c)) (b1 : 0 ≤ c) (b2 : c < 256) (hn : c / 8 = 30) :
    Calls Try.prog 55 #[.slice (some ad) 1 c0] w fun e w' => e = .returned (.tuple #[.int .i32 (-1), .int .i64 0]) ∧ Drawn0 w w' := by
  have hl : char_lead.f c = some (4, c % 8, 65536) := by
    unfold char_lead.f
    rw [if_neg (by omega), if_neg (by omega), if_neg (by omega), if_pos hn, u8_and7 _ b1 b2]
    simp [wrap32]; omega
  have HL := Aside0.mk hl
  clear hl hn
  go_enter Try.func55, Try.ntmps55
  go_wp2_with (go_at_call 65; (with_reducible refine (char_lead.calls _ _ _ _ _ HL.out).mono ?_); rintro e w' ⟨rfl, ⟨nd, rfl⟩⟩)
  go_ret2
  exact ⟨by first | rfl | (simp; done) | (simp [*]; done), by repeat (first | exact Drawn0.refl _ | apply Drawn0.step)⟩

set_option maxHeartbeats 1600000 in
set_option maxRecDepth 100000 in
theorem dec4s2 (ad : Addr) (c0 : Nat) (c : Int) (w : World) (hcap : 2 ≤ c0) (x0 : w.cell? ad = some (.int .u8 c)) (b1 : 0 ≤ c) (b2 : c < 256) (hn : c / 8 = 30) :
    Calls Try.prog 55 #[.slice (some ad) 2 c0] w fun e w' => e = .returned (.tuple #[.int .i32 (-1), .int .i64 0]) ∧ Drawn0 w w' := by
  have hl : char_lead.f c = some (4, c % 8, 65536) := by
    unfold char_lead.f
    rw [if_neg (by omega), if_neg (by omega), if_neg (by omega), if_pos hn, u8_and7 _ b1 b2]
    simp [wrap32]; omega
  have HL := Aside0.mk hl
  clear hl hn
  go_enter Try.func55, Try.ntmps55
  go_wp2_with (go_at_call 65; (with_reducible refine (char_lead.calls _ _ _ _ _ HL.out).mono ?_); rintro e w' ⟨rfl, ⟨nd, rfl⟩⟩)
  go_ret2
  exact ⟨by first | rfl | (simp; done) | (simp [*]; done), by repeat (first | exact Drawn0.refl _ | apply Drawn0.step)⟩

set_option maxHeartbeats 1600000 in
set_option maxRecDepth 100000 in
theorem dec4s3 (ad : Addr) (c0 : Nat) (c : Int) (w : World) (hcap : 3 ≤ c0) (x0 : w.cell? ad = some (.int .u8 c)) (b1 : 0 ≤ c) (b2 : c < 256) (hn : c / 8 = 30) :
    Calls Try.prog 55 #[.slice (some ad) 3 c0] w fun e w' => e = .returned (.tuple #[.int .i32 (-1), .int .i64 0]) ∧ Drawn0 w w' := by
  have hl : char_lead.f c = some (4, c % 8, 65536) := by
    unfold char_lead.f
    rw [if_neg (by omega), if_neg (by omega), if_neg (by omega), if_pos hn, u8_and7 _ b1 b2]
    simp [wrap32]; omega
  have HL := Aside0.mk hl
  clear hl hn
  go_enter Try.func55, Try.ntmps55
  go_wp2_with (go_at_call 65; (with_reducible refine (char_lead.calls _ _ _ _ _ HL.out).mono ?_); rintro e w' ⟨rfl, ⟨nd, rfl⟩⟩)
  go_ret2
  exact ⟨by first | rfl | (simp; done) | (simp [*]; done), by repeat (first | exact Drawn0.refl _ | apply Drawn0.step)⟩

set_option maxHeartbeats 1600000 in
set_option maxRecDepth 100000 in
theorem dec4b1 (ad : Addr) (c0 m : Nat) (c a : Int) (w : World) (hcap : m + 4 ≤ c0) (x0 : w.cell? ad = some (.int .u8 c)) (x1 : w.cell? ⟨ad.block, ad.off + 1, none⟩ = some (.int .u8 a)) (b1 : 0 ≤ c) (b2 : c < 256) (b3 : 0 ≤ a) (b4 : a < 256) (hn : c / 8 = 30) (g1 : (a / 64 != 2) = true) :
    Calls Try.prog 55 #[.slice (some ad) (m + 4) c0] w fun e w' => e = .returned (.tuple #[.int .i32 (-1), .int .i64 0]) ∧ Drawn0 w w' := by
  have hl : char_lead.f c = some (4, c % 8, 65536) := by
    unfold char_lead.f
    rw [if_neg (by omega), if_neg (by omega), if_neg (by omega), if_pos hn, u8_and7 _ b1 b2]
    simp [wrap32]; omega
  have HL := Aside0.mk hl
  clear hl
  clear hn
  have h0 : ((m : Int) + 4 == 0) = false := by rw [beq_eq_false_iff_ne]; omega
  go_enter Try.func55, Try.ntmps55
  go_wp2_with (first | (go_at_call 65; (with_reducible refine (char_lead.calls _ _ _ _ _ HL.out).mono ?_); rintro e w' ⟨rfl, ⟨nd, rfl⟩⟩))
  refine wp_loop_rounds 1 ?_
  rw [rounds_succ]
  go_wp2_with (first | (go_at_call 65; (with_reducible refine (char_lead.calls _ _ _ _ _ HL.out).mono ?_); rintro e w' ⟨rfl, ⟨nd, rfl⟩⟩))
  go_ret2
  exact ⟨by first | rfl | (simp; done) | (simp [*]; done), by repeat (first | exact Drawn0.refl _ | apply Drawn0.step)⟩

set_option maxHeartbeats 1600000 in
set_option maxRecDepth 100000 in
theorem dec4b2 (ad : Addr) (c0 m : Nat) (c a b : Int) (w : World) (hcap : m + 4 ≤ c0) (x0 : w.cell? ad = some (.int .u8 c)) (x1 : w.cell? ⟨ad.block, ad.off + 1, none⟩ = some (.int .u8 a)) (x2 : w.cell? ⟨ad.block, ad.off + 1 + 1, none⟩ = some (.int .u8 b)) (b1 : 0 ≤ c) (b2 : c < 256) (b3 : 0 ≤ a) (b4 : a < 256) (b5 : 0 ≤ b) (b6 : b < 256) (hn : c / 8 = 30) (g1 : (a / 64 != 2) = false) (g2 : (b / 64 != 2) = true) :
    Calls Try.prog 55 #[.slice (some ad) (m + 4) c0] w fun e w' => e = .returned (.tuple #[.int .i32 (-1), .int .i64 0]) ∧ Drawn0 w w' := by
  have hl : char_lead.f c = some (4, c % 8, 65536) := by
    unfold char_lead.f
    rw [if_neg (by omega), if_neg (by omega), if_neg (by omega), if_pos hn, u8_and7 _ b1 b2]
    simp [wrap32]; omega
  have HL := Aside0.mk hl
  clear hl
  clear hn
  have h0 : ((m : Int) + 4 == 0) = false := by rw [beq_eq_false_iff_ne]; omega
  go_enter Try.func55, Try.ntmps55
  go_wp2_with (first | (go_at_call 65; (with_reducible refine (char_lead.calls _ _ _ _ _ HL.out).mono ?_); rintro e w' ⟨rfl, ⟨nd, rfl⟩⟩))
  refine wp_loop_rounds 2 ?_
  rw [rounds_succ]
  go_wp2_with (first | (go_at_call 65; (with_reducible refine (char_lead.calls _ _ _ _ _ HL.out).mono ?_); rintro e w' ⟨rfl, ⟨nd, rfl⟩⟩))
  rw [rounds_succ]
  go_wp2_with (first | (go_at_call 65; (with_reducible refine (char_lead.calls _ _ _ _ _ HL.out).mono ?_); rintro e w' ⟨rfl, ⟨nd, rfl⟩⟩))
  go_ret2
  exact ⟨by first | rfl | (simp; done) | (simp [*]; done), by repeat (first | exact Drawn0.refl _ | apply Drawn0.step)⟩

set_option maxHeartbeats 1600000 in
set_option maxRecDepth 100000 in
theorem dec4b3 (ad : Addr) (c0 m : Nat) (c a b d : Int) (w : World) (hcap : m + 4 ≤ c0) (x0 : w.cell? ad = some (.int .u8 c)) (x1 : w.cell? ⟨ad.block, ad.off + 1, none⟩ = some (.int .u8 a)) (x2 : w.cell? ⟨ad.block, ad.off + 1 + 1, none⟩ = some (.int .u8 b)) (x3 : w.cell? ⟨ad.block, ad.off + 1 + 1 + 1, none⟩ = some (.int .u8 d)) (b1 : 0 ≤ c) (b2 : c < 256) (b3 : 0 ≤ a) (b4 : a < 256) (b5 : 0 ≤ b) (b6 : b < 256) (b7 : 0 ≤ d) (b8 : d < 256) (hn : c / 8 = 30) (g1 : (a / 64 != 2) = false) (g2 : (b / 64 != 2) = false) (g3 : (d / 64 != 2) = true) :
    Calls Try.prog 55 #[.slice (some ad) (m + 4) c0] w fun e w' => e = .returned (.tuple #[.int .i32 (-1), .int .i64 0]) ∧ Drawn0 w w' := by
  have hl : char_lead.f c = some (4, c % 8, 65536) := by
    unfold char_lead.f
    rw [if_neg (by omega), if_neg (by omega), if_neg (by omega), if_pos hn, u8_and7 _ b1 b2]
    simp [wrap32]; omega
  have HL := Aside0.mk hl
  clear hl
  clear hn
  have h0 : ((m : Int) + 4 == 0) = false := by rw [beq_eq_false_iff_ne]; omega
  go_enter Try.func55, Try.ntmps55
  go_wp2_with (first | (go_at_call 65; (with_reducible refine (char_lead.calls _ _ _ _ _ HL.out).mono ?_); rintro e w' ⟨rfl, ⟨nd, rfl⟩⟩))
  refine wp_loop_rounds 3 ?_
  rw [rounds_succ]
  go_wp2_with (first | (go_at_call 65; (with_reducible refine (char_lead.calls _ _ _ _ _ HL.out).mono ?_); rintro e w' ⟨rfl, ⟨nd, rfl⟩⟩))
  rw [rounds_succ]
  go_wp2_with (first | (go_at_call 65; (with_reducible refine (char_lead.calls _ _ _ _ _ HL.out).mono ?_); rintro e w' ⟨rfl, ⟨nd, rfl⟩⟩))
  rw [rounds_succ]
  go_wp2_with (first | (go_at_call 65; (with_reducible refine (char_lead.calls _ _ _ _ _ HL.out).mono ?_); rintro e w' ⟨rfl, ⟨nd, rfl⟩⟩))
  go_ret2
  exact ⟨by first | rfl | (simp; done) | (simp [*]; done), by repeat (first | exact Drawn0.refl _ | apply Drawn0.step)⟩

set_option maxHeartbeats 1600000 in
set_option maxRecDepth 100000 in
theorem dec4low (ad : Addr) (c0 m : Nat) (c a b d : Int) (w : World) (hcap : m + 4 ≤ c0) (x0 : w.cell? ad = some (.int .u8 c)) (x1 : w.cell? ⟨ad.block, ad.off + 1, none⟩ = some (.int .u8 a)) (x2 : w.cell? ⟨ad.block, ad.off + 1 + 1, none⟩ = some (.int .u8 b)) (x3 : w.cell? ⟨ad.block, ad.off + 1 + 1 + 1, none⟩ = some (.int .u8 d)) (b1 : 0 ≤ c) (b2 : c < 256) (b3 : 0 ≤ a) (b4 : a < 256) (b5 : 0 ≤ b) (b6 : b < 256) (b7 : 0 ≤ d) (b8 : d < 256) (hn : c / 8 = 30) (g1 : (a / 64 != 2) = false) (g2 : (b / 64 != 2) = false) (g3 : (d / 64 != 2) = false) (hr : ((c % 8 * 64 + a % 64) * 64 + b % 64) * 64 + d % 64 < 65536) :
    Calls Try.prog 55 #[.slice (some ad) (m + 4) c0] w fun e w' => e = .returned (.tuple #[.int .i32 (-1), .int .i64 0]) ∧ Drawn0 w w' := by
  have hl : char_lead.f c = some (4, c % 8, 65536) := by
    unfold char_lead.f
    rw [if_neg (by omega), if_neg (by omega), if_neg (by omega), if_pos hn, u8_and7 _ b1 b2]
    simp [wrap32]; omega
  have HL := Aside0.mk hl
  clear hl
  clear hn
  have h0 : ((m : Int) + 4 == 0) = false := by rw [beq_eq_false_iff_ne]; omega
  go_enter Try.func55, Try.ntmps55
  go_wp2_with (first | (go_at_call 65; (with_reducible refine (char_lead.calls _ _ _ _ _ HL.out).mono ?_); rintro e w' ⟨rfl, ⟨nd, rfl⟩⟩))
  refine wp_loop_rounds 4 ?_
  rw [rounds_succ]
  go_wp2_with (first | (go_at_call 65; (with_reducible refine (char_lead.calls _ _ _ _ _ HL.out).mono ?_); rintro e w' ⟨rfl, ⟨nd, rfl⟩⟩))
  rw [rounds_succ]
  go_wp2_with (first | (go_at_call 65; (with_reducible refine (char_lead.calls _ _ _ _ _ HL.out).mono ?_); rintro e w' ⟨rfl, ⟨nd, rfl⟩⟩))
  rw [rounds_succ]
  go_wp2_with (first | (go_at_call 65; (with_reducible refine (char_lead.calls _ _ _ _ _ HL.out).mono ?_); rintro e w' ⟨rfl, ⟨nd, rfl⟩⟩))
  rw [rounds_succ]
  go_wp2_with (first | (go_at_call 65; (with_reducible refine (char_lead.calls _ _ _ _ _ HL.out).mono ?_); rintro e w' ⟨rfl, ⟨nd, rfl⟩⟩))
  go_ret2
  exact ⟨by first | rfl | (simp; done) | (simp [*]; done), by repeat (first | exact Drawn0.refl _ | apply Drawn0.step)⟩

set_option maxHeartbeats 1600000 in
set_option maxRecDepth 100000 in
theorem dec4no (ad : Addr) (c0 m : Nat) (c a b d : Int) (w : World) (hcap : m + 4 ≤ c0) (x0 : w.cell? ad = some (.int .u8 c)) (x1 : w.cell? ⟨ad.block, ad.off + 1, none⟩ = some (.int .u8 a)) (x2 : w.cell? ⟨ad.block, ad.off + 1 + 1, none⟩ = some (.int .u8 b)) (x3 : w.cell? ⟨ad.block, ad.off + 1 + 1 + 1, none⟩ = some (.int .u8 d)) (b1 : 0 ≤ c) (b2 : c < 256) (b3 : 0 ≤ a) (b4 : a < 256) (b5 : 0 ≤ b) (b6 : b < 256) (b7 : 0 ≤ d) (b8 : d < 256) (hn : c / 8 = 30) (g1 : (a / 64 != 2) = false) (g2 : (b / 64 != 2) = false) (g3 : (d / 64 != 2) = false) (hr : ¬ ((c % 8 * 64 + a % 64) * 64 + b % 64) * 64 + d % 64 < 65536) (hs : 1114111 < ((c % 8 * 64 + a % 64) * 64 + b % 64) * 64 + d % 64) :
    Calls Try.prog 55 #[.slice (some ad) (m + 4) c0] w fun e w' => e = .returned (.tuple #[.int .i32 (-1), .int .i64 0]) ∧ Drawn0 w w' := by
  have hl : char_lead.f c = some (4, c % 8, 65536) := by
    unfold char_lead.f
    rw [if_neg (by omega), if_neg (by omega), if_neg (by omega), if_pos hn, u8_and7 _ b1 b2]
    simp [wrap32]; omega
  have HL := Aside0.mk hl
  clear hl
  have HM : Aside0 (char_may.f (((c % 8 * 64 + a % 64) * 64 + b % 64) * 64 + d % 64) = some false) := ⟨by unfold char_may.f; rw [if_pos (by omega), if_neg (by omega)]⟩
  clear hn hs
  have h0 : ((m : Int) + 4 == 0) = false := by rw [beq_eq_false_iff_ne]; omega
  go_enter Try.func55, Try.ntmps55
  go_wp2_with (first | (go_at_call 65; (with_reducible refine (char_lead.calls _ _ _ _ _ HL.out).mono ?_); rintro e w' ⟨rfl, ⟨nd, rfl⟩⟩) | (go_at_call 66; (with_reducible refine (char_may.calls _ false _ HM.out).mono ?_); rintro e w' ⟨rfl, ⟨nd2, rfl⟩⟩))
  refine wp_loop_rounds 4 ?_
  rw [rounds_succ]
  go_wp2_with (first | (go_at_call 65; (with_reducible refine (char_lead.calls _ _ _ _ _ HL.out).mono ?_); rintro e w' ⟨rfl, ⟨nd, rfl⟩⟩) | (go_at_call 66; (with_reducible refine (char_may.calls _ false _ HM.out).mono ?_); rintro e w' ⟨rfl, ⟨nd2, rfl⟩⟩))
  rw [rounds_succ]
  go_wp2_with (first | (go_at_call 65; (with_reducible refine (char_lead.calls _ _ _ _ _ HL.out).mono ?_); rintro e w' ⟨rfl, ⟨nd, rfl⟩⟩) | (go_at_call 66; (with_reducible refine (char_may.calls _ false _ HM.out).mono ?_); rintro e w' ⟨rfl, ⟨nd2, rfl⟩⟩))
  rw [rounds_succ]
  go_wp2_with (first | (go_at_call 65; (with_reducible refine (char_lead.calls _ _ _ _ _ HL.out).mono ?_); rintro e w' ⟨rfl, ⟨nd, rfl⟩⟩) | (go_at_call 66; (with_reducible refine (char_may.calls _ false _ HM.out).mono ?_); rintro e w' ⟨rfl, ⟨nd2, rfl⟩⟩))
  rw [rounds_succ]
  go_wp2_with (first | (go_at_call 65; (with_reducible refine (char_lead.calls _ _ _ _ _ HL.out).mono ?_); rintro e w' ⟨rfl, ⟨nd, rfl⟩⟩) | (go_at_call 66; (with_reducible refine (char_may.calls _ false _ HM.out).mono ?_); rintro e w' ⟨rfl, ⟨nd2, rfl⟩⟩))
  go_ret2
  exact ⟨by first | rfl | (simp; done) | (simp [*]; done), by repeat (first | exact Drawn0.refl _ | apply Drawn0.step)⟩

set_option maxHeartbeats 1600000 in
set_option maxRecDepth 100000 in
theorem dec4ok (ad : Addr) (c0 m : Nat) (c a b d : Int) (w : World) (hcap : m + 4 ≤ c0) (x0 : w.cell? ad = some (.int .u8 c)) (x1 : w.cell? ⟨ad.block, ad.off + 1, none⟩ = some (.int .u8 a)) (x2 : w.cell? ⟨ad.block, ad.off + 1 + 1, none⟩ = some (.int .u8 b)) (x3 : w.cell? ⟨ad.block, ad.off + 1 + 1 + 1, none⟩ = some (.int .u8 d)) (b1 : 0 ≤ c) (b2 : c < 256) (b3 : 0 ≤ a) (b4 : a < 256) (b5 : 0 ≤ b) (b6 : b < 256) (b7 : 0 ≤ d) (b8 : d < 256) (hn : c / 8 = 30) (g1 : (a / 64 != 2) = false) (g2 : (b / 64 != 2) = false) (g3 : (d / 64 != 2) = false) (hr : ¬ ((c % 8 * 64 + a % 64) * 64 + b % 64) * 64 + d % 64 < 65536) (hs : ¬ 1114111 < ((c % 8 * 64 + a % 64) * 64 + b % 64) * 64 + d % 64) :
    Calls Try.prog 55 #[.slice (some ad) (m + 4) c0] w fun e w' => e = .returned (.tuple #[.int .i32 (((c % 8 * 64 + a % 64) * 64 + b % 64) * 64 + d % 64), .int .i64 4]) ∧ Drawn0 w w' := by
  have hl : char_lead.f c = some (4, c % 8, 65536) := by
    unfold char_lead.f
    rw [if_neg (by omega), if_neg (by omega), if_neg (by omega), if_pos hn, u8_and7 _ b1 b2]
    simp [wrap32]; omega
  have HL := Aside0.mk hl
  clear hl
  have HM : Aside0 (char_may.f (((c % 8 * 64 + a % 64) * 64 + b % 64) * 64 + d % 64) = some true) := ⟨by unfold char_may.f; rw [if_pos (by omega), if_pos (by omega), if_neg (by omega)]; simp; omega⟩
  clear hn hs
  have h0 : ((m : Int) + 4 == 0) = false := by rw [beq_eq_false_iff_ne]; omega
  go_enter Try.func55, Try.ntmps55
  go_wp2_with (first | (go_at_call 65; (with_reducible refine (char_lead.calls _ _ _ _ _ HL.out).mono ?_); rintro e w' ⟨rfl, ⟨nd, rfl⟩⟩) | (go_at_call 66; (with_reducible refine (char_may.calls _ true _ HM.out).mono ?_); rintro e w' ⟨rfl, ⟨nd2, rfl⟩⟩))
  refine wp_loop_rounds 4 ?_
  rw [rounds_succ]
  go_wp2_with (first | (go_at_call 65; (with_reducible refine (char_lead.calls _ _ _ _ _ HL.out).mono ?_); rintro e w' ⟨rfl, ⟨nd, rfl⟩⟩) | (go_at_call 66; (with_reducible refine (char_may.calls _ true _ HM.out).mono ?_); rintro e w' ⟨rfl, ⟨nd2, rfl⟩⟩))
  rw [rounds_succ]
  go_wp2_with (first | (go_at_call 65; (with_reducible refine (char_lead.calls _ _ _ _ _ HL.out).mono ?_); rintro e w' ⟨rfl, ⟨nd, rfl⟩⟩) | (go_at_call 66; (with_reducible refine (char_may.calls _ true _ HM.out).mono ?_); rintro e w' ⟨rfl, ⟨nd2, rfl⟩⟩))
  rw [rounds_succ]
  go_wp2_with (first | (go_at_call 65; (with_reducible refine (char_lead.calls _ _ _ _ _ HL.out).mono ?_); rintro e w' ⟨rfl, ⟨nd, rfl⟩⟩) | (go_at_call 66; (with_reducible refine (char_may.calls _ true _ HM.out).mono ?_); rintro e w' ⟨rfl, ⟨nd2, rfl⟩⟩))
  rw [rounds_succ]
  go_wp2_with (first | (go_at_call 65; (with_reducible refine (char_lead.calls _ _ _ _ _ HL.out).mono ?_); rintro e w' ⟨rfl, ⟨nd, rfl⟩⟩) | (go_at_call 66; (with_reducible refine (char_may.calls _ true _ HM.out).mono ?_); rintro e w' ⟨rfl, ⟨nd2, rfl⟩⟩))
  go_ret2
  exact ⟨by first | rfl | (simp; done) | (simp [*]; done), by repeat (first | exact Drawn0.refl _ | apply Drawn0.step)⟩

theorem isByte_at {l : List Int} (h : (l.take 4).all isByte = true) (i : Nat) (x : Int) (hi : i < 4) (hx : l[i]? = some x) : 0 ≤ x ∧ x < 256 := by
  refine isByte_iff (List.all_eq_true.1 h x ?_)
  have h1 : (l.take 4)[i]? = some x := by rw [List.getElem?_take_of_lt hi]; exact hx
  exact List.mem_of_getElem? h1
theorem cellD {w : World} {ad : Addr} {n : Nat} {l : List Int} (h : Kd.C (Kd.int .u8) w (some ad) n l) (i : Nat) (x : Int) (hx : l[i]? = some x) : w.cell? (ad.add i) = some (.int .u8 x) := by
  have hl := (List.getElem?_eq_some_iff.1 hx).1
  have hn : n = l.length := h.1.symm
  obtain ⟨ad', e, hc⟩ := Kd.at_int h (i : Int) (by omega) (by omega)
  cases e
  rw [Int.toNat_natCast] at hc
  rw [hc]
  simp [rd, hx]
theorem cellD1 {w : World} {ad : Addr} {n : Nat} {l : List Int} (h : Kd.C (Kd.int .u8) w (some ad) n l) (i : Nat) (x : Int) (hx : l[i]? = some x) (hi : i ≠ 0) : w.cell? ⟨ad.block, ad.off + i, none⟩ = some (.int .u8 x) := by
  rw [← cellD h i x hx]
  unfold Addr.add
  rw [if_neg hi]
theorem ne2_false {x : Int} (h : x / 64 = 2) : (x / 64 != 2) = false := by rw [bne_eq_false_iff_eq]; exact h
theorem ne2_true {x : Int} (h : ¬ x / 64 = 2) : (x / 64 != 2) = true := by rw [bne_iff_ne]; exact h
set_option maxHeartbeats 1600000 in
theorem char_Decode.calls (A0 : Option Addr) (c0 : Nat) (l0 : List Int) (r1 : Int) (r2 : Int) (w : World) (hr0 : Kd.C (Kd.int .u8) w A0 l0.length l0) (hc0 : l0.length ≤ c0) (h : char_Decode.f l0 = some (r1, r2)) :
    Calls Try.prog 55 #[.slice A0 l0.length c0] w fun e w' => e = .returned (.tuple #[.int .i32 r1, .int .i64 r2]) ∧ Drawn0 w w' := by
  unfold char_Decode.f at h
  by_cases hb : (l0.take 4).all isByte = true
  rotate_left
  · rw [if_neg hb] at h; exact absurd h (by simp)
  rw [if_pos hb] at h
  have h' := Option.some.inj h
  clear h
  match l0, hr0, hc0, hb, h' with
  | [], hr0, hc0, hb, h' =>
    obtain ⟨rfl, rfl⟩ := Prod.mk.inj h'
    go_enter Try.func55, Try.ntmps55
    go_wp2
    go_ret2
    exact ⟨by first | rfl | (simp; done) | (simp [*]; done), by repeat (first | exact Drawn0.refl _ | apply Drawn0.step)⟩
  | c :: t, hr0, hc0, hb, h' =>
    obtain ⟨ad, rfl, _⟩ := Kd.at_int hr0 0 (by omega) (by simp)
    obtain ⟨bc0, bc1⟩ := isByte_at hb 0 c (by omega) rfl
    have xc : w.cell? ad = some (.int .u8 c) := by have := cellD hr0 0 c rfl; rwa [Addr.add_zero'] at this
    simp only [decS] at h'
    simp only [List.length_cons] at hc0 ⊢
    by_cases h1 : c < 128
    · rw [if_pos h1] at h'
      obtain ⟨rfl, rfl⟩ := Prod.mk.inj h'
      exact dec1 ad c0 t.length c w hc0 xc bc0 bc1 h1
    rw [if_neg h1] at h'
    by_cases h2 : c / 32 = 6
    · rw [if_pos h2] at h'
      match t, hr0, hc0, hb, h' with
      | [], hr0, hc0, hb, h' =>
        obtain ⟨rfl, rfl⟩ := Prod.mk.inj h'
        exact dec2s1 ad c0 c w hc0 xc bc0 bc1 h2
      | a :: t1, hr0, hc0, hb, h' =>
        obtain ⟨ba0, ba1⟩ := isByte_at hb 1 a (by omega) rfl
        have xa : w.cell? ⟨ad.block, ad.off + 1, none⟩ = some (.int .u8 a) := cellD1 hr0 1 a rfl (by omega)
        simp only [List.length_cons] at hc0 ⊢
        simp only [] at h'
        by_cases g1 : a / 64 = 2
        rotate_left
        · rw [if_neg g1] at h'
          obtain ⟨rfl, rfl⟩ := Prod.mk.inj h'
          exact dec2b1 ad c0 t1.length c a w hc0 xc xa bc0 bc1 ba0 ba1 h2  (ne2_true g1)
        rw [if_pos g1] at h'
        by_cases hr : c % 32 * 64 + a % 64 < 128
        · rw [if_pos hr] at h'
          obtain ⟨rfl, rfl⟩ := Prod.mk.inj h'
          exact dec2low ad c0 t1.length c a w hc0 xc xa bc0 bc1 ba0 ba1 h2 (ne2_false g1) hr
        rw [if_neg hr] at h'
        obtain ⟨rfl, rfl⟩ := Prod.mk.inj h'
        exact dec2ok ad c0 t1.length c a w hc0 xc xa bc0 bc1 ba0 ba1 h2 (ne2_false g1) hr
    rw [if_neg h2] at h'
    by_cases h3 : c / 16 = 14
    · rw [if_pos h3] at h'
      match t, hr0, hc0, hb, h' with
      | [], hr0, hc0, hb, h' =>
        obtain ⟨rfl, rfl⟩ := Prod.mk.inj h'
        exact dec3s1 ad c0 c w hc0 xc bc0 bc1 h3
      | a :: t1, hr0, hc0, hb, h' =>
        obtain ⟨ba0, ba1⟩ := isByte_at hb 1 a (by omega) rfl
        have xa : w.cell? ⟨ad.block, ad.off + 1, none⟩ = some (.int .u8 a) := cellD1 hr0 1 a rfl (by omega)
        simp only [List.length_cons] at hc0 ⊢
        match t1, hr0, hc0, hb, h' with
        | [], hr0, hc0, hb, h' =>
          obtain ⟨rfl, rfl⟩ := Prod.mk.inj h'
          exact dec3s2 ad c0 c w hc0 xc bc0 bc1 h3
        | b :: t2, hr0, hc0, hb, h' =>
          obtain ⟨bb0, bb1⟩ := isByte_at hb 2 b (by omega) rfl
          have xb : w.cell? ⟨ad.block, ad.off + 1 + 1, none⟩ = some (.int .u8 b) := cellD1 hr0 2 b rfl (by omega)
          simp only [List.length_cons] at hc0 ⊢
          simp only [] at h'
          by_cases g1 : a / 64 = 2
          rotate_left
          · rw [if_neg g1] at h'
            obtain ⟨rfl, rfl⟩ := Prod.mk.inj h'
            exact dec3b1 ad c0 t2.length c a w hc0 xc xa bc0 bc1 ba0 ba1 h3  (ne2_true g1)
          rw [if_pos g1] at h'
          by_cases g2 : b / 64 = 2
          rotate_left
          · rw [if_neg g2] at h'
            obtain ⟨rfl, rfl⟩ := Prod.mk.inj h'
            exact dec3b2 ad c0 t2.length c a b w hc0 xc xa xb bc0 bc1 ba0 ba1 bb0 bb1 h3 (ne2_false g1) (ne2_true g2)
          rw [if_pos g2] at h'
          by_cases hr : (c % 16 * 64 + a % 64) * 64 + b % 64 < 2048
          · rw [if_pos hr] at h'
            obtain ⟨rfl, rfl⟩ := Prod.mk.inj h'
            exact dec3low ad c0 t2.length c a b w hc0 xc xa xb bc0 bc1 ba0 ba1 bb0 bb1 h3 (ne2_false g1) (ne2_false g2) hr
          rw [if_neg hr] at h'
          by_cases hs : 55296 ≤ (c % 16 * 64 + a % 64) * 64 + b % 64 ∧ (c % 16 * 64 + a % 64) * 64 + b % 64 ≤ 57343
          · rw [if_pos hs] at h'
            obtain ⟨rfl, rfl⟩ := Prod.mk.inj h'
            exact dec3no ad c0 t2.length c a b w hc0 xc xa xb bc0 bc1 ba0 ba1 bb0 bb1 h3 (ne2_false g1) (ne2_false g2) hr hs
          rw [if_neg hs] at h'
          obtain ⟨rfl, rfl⟩ := Prod.mk.inj h'
          exact dec3ok ad c0 t2.length c a b w hc0 xc xa xb bc0 bc1 ba0 ba1 bb0 bb1 h3 (ne2_false g1) (ne2_false g2) hr hs
    rw [if_neg h3] at h'
    by_cases h4 : c / 8 = 30
    · rw [if_pos h4] at h'
      match t, hr0, hc0, hb, h' with
      | [], hr0, hc0, hb, h' =>
        obtain ⟨rfl, rfl⟩ := Prod.mk.inj h'
        exact dec4s1 ad c0 c w hc0 xc bc0 bc1 h4
      | a :: t1, hr0, hc0, hb, h' =>
        obtain ⟨ba0, ba1⟩ := isByte_at hb 1 a (by omega) rfl
        have xa : w.cell? ⟨ad.block, ad.off + 1, none⟩ = some (.int .u8 a) := cellD1 hr0 1 a rfl (by omega)
        simp only [List.length_cons] at hc0 ⊢
        match t1, hr0, hc0, hb, h' with
        | [], hr0, hc0, hb, h' =>
          obtain ⟨rfl, rfl⟩ := Prod.mk.inj h'
          exact dec4s2 ad c0 c w hc0 xc bc0 bc1 h4
        | b :: t2, hr0, hc0, hb, h' =>
          obtain ⟨bb0, bb1⟩ := isByte_at hb 2 b (by omega) rfl
          have xb : w.cell? ⟨ad.block, ad.off + 1 + 1, none⟩ = some (.int .u8 b) := cellD1 hr0 2 b rfl (by omega)
          simp only [List.length_cons] at hc0 ⊢
          match t2, hr0, hc0, hb, h' with
          | [], hr0, hc0, hb, h' =>
            obtain ⟨rfl, rfl⟩ := Prod.mk.inj h'
            exact dec4s3 ad c0 c w hc0 xc bc0 bc1 h4
          | d :: t3, hr0, hc0, hb, h' =>
            obtain ⟨bd0, bd1⟩ := isByte_at hb 3 d (by omega) rfl
            have xd : w.cell? ⟨ad.block, ad.off + 1 + 1 + 1, none⟩ = some (.int .u8 d) := cellD1 hr0 3 d rfl (by omega)
            simp only [List.length_cons] at hc0 ⊢
            simp only [] at h'
            by_cases g1 : a / 64 = 2
            rotate_left
            · rw [if_neg g1] at h'
              obtain ⟨rfl, rfl⟩ := Prod.mk.inj h'
              exact dec4b1 ad c0 t3.length c a w hc0 xc xa bc0 bc1 ba0 ba1 h4  (ne2_true g1)
            rw [if_pos g1] at h'
            by_cases g2 : b / 64 = 2
            rotate_left
            · rw [if_neg g2] at h'
              obtain ⟨rfl, rfl⟩ := Prod.mk.inj h'
              exact dec4b2 ad c0 t3.length c a b w hc0 xc xa xb bc0 bc1 ba0 ba1 bb0 bb1 h4 (ne2_false g1) (ne2_true g2)
            rw [if_pos g2] at h'
            by_cases g3 : d / 64 = 2
            rotate_left
            · rw [if_neg g3] at h'
              obtain ⟨rfl, rfl⟩ := Prod.mk.inj h'
              exact dec4b3 ad c0 t3.length c a b d w hc0 xc xa xb xd bc0 bc1 ba0 ba1 bb0 bb1 bd0 bd1 h4 (ne2_false g1) (ne2_false g2) (ne2_true g3)
            rw [if_pos g3] at h'
            by_cases hr : ((c % 8 * 64 + a % 64) * 64 + b % 64) * 64 + d % 64 < 65536
            · rw [if_pos hr] at h'
              obtain ⟨rfl, rfl⟩ := Prod.mk.inj h'
              exact dec4low ad c0 t3.length c a b d w hc0 xc xa xb xd bc0 bc1 ba0 ba1 bb0 bb1 bd0 bd1 h4 (ne2_false g1) (ne2_false g2) (ne2_false g3) hr
            rw [if_neg hr] at h'
            by_cases hs : 1114111 < ((c % 8 * 64 + a % 64) * 64 + b % 64) * 64 + d % 64
            · rw [if_pos hs] at h'
              obtain ⟨rfl, rfl⟩ := Prod.mk.inj h'
              exact dec4no ad c0 t3.length c a b d w hc0 xc xa xb xd bc0 bc1 ba0 ba1 bb0 bb1 bd0 bd1 h4 (ne2_false g1) (ne2_false g2) (ne2_false g3) hr hs
            rw [if_neg hs] at h'
            obtain ⟨rfl, rfl⟩ := Prod.mk.inj h'
            exact dec4ok ad c0 t3.length c a b d w hc0 xc xa xb xd bc0 bc1 ba0 ba1 bb0 bb1 bd0 bd1 h4 (ne2_false g1) (ne2_false g2) (ne2_false g3) hr hs
    rw [if_neg h4] at h'
    obtain ⟨rfl, rfl⟩ := Prod.mk.inj h'
    exact dec0 ad c0 t.length c w hc0 xc bc0 bc1 h1 h2 h3 h4

-- NOT PRINTED: function 39 (char_every)

/-! ### char_Char: function 56 -/
def char_Char.f (a0 : Int) : Option (Bool) := if a0 < 32 then (if a0 = 9 then (some true) else (if a0 = 10 then (some true) else (some (a0 == 13)))) else (if a0 ≥ 55296 then (if a0 ≤ 57343 then (some false) else (if a0 ≤ 65533 then (some true) else (if a0 ≥ 65536 then (some (decide (a0 ≤ 1114111))) else (some false)))) else (if a0 ≤ 65533 then (some true) else (if a0 ≥ 65536 then (some (decide (a0 ≤ 1114111))) else (some false))))
set_option maxHeartbeats 8000000 in
set_option maxRecDepth 100000 in
theorem char_Char.calls (a0 : Int) (r : Bool) (w : World) (h : char_Char.f a0 = some r) :
    Calls Try.prog 56 #[.int .i32 a0] w fun e w' => e = .returned (.bool r) ∧ Drawn0 w w' := by
  have H : (if a0 < 32 then (if a0 = 9 then (some true) else (if a0 = 10 then (some true) else (some (a0 == 13)))) else (if a0 ≥ 55296 then (if a0 ≤ 57343 then (some false) else (if a0 ≤ 65533 then (some true) else (if a0 ≥ 65536 then (some (decide (a0 ≤ 1114111))) else (some false)))) else (if a0 ≤ 65533 then (some true) else (if a0 ≥ 65536 then (some (decide (a0 ≤ 1114111))) else (some false))))) = some r := h
  clear h
  by_cases c2 : a0 < 32
  · rw [if_pos c2] at H
    have c2b0 : decide (a0 < 32) = true := decide_eq_true c2
    clear c2
    by_cases c3 : a0 = 9
    · rw [if_pos c3] at H
      have c3b0 : (a0 == 9) = true := beq_iff_eq.mpr c3
      have c3b1 : (a0 != 9) = false := bne_eq_false_iff_eq.mpr c3
      clear c3
      obtain rfl := Option.some.inj H
      go_enter Try.func56, Try.ntmps56
      go_wp2
      go_ret
      exact ⟨by first | rfl | (simp; done) | (simp [*]; done), by repeat (first | exact Drawn0.refl _ | apply Drawn0.step)⟩
    · rw [if_neg c3] at H
      have c3b0 : (a0 == 9) = false := beq_eq_false_iff_ne.mpr c3
      have c3b1 : (a0 != 9) = true := bne_iff_ne.mpr c3
      by_cases c4 : a0 = 10
      · rw [if_pos c4] at H
        have c4b0 : (a0 == 10) = true := beq_iff_eq.mpr c4
        have c4b1 : (a0 != 10) = false := bne_eq_false_iff_eq.mpr c4
        clear c4
        obtain rfl := Option.some.inj H
        go_enter Try.func56, Try.ntmps56
        go_wp2
        go_ret
        exact ⟨by first | rfl | (simp; done) | (simp [*]; done), by repeat (first | exact Drawn0.refl _ | apply Drawn0.step)⟩
      · rw [if_neg c4] at H
        have c4b0 : (a0 == 10) = false := beq_eq_false_iff_ne.mpr c4
        have c4b1 : (a0 != 10) = true := bne_iff_ne.mpr c4
        obtain rfl := Option.some.inj H
        go_enter Try.func56, Try.ntmps56
        go_wp2
        go_ret
        exact ⟨by first | rfl | (simp; done) | (simp [*]; done), by repeat (first | exact Drawn0.refl _ | apply Drawn0.step)⟩
  · rw [if_neg c2] at H
    have c2b0 : decide (a0 < 32) = false := decide_eq_false c2
    clear c2
    by_cases c5 : a0 ≥ 55296
    · rw [if_pos c5] at H
      have c5b0 : decide (55296 ≤ a0) = true := decide_eq_true c5
      clear c5
      by_cases c6 : a0 ≤ 57343
      · rw [if_pos c6] at H
        have c6b0 : decide (a0 ≤ 57343) = true := decide_eq_true c6
        clear c6
        obtain rfl := Option.some.inj H
        go_enter Try.func56, Try.ntmps56
        go_wp2
        go_ret
        exact ⟨by first | rfl | (simp; done) | (simp [*]; done), by repeat (first | exact Drawn0.refl _ | apply Drawn0.step)⟩
      · rw [if_neg c6] at H
        have c6b0 : decide (a0 ≤ 57343) = false := decide_eq_false c6
        clear c6
        by_cases c7 : a0 ≤ 65533
        · rw [if_pos c7] at H
          have c7b0 : decide (a0 ≤ 65533) = true := decide_eq_true c7
          clear c7
          obtain rfl := Option.some.inj H
          go_enter Try.func56, Try.ntmps56
          go_wp2
          go_ret
          exact ⟨by first | rfl | (simp; done) | (simp [*]; done), by repeat (first | exact Drawn0.refl _ | apply Drawn0.step)⟩
        · rw [if_neg c7] at H
          have c7b0 : decide (a0 ≤ 65533) = false := decide_eq_false c7
          clear c7
          by_cases c8 : a0 ≥ 65536
          · rw [if_pos c8] at H
            have c8b0 : decide (65536 ≤ a0) = true := decide_eq_true c8
            clear c8
            obtain rfl := Option.some.inj H
            go_enter Try.func56, Try.ntmps56
            go_wp2
            go_ret
            exact ⟨by first | rfl | (simp; done) | (simp [*]; done), by repeat (first | exact Drawn0.refl _ | apply Drawn0.step)⟩
          · rw [if_neg c8] at H
            have c8b0 : decide (65536 ≤ a0) = false := decide_eq_false c8
            clear c8
            obtain rfl := Option.some.inj H
            go_enter Try.func56, Try.ntmps56
            go_wp2
            go_ret
            exact ⟨by first | rfl | (simp; done) | (simp [*]; done), by repeat (first | exact Drawn0.refl _ | apply Drawn0.step)⟩
    · rw [if_neg c5] at H
      have c5b0 : decide (55296 ≤ a0) = false := decide_eq_false c5
      clear c5
      by_cases c9 : a0 ≤ 65533
      · rw [if_pos c9] at H
        have c9b0 : decide (a0 ≤ 65533) = true := decide_eq_true c9
        clear c9
        obtain rfl := Option.some.inj H
        go_enter Try.func56, Try.ntmps56
        go_wp2
        go_ret
        exact ⟨by first | rfl | (simp; done) | (simp [*]; done), by repeat (first | exact Drawn0.refl _ | apply Drawn0.step)⟩
      · rw [if_neg c9] at H
        have c9b0 : decide (a0 ≤ 65533) = false := decide_eq_false c9
        clear c9
        by_cases c10 : a0 ≥ 65536
        · rw [if_pos c10] at H
          have c10b0 : decide (65536 ≤ a0) = true := decide_eq_true c10
          clear c10
          obtain rfl := Option.some.inj H
          go_enter Try.func56, Try.ntmps56
          go_wp2
          go_ret
          exact ⟨by first | rfl | (simp; done) | (simp [*]; done), by repeat (first | exact Drawn0.refl _ | apply Drawn0.step)⟩
        · rw [if_neg c10] at H
          have c10b0 : decide (65536 ≤ a0) = false := decide_eq_false c10
          clear c10
          obtain rfl := Option.some.inj H
          go_enter Try.func56, Try.ntmps56
          go_wp2
          go_ret
          exact ⟨by first | rfl | (simp; done) | (simp [*]; done), by repeat (first | exact Drawn0.refl _ | apply Drawn0.step)⟩

end Go.Proofs.Ytdelafoijplleaa.PNsBase
