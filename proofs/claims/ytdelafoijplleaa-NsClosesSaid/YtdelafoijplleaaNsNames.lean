/- What is proved: the contracts of QName, binds, wrong and HasPrefix over plain functions of texts. Conditions: texts of less than 4398046511104 bytes. -/
import Derived.Test.YtdelafoijplleaaPNsBasex3
set_option linter.unusedVariables false
set_option linter.unusedSimpArgs false
namespace Go.Proofs.YtdelafoijplleaaN
open Go.RowKit Go.Proofs.Ytdelafoijplleaa.PNsBase Go.Proofs.YtdelafoijplleaaW.PrintWords Go.Proofs.YtdelafoijplleaaW.PrintLast Go.Proofs.YtdelafoijplleaaW.PrintMore
/-! ### bytes, letters, classes: plain -/
def Bytes (l : List Int) : Prop := ∀ x ∈ l, 0 ≤ x ∧ x < 256
theorem Bytes.tail {c : Int} {l : List Int} (h : Bytes (c :: l)) : Bytes l := fun x hx => h x (List.mem_cons_of_mem _ hx)
theorem Bytes.head {c : Int} {l : List Int} (h : Bytes (c :: l)) : 0 ≤ c ∧ c < 256 := h c List.mem_cons_self
theorem Bytes.drop {l : List Int} (h : Bytes l) (n : Nat) : Bytes (l.drop n) := fun x hx => h x (List.mem_of_mem_drop hx)
theorem Bytes.take {l : List Int} (h : Bytes l) (n : Nat) : Bytes (l.take n) := fun x hx => h x (List.mem_of_mem_take hx)
theorem Bytes.append {l m : List Int} (h : Bytes l) (h' : Bytes m) : Bytes (l ++ m) := fun x hx => (List.mem_append.1 hx).elim (h x) (h' x)
theorem bytes_of (s : ByteArray) : Bytes (bytesOf s) := by
  intro x hx
  obtain ⟨b, _, rfl⟩ := List.mem_map.1 hx
  have := b.toNat_lt
  omega
theorem bytes_wf {l : List Int} (h : ∀ x ∈ l, (Lit.int .u8 x).wf = true) : Bytes l := by
  intro x hx
  have h1 := h x hx
  have hmin : IntKind.u8.min = 0 := rfl
  have hmax : IntKind.u8.max = 255 := rfl
  simp only [Lit.wf, Bool.and_eq_true, decide_eq_true_eq] at h1
  omega
theorem decode_eq {l : List Int} (h : Bytes l) : char_Decode.f l = some (decS l) := by
  unfold char_Decode.f
  rw [if_pos]
  rw [List.all_eq_true]
  intro x hx
  have := h.take 4 x hx
  unfold isByte
  simp; omega
theorem decS_ok {l : List Int} (h : Bytes l) : decS l = (-1, 0) ∨ (1 ≤ (decS l).2 ∧ (decS l).2 ≤ l.length ∧ (decS l).2 ≤ 4 ∧ 0 ≤ (decS l).1 ∧ (decS l).1 ≤ 1114111) := by
  match l, h with
  | [], h => exact .inl rfl
  | c :: t, h =>
    have hc := h.head
    have ht := h.tail
    simp only [decS]
    split
    · exact .inr ⟨by simp, by simp only [List.length_cons]; omega, by simp, hc.1, by simp only []; omega⟩
    · split
      · match t, ht with
        | [], _ => exact .inl rfl
        | a :: t1, ht =>
          have ha := ht.head
          simp only []
          repeat' split
          all_goals first | exact .inl rfl | (refine .inr ⟨by simp, by simp only [List.length_cons]; omega, by simp, ?_, ?_⟩ <;> (simp only []; omega))
      · split
        · match t, ht with
          | [], _ => exact .inl rfl
          | [a], _ => exact .inl rfl
          | a :: b :: t1, ht =>
            have ha := ht.head
            have hb := ht.tail.head
            simp only []
            repeat' split
            all_goals first | exact .inl rfl | (refine .inr ⟨by simp, by simp only [List.length_cons]; omega, by simp, ?_, ?_⟩ <;> (simp only []; omega))
        · split
          · match t, ht with
            | [], _ => exact .inl rfl
            | [a], _ => exact .inl rfl
            | [a, b], _ => exact .inl rfl
            | a :: b :: d :: t1, ht =>
              have ha := ht.head
              have hb := ht.tail.head
              have hd := ht.tail.tail.head
              simp only []
              repeat' split
              all_goals first | exact .inl rfl | (refine .inr ⟨by simp, by simp only [List.length_cons]; omega, by simp, ?_, ?_⟩ <;> (simp only []; omega))
          · exact .inl rfl
def charB (r : Int) : Bool := decide (r = 9 ∨ r = 10 ∨ r = 13 ∨ (32 ≤ r ∧ r ≤ 55295) ∨ (57344 ≤ r ∧ r ≤ 65533) ∨ (65536 ≤ r ∧ r ≤ 1114111))
theorem char_eq (r : Int) : char_Char.f r = some (charB r) := by
  unfold char_Char.f charB
  repeat' split
  all_goals (congr 1; rw [Bool.eq_iff_iff]; first | (simp; done) | (simp; omega))
theorem w64 {x : Int} (h0 : 0 ≤ x) (h1 : x < 4611686018427387904) : wrap64 x = x := by unfold wrap64; omega
theorem w64' {x : Int} (h0 : -4611686018427387904 < x) (h1 : x < 4611686018427387904) : wrap64 x = x := by unfold wrap64; omega
/-! ### classes -/
def startB (r : Int) : Bool := decide ((65 ≤ r ∧ r ≤ 90) ∨ (97 ≤ r ∧ r ≤ 122) ∨ r = 95 ∨ r = 58 ∨ (192 ≤ r ∧ r ≠ 215 ∧ r ≠ 247 ∧ charB r = true))
def partB (r : Int) : Bool := decide (startB r = true ∨ (48 ≤ r ∧ r ≤ 57) ∨ r = 45 ∨ r = 46 ∨ r = 183)
theorem start_eq (k : Nat) (r : Int) : char_Start.f (k + 2) r = some (startB r) := by
  unfold char_Start.f startB
  simp only [char_Start.j0, char_Start.j1, char_eq, Option.bind_some, decide_eq_true_eq]
  cases hc : charB r
  all_goals
    repeat' split
    all_goals first | contradiction | rfl | (congr 1; rw [Bool.eq_iff_iff]; simp only [decide_eq_true_eq, beq_iff_eq, reduceCtorEq, true_iff, false_iff, and_true, and_false, or_false, false_or, true_or, or_true, not_true, not_false_iff, ne_eq]; omega) | (congr 1; rw [Bool.eq_iff_iff]; simp only [decide_eq_true_eq, beq_iff_eq, reduceCtorEq, true_iff, false_iff, and_true, and_false, or_false, false_or, true_or, or_true, not_true, not_false_iff, ne_eq]; done) | (congr 1; rw [Bool.eq_iff_iff]; omega) | (congr 1; simp; done)
theorem start_ev (r : Int) : Ev (fun k => char_Start.f k r) (startB r) := ⟨2, fun k hk => by obtain ⟨j, rfl⟩ : ∃ j, k = j + 2 := ⟨k - 2, by omega⟩; exact start_eq j r⟩
theorem part_eq (k : Nat) (r : Int) : char_Part.f (k + 2) r = some (partB r) := by
  unfold char_Part.f partB
  rw [start_eq]
  simp only [Option.bind_some]
  cases hc : startB r
  all_goals
    repeat' split
    all_goals first | contradiction | rfl | (congr 1; rw [Bool.eq_iff_iff]; simp only [decide_eq_true_eq, beq_iff_eq, reduceCtorEq, true_iff, false_iff, and_true, and_false, or_false, false_or, true_or, or_true, not_true, not_false_iff, ne_eq]; omega) | (congr 1; rw [Bool.eq_iff_iff]; simp only [decide_eq_true_eq, beq_iff_eq, reduceCtorEq, true_iff, false_iff, and_true, and_false, or_false, false_or, true_or, or_true, not_true, not_false_iff, ne_eq]; done) | (congr 1; rw [Bool.eq_iff_iff]; omega) | (congr 1; simp; done)
theorem part_ev (r : Int) : Ev (fun k => char_Part.f k r) (partB r) := ⟨2, fun k hk => by obtain ⟨j, rfl⟩ : ∃ j, k = j + 2 := ⟨k - 2, by omega⟩; exact part_eq j r⟩
/-! ### words and blanks -/
def isW (b : UInt8) : Bool := b == 32 || b == 9 || b == 10 || b == 13
def mkB (l : List UInt8) : ByteArray := ⟨l.toArray⟩
def wordsS : List UInt8 → List UInt8 → List (List UInt8)
  | [], w => if w = [] then [] else [w]
  | b :: t, w => if isW b then (if w = [] then wordsS t [] else w :: wordsS t []) else wordsS t (w ++ [b])
theorem isW_int (b : UInt8) : decide ((b.toNat : Int) = 32 ∨ (b.toNat : Int) = 9 ∨ (b.toNat : Int) = 10 ∨ (b.toNat : Int) = 13) = isW b := by
  have key : ∀ n : Fin 256, decide (((UInt8.ofNat n.val).toNat : Int) = 32 ∨ ((UInt8.ofNat n.val).toNat : Int) = 9 ∨ ((UInt8.ofNat n.val).toNat : Int) = 10 ∨ ((UInt8.ofNat n.val).toNat : Int) = 13) = isW (UInt8.ofNat n.val) := by decide +kernel
  have := key ⟨b.toNat, b.toNat_lt⟩
  simpa using this
theorem ba_ext {a b : ByteArray} (h : a.data.toList = b.data.toList) : a = b := by
  obtain ⟨⟨la⟩⟩ := a
  obtain ⟨⟨lb⟩⟩ := b
  simp only at h
  rw [h]
theorem mkB_data (l : List UInt8) : (mkB l).data.toList = l := rfl
theorem mkB_eta (s : ByteArray) : mkB s.data.toList = s := by obtain ⟨⟨l⟩⟩ := s; rfl
theorem mkB_inj {a b : List UInt8} (h : mkB a = mkB b) : a = b := by
  have := congrArg (fun s => s.data.toList) h
  exact this
theorem extract_mkB (s : ByteArray) (a b : Nat) : s.extract a b = mkB ((s.data.toList.drop a).take (b - a)) := ba_ext (Lib.extract_data s a b)
theorem mkB_size (l : List UInt8) : (mkB l).size = l.length := by rw [← data_length]; rfl
theorem drop_byte (s : ByteArray) (i : Nat) (hi : i < s.size) : ∃ b : UInt8, s.data.toList.drop i = b :: s.data.toList.drop (i + 1) ∧ bt s i = (b.toNat : Int) := by
  have hl : i < s.data.toList.length := by rw [data_length]; exact hi
  refine ⟨s.data.toList[i], List.drop_eq_getElem_cons hl, ?_⟩
  unfold bt
  rw [dif_pos (by simpa using hi)]
  rfl
theorem take_grow (l : List UInt8) (a i : Nat) (b : UInt8) (hai : a ≤ i) (hd : l.drop i = b :: l.drop (i + 1)) : (l.drop a).take (i + 1 - a) = (l.drop a).take (i - a) ++ [b] := by
  have h1 : (l.drop a).drop (i - a) = b :: l.drop (i + 1) := by rw [List.drop_drop, show a + (i - a) = i by omega, hd]
  have h2 : i - a < (l.drop a).length := by
    have := congrArg List.length h1
    rw [List.length_drop, List.length_cons] at this
    omega
  rw [show i + 1 - a = (i - a) + 1 by omega, List.take_succ_eq_append_getElem h2]
  rw [List.drop_eq_getElem_cons h2] at h1
  rw [(List.cons.inj h1).1]
theorem extract_mkB' (s : ByteArray) (a : Nat) : s.extract a s.size = mkB ((s.data.toList.drop a).take (s.size - a)) := extract_mkB s a s.size
/-! ### a text's letters -/
def letsN : Nat → List Int → Option (List Int)
  | 0, l => if l = [] then some [] else none
  | n + 1, l => if l = [] then some [] else if (decS l).2 = 0 then none else (letsN n (l.drop (decS l).2.toNat)).map ((decS l).1 :: ·)
def lets (l : List Int) : Option (List Int) := letsN l.length l
theorem letsN_fuel (n : Nat) : ∀ (m : Nat) (l : List Int), Bytes l → l.length ≤ n → l.length ≤ m → letsN n l = letsN m l := by
  induction n with
  | zero =>
    intro m l _ hn _
    obtain rfl : l = [] := List.length_eq_zero_iff.1 (by omega)
    cases m <;> simp [letsN]
  | succ n ih =>
    intro m l hb hn hm
    by_cases he : l = []
    · subst he
      cases m <;> simp [letsN]
    · have hp := List.length_pos_iff.2 he
      obtain ⟨m, rfl⟩ : ∃ j, m = j + 1 := ⟨m - 1, by omega⟩
      simp only [letsN]
      rw [if_neg he, if_neg he]
      by_cases h0 : (decS l).2 = 0
      · rw [if_pos h0, if_pos h0]
      · rw [if_neg h0, if_neg h0]
        rcases decS_ok hb with e | ⟨a, b, c, _⟩
        · rw [e] at h0; exact absurd rfl h0
        · rw [ih m _ (hb.drop _) (by rw [List.length_drop]; omega) (by rw [List.length_drop]; omega)]
theorem lets_nil : lets [] = some [] := rfl
theorem lets_bad {l : List Int} (he : l ≠ []) (h0 : (decS l).2 = 0) : lets l = none := by
  have hp := List.length_pos_iff.2 he
  unfold lets
  obtain ⟨n, hn⟩ : ∃ n, l.length = n + 1 := ⟨l.length - 1, by omega⟩
  rw [hn]
  simp only [letsN]
  rw [if_neg he, if_pos h0]
theorem lets_step {l : List Int} (hb : Bytes l) (h0 : (decS l).2 ≠ 0) : lets l = (lets (l.drop (decS l).2.toNat)).map ((decS l).1 :: ·) := by
  have he : l ≠ [] := by
    intro e
    subst e
    exact h0 rfl
  have hp := List.length_pos_iff.2 he
  unfold lets
  obtain ⟨n, hn⟩ : ∃ n, l.length = n + 1 := ⟨l.length - 1, by omega⟩
  rw [hn]
  simp only [letsN]
  rw [if_neg he, if_neg h0]
  rcases decS_ok hb with e | ⟨a, b, c, _⟩
  · rw [e] at h0; exact absurd rfl h0
  · rw [letsN_fuel n (l.drop (decS l).2.toNat).length _ (hb.drop _) (by rw [List.length_drop]; omega) (Nat.le_refl _)]
/-- What is a letter stays one, whatever stands behind it. -/
theorem decS_app (l t : List Int) (h : (decS l).2 ≠ 0) : decS (l ++ t) = decS l := by
  match l, h with
  | [], h => exact absurd rfl h
  | [c], h =>
    simp only [List.cons_append, List.nil_append, decS] at h ⊢
    by_cases g1 : c < 128
    · rw [if_pos g1, if_pos g1]
    · rw [if_neg g1] at h ⊢
      rw [if_neg g1]
      exfalso
      revert h
      repeat' split
      all_goals simp
  | [c, a], h =>
    simp only [List.cons_append, List.nil_append, decS] at h ⊢
    by_cases g1 : c < 128
    · rw [if_pos g1, if_pos g1]
    · rw [if_neg g1] at h ⊢
      rw [if_neg g1]
      by_cases g2 : c / 32 = 6
      · rw [if_pos g2, if_pos g2]
      · rw [if_neg g2] at h ⊢
        exfalso
        revert h
        try rw [if_neg g2]
        repeat' split
        all_goals simp
  | [c, a, b], h =>
    simp only [List.cons_append, List.nil_append, decS] at h ⊢
    by_cases g1 : c < 128
    · rw [if_pos g1, if_pos g1]
    · rw [if_neg g1] at h ⊢
      rw [if_neg g1]
      by_cases g2 : c / 32 = 6
      · rw [if_pos g2, if_pos g2]
      · rw [if_neg g2] at h ⊢
        rw [if_neg g2]
        by_cases g3 : c / 16 = 14
        · rw [if_pos g3, if_pos g3]
        · rw [if_neg g3] at h ⊢
          exfalso
          revert h
          try rw [if_neg g3]
          repeat' split
          all_goals simp
  | c :: a :: b :: d :: r, h =>
    simp only [List.cons_append, decS]
/-- A small byte ends every letter: it is none's part. -/
theorem decS_front (l t : List Int) (c : Int) (hc : 0 ≤ c ∧ c < 128) (hl : l ≠ []) (h : (decS (l ++ c :: t)).2 ≠ 0) : (decS l).2 ≠ 0 := by
  have h2 : ¬ c / 64 = 2 := by omega
  match l, hl, h with
  | [x], _, h =>
    simp only [List.cons_append, List.nil_append, decS] at h ⊢
    by_cases g1 : x < 128
    · rw [if_pos g1]; simp
    · exfalso
      revert h
      rw [if_neg g1]
      by_cases g2 : x / 32 = 6
      · rw [if_pos g2, if_neg h2]; simp
      rw [if_neg g2]
      by_cases g3 : x / 16 = 14
      · rw [if_pos g3]
        cases t with
        | nil => simp
        | cons y t => simp only []; rw [if_neg h2]; simp
      rw [if_neg g3]
      by_cases g4 : x / 8 = 30
      · rw [if_pos g4]
        match t with
        | [] => simp
        | [y] => simp
        | y :: z :: t => simp only []; rw [if_neg h2]; simp
      rw [if_neg g4]
      simp
  | [x, a], _, h =>
    simp only [List.cons_append, List.nil_append, decS] at h ⊢
    by_cases g1 : x < 128
    · rw [if_pos g1]; simp
    rw [if_neg g1] at h ⊢
    by_cases g2 : x / 32 = 6
    · rw [if_pos g2] at h ⊢; exact h
    rw [if_neg g2] at h ⊢
    exfalso
    revert h
    by_cases g3 : x / 16 = 14
    · rw [if_pos g3, if_neg h2]
      by_cases e1 : a / 64 = 2
      · rw [if_pos e1]; simp
      · rw [if_neg e1]; simp
    rw [if_neg g3]
    by_cases g4 : x / 8 = 30
    · rw [if_pos g4]
      cases t with
      | nil => simp
      | cons y t =>
        simp only []
        rw [if_neg h2]
        by_cases e1 : a / 64 = 2
        · rw [if_pos e1]; simp
        · rw [if_neg e1]; simp
    rw [if_neg g4]
    simp
  | [x, a, b], _, h =>
    simp only [List.cons_append, List.nil_append, decS] at h ⊢
    by_cases g1 : x < 128
    · rw [if_pos g1]; simp
    rw [if_neg g1] at h ⊢
    by_cases g2 : x / 32 = 6
    · rw [if_pos g2] at h ⊢; exact h
    rw [if_neg g2] at h ⊢
    by_cases g3 : x / 16 = 14
    · rw [if_pos g3] at h ⊢; exact h
    rw [if_neg g3] at h ⊢
    exfalso
    revert h
    by_cases g4 : x / 8 = 30
    · rw [if_pos g4, if_neg h2]
      by_cases e1 : a / 64 = 2
      · rw [if_pos e1]
        by_cases e2 : b / 64 = 2
        · rw [if_pos e2]; simp
        · rw [if_neg e2]; simp
      · rw [if_neg e1]; simp
    rw [if_neg g4]
    simp
  | x :: a :: b :: d :: r, _, h =>
    simp only [List.cons_append, decS] at h ⊢
    exact h
theorem lets_app (n : Nat) : ∀ (a b La : List Int), a.length ≤ n → Bytes a → Bytes b → lets a = some La → lets (a ++ b) = (lets b).map (La ++ ·) := by
  induction n with
  | zero =>
    intro a b La hn _ _ h
    obtain rfl : a = [] := List.length_eq_zero_iff.1 (by omega)
    rw [lets_nil] at h
    obtain rfl := Option.some.inj h
    simp
  | succ n ih =>
    intro a b La hn ha hb h
    by_cases he : a = []
    · exact ih a b La (by rw [he]; simp) ha hb h
    by_cases h0 : (decS a).2 = 0
    · rw [lets_bad he h0] at h; exact absurd h (by simp)
    have hd := decS_app a b h0
    rcases decS_ok ha with e | ⟨h1, h2, _⟩
    · rw [e] at h0; exact absurd rfl h0
    rw [lets_step ha h0] at h
    obtain ⟨L1, hL1, rfl⟩ := Option.map_eq_some_iff.1 h
    rw [lets_step (ha.append hb) (by rw [hd]; exact h0), hd]
    have hlen : (decS a).2.toNat ≤ a.length := by omega
    rw [List.drop_append_of_le_length hlen, ih _ b L1 (by rw [List.length_drop]; omega) (ha.drop _) hb hL1]
    rw [Option.map_map]
    rfl
/-- A small byte parts a text's letters. -/
theorem lets_split (n : Nat) : ∀ (a t : List Int) (c : Int) (L : List Int), a.length ≤ n → 0 ≤ c ∧ c < 128 → Bytes a → Bytes t → lets (a ++ c :: t) = some L →
    ∃ La Lt, lets a = some La ∧ lets t = some Lt ∧ L = La ++ c :: Lt := by
  induction n with
  | zero =>
    intro a t c L hn hc ha ht h
    obtain rfl : a = [] := List.length_eq_zero_iff.1 (by omega)
    have hcb : Bytes (c :: t) := fun x hx => by
      rcases List.mem_cons.1 hx with rfl | hx
      · omega
      · exact ht x hx
    have hd : decS (c :: t) = (c, 1) := by simp only [decS]; rw [if_pos hc.2]
    rw [List.nil_append, lets_step hcb (by rw [hd]; simp), hd] at h
    obtain ⟨Lt, hLt, rfl⟩ := Option.map_eq_some_iff.1 h
    exact ⟨[], Lt, rfl, hLt, rfl⟩
  | succ n ih =>
    intro a t c L hn hc ha ht h
    by_cases he : a = []
    · exact ih a t c L (by rw [he]; simp) hc ha ht h
    have hcb : Bytes (c :: t) := fun x hx => by
      rcases List.mem_cons.1 hx with rfl | hx
      · omega
      · exact ht x hx
    have hne : a ++ c :: t ≠ [] := by simp
    by_cases h0 : (decS (a ++ c :: t)).2 = 0
    · rw [lets_bad hne h0] at h; exact absurd h (by simp)
    have h0a := decS_front a t c hc he h0
    have hd := decS_app a (c :: t) h0a
    rcases decS_ok ha with e | ⟨h1, h2, _⟩
    · rw [e] at h0a; exact absurd rfl h0a
    rw [lets_step (ha.append hcb) h0, hd] at h
    obtain ⟨L1, hL1, rfl⟩ := Option.map_eq_some_iff.1 h
    have hlen : (decS a).2.toNat ≤ a.length := by omega
    rw [List.drop_append_of_le_length hlen] at hL1
    obtain ⟨La, Lt, e1, e2, rfl⟩ := ih _ t c L1 (by rw [List.length_drop]; omega) hc (ha.drop _) ht hL1
    refine ⟨(decS a).1 :: La, Lt, ?_, e2, rfl⟩
    rw [lets_step ha h0a, e1]
    rfl
theorem lets_join (a t : List Int) (c : Int) (La Lt : List Int) (hc : 0 ≤ c ∧ c < 128) (ha : Bytes a) (ht : Bytes t) (h1 : lets a = some La) (h2 : lets t = some Lt) : lets (a ++ c :: t) = some (La ++ c :: Lt) := by
  have hcb : Bytes (c :: t) := fun x hx => by
    rcases List.mem_cons.1 hx with rfl | hx
    · omega
    · exact ht x hx
  have hd : decS (c :: t) = (c, 1) := by simp only [decS]; rw [if_pos hc.2]
  rw [lets_app a.length a (c :: t) La (Nat.le_refl _) ha hcb h1, lets_step hcb (by rw [hd]; simp), hd]
  simp [h2]
theorem drop_ne {L : List Int} {i : Nat} (h : i < L.length) : L.drop i ≠ [] := by
  intro e
  have := congrArg List.length e
  rw [List.length_drop, List.length_nil] at this
  omega
theorem conv_eq {s : ByteArray} (h : s.size < 140737488355328) : conv_bytes.f s = some (bytesOf s) := by unfold conv_bytes.f; rw [if_pos h]
/-! ### names of letters: char.every, Name, Token, NCName, QName -/
theorem toL (s : ByteArray) : s.toList = s.data.toList := ByteArray.toList_eq s
def partsL (M : Option (List Int)) : Bool := match M with
  | none => false
  | some M => M.all partB
def nameL (p : Int → Bool) (M : Option (List Int)) : Bool := match M with
  | none => false
  | some [] => false
  | some (r :: t) => p r && (r :: t).all partB
theorem partsL_cons (r : Int) (M : Option (List Int)) : partsL (M.map (r :: ·)) = (partB r && partsL M) := by cases M <;> simp [partsL]
theorem nameL_cons (p : Int → Bool) (r : Int) (M : Option (List Int)) : nameL p (M.map (r :: ·)) = (p r && (partB r && partsL M)) := by cases M <;> simp [partsL, nameL]
theorem every1_go (s : ByteArray) (L : List Int) (hb : Bytes L) (hL : L.length < 140737488355328) (hs : s.toList.isEmpty = false) (n : Nat) : ∀ i : Nat, 1 ≤ i → i ≤ L.length → L.length - i ≤ n →
    Ev (fun k => char_every_char_Start_char_Part.l0 k s L i) (partsL (lets (L.drop i))) := by
  induction n with
  | zero =>
    intro i h1 hi hn
    have e : L.drop i = [] := List.drop_eq_nil_of_le (by omega)
    rw [e, lets_nil]
    refine Ev.step (f := fun _ => some true) (fun k => ?_) (Ev.now true)
    simp only [char_every_char_Start_char_Part.l0]
    rw [if_neg (by omega), hs]
    rfl
  | succ n ih =>
    intro i h1 hi hn
    by_cases hlt : i < L.length
    · have hne := drop_ne hlt
      have hbd := hb.drop i
      by_cases h0 : (decS (L.drop i)).2 = 0
      · rw [lets_bad hne h0]
        refine Ev.step (f := fun _ => some false) (fun k => ?_) (Ev.now false)
        simp only [char_every_char_Start_char_Part.l0]
        rw [if_pos (by omega), if_pos (by omega), if_pos (by omega), Int.toNat_natCast, decode_eq hbd]
        simp only [Option.bind_some]
        rw [if_pos h0]
      · rw [lets_step hbd h0, partsL_cons]
        rcases decS_ok hbd with e | ⟨g1, g2, g3, _⟩
        · rw [e] at h0; exact absurd rfl h0
        rw [List.length_drop] at g2
        obtain ⟨m, hm⟩ : ∃ m : Nat, (decS (L.drop i)).2 = m := ⟨(decS (L.drop i)).2.toNat, by omega⟩
        have := ih (i + m) (by omega) (by omega) (by omega)
        rw [hm, Int.toNat_natCast, List.drop_drop]
        refine Ev.step (f := fun k => (char_Part.f k (decS (L.drop i)).1).bind fun t => if t = true then char_every_char_Start_char_Part.l0 k s L ((i + m : Nat) : Int) else some false) (fun k => ?_) ?_
        · simp only [char_every_char_Start_char_Part.l0]
          rw [if_pos (by omega), if_pos (by omega), if_pos (by omega), Int.toNat_natCast, decode_eq hbd]
          simp only [Option.bind_some]
          rw [if_neg h0, if_neg (by omega), hm, w64 (by omega) (by omega)]
          rfl
        · refine Ev.bind (part_ev _) ?_
          cases hp : partB (decS (L.drop i)).1 with
          | false => exact Ev.congr (fun k => if_neg (by simp)) (Ev.now false)
          | true => exact Ev.congr (fun k => if_pos rfl) (by simpa using this)
    · exact ih i h1 hi (by omega)
theorem every1_eq (s : ByteArray) (hs : s.size < 4398046511104) : Ev (fun k => char_every_char_Start_char_Part.f k s) (nameL startB (lets (bytesOf s))) := by
  unfold char_every_char_Start_char_Part.f
  refine Ev.congr (fun k => by rw [conv_eq (by omega)]; rfl) (f := fun k => char_every_char_Start_char_Part.l0 k s (bytesOf s) 0) ?_
  have hl := bytesOf_length s
  have hb := bytes_of s
  by_cases hz : s.size = 0
  · have he : bytesOf s = [] := List.length_eq_zero_iff.1 (by omega)
    have hse : s.toList.isEmpty = true := by
      rw [toL, List.isEmpty_iff_length_eq_zero, data_length, hz]
    rw [he, lets_nil]
    refine Ev.step (f := fun _ => some false) (fun k => ?_) (Ev.now false)
    simp only [char_every_char_Start_char_Part.l0]
    rw [if_neg (by simp), hse]
    rfl
  · have hse : s.toList.isEmpty = false := by
      rw [toL, Bool.eq_false_iff]
      intro e
      rw [List.isEmpty_iff_length_eq_zero, data_length] at e
      exact hz e
    have hne : bytesOf s ≠ [] := by
      intro e
      rw [e] at hl
      exact hz hl.symm
    by_cases h0 : (decS (bytesOf s)).2 = 0
    · rw [lets_bad hne h0]
      refine Ev.step (f := fun _ => some false) (fun k => ?_) (Ev.now false)
      simp only [char_every_char_Start_char_Part.l0]
      rw [if_pos (by omega), if_pos (by omega), if_pos (by omega), Int.toNat_zero, List.drop_zero, decode_eq hb]
      simp only [Option.bind_some]
      rw [if_pos h0]
    · rw [lets_step hb h0, nameL_cons]
      rcases decS_ok hb with e | ⟨g1, g2, g3, _⟩
      · rw [e] at h0; exact absurd rfl h0
      obtain ⟨m, hm⟩ : ∃ m : Nat, (decS (bytesOf s)).2 = m := ⟨(decS (bytesOf s)).2.toNat, by omega⟩
      have := every1_go s (bytesOf s) hb (by omega) hse (bytesOf s).length m (by omega) (by omega) (by omega)
      rw [hm, Int.toNat_natCast]
      refine Ev.step (f := fun k => (char_Start.f k (decS (bytesOf s)).1).bind fun q => if q = true then (char_Part.f k (decS (bytesOf s)).1).bind fun t => if t = true then char_every_char_Start_char_Part.l0 k s (bytesOf s) ((m : Nat) : Int) else some false else some false) (fun k => ?_) ?_
      · simp only [char_every_char_Start_char_Part.l0]
        rw [if_pos (by omega), if_pos (by omega), if_pos (by omega), Int.toNat_zero, List.drop_zero, decode_eq hb]
        simp only [Option.bind_some]
        rw [if_neg h0, if_pos trivial, hm, w64 (by omega) (by omega), Int.zero_add]
      · refine Ev.bind (start_ev _) ?_
        cases hq : startB (decS (bytesOf s)).1 with
        | false => exact Ev.congr (fun k => if_neg (by simp)) (Ev.now false)
        | true =>
          refine Ev.congr (fun k => if_pos rfl) (Ev.bind (part_ev _) ?_)
          cases hp : partB (decS (bytesOf s)).1 with
          | false => exact Ev.congr (fun k => if_neg (by simp)) (Ev.now false)
          | true => exact Ev.congr (fun k => if_pos rfl) (by simpa using this)
def ncB (s : ByteArray) : Bool := nameL startB (lets (bytesOf s)) && decide (Lib.indexByte s.data.toList 58 < 0)
def qnS (s : ByteArray) : ByteArray × ByteArray × Bool :=
  if Lib.indexByte s.data.toList 58 < 0 then (if ncB s = true then (⟨#[]⟩, s, true) else (⟨#[]⟩, ⟨#[]⟩, false))
  else if ncB (s.extract 0 (Lib.indexByte s.data.toList 58).toNat) = true then
    (if ncB (s.extract ((Lib.indexByte s.data.toList 58).toNat + 1) s.size) = true then (s.extract 0 (Lib.indexByte s.data.toList 58).toNat, s.extract ((Lib.indexByte s.data.toList 58).toNat + 1) s.size, true) else (⟨#[]⟩, ⟨#[]⟩, false))
  else (⟨#[]⟩, ⟨#[]⟩, false)
theorem name_ev (s : ByteArray) (hs : s.size < 4398046511104) : Ev (fun k => char_Name.f k s) (nameL startB (lets (bytesOf s))) := by
  unfold char_Name.f
  exact Ev.bind (every1_eq s hs) (Ev.now _)
theorem ncname_ev (s : ByteArray) (hs : s.size < 4398046511104) : Ev (fun k => char_NCName.f k s) (ncB s) := by
  unfold char_NCName.f ncB
  refine Ev.bind (name_ev s hs) ?_
  cases nameL startB (lets (bytesOf s)) with
  | false => exact Ev.congr (fun k => if_neg (by simp)) (Ev.now false)
  | true =>
    refine Ev.congr (fun k => if_pos rfl) ?_
    unfold strings_IndexByte.f
    exact Ev.now _
theorem extract_small (s : ByteArray) (a b : Nat) (hs : s.size < 4398046511104) : (s.extract a b).size < 4398046511104 := by
  rw [extract_mkB, mkB_size, List.length_take, List.length_drop, data_length]
  omega
theorem qname_ev (s : ByteArray) (hs : s.size < 4398046511104) : Ev (fun k => char_QName.f k s) (qnS s) := by
  unfold char_QName.f
  by_cases hi : Lib.indexByte s.data.toList 58 < 0
  · have hc : strings_Cut.f s (⟨#[58]⟩ : ByteArray) = some (s, ⟨#[]⟩, false) := by
      unfold strings_Cut.f
      rw [if_pos (by omega)]
      simp only []
      rw [if_pos hi]
    rw [hc]
    unfold qnS
    rw [if_pos hi]
    simp only [Option.bind_some]
    refine Ev.congr (fun k => if_neg (by simp)) ?_
    refine Ev.step (f := fun k => (char_NCName.f k s).bind fun t => if t = true then some ((⟨#[]⟩ : ByteArray), s, true) else some ((⟨#[]⟩ : ByteArray), (⟨#[]⟩ : ByteArray), false)) (fun k => ?_) ?_
    · simp only [char_QName.j0]
      rw [if_neg (by simp)]
    · refine Ev.bind (ncname_ev s hs) ?_
      cases ncB s with
      | false => exact Ev.congr (fun k => if_neg (by simp)) (Ev.now _)
      | true => exact Ev.congr (fun k => if_pos rfl) (Ev.now _)
  · have hc : strings_Cut.f s (⟨#[58]⟩ : ByteArray) = some (s.extract 0 (Lib.indexByte s.data.toList 58).toNat, s.extract ((Lib.indexByte s.data.toList 58).toNat + 1) s.size, true) := by
      unfold strings_Cut.f
      rw [if_pos (by omega)]
      simp only []
      rw [if_neg hi]
    rw [hc]
    unfold qnS
    rw [if_neg hi]
    simp only [Option.bind_some]
    refine Ev.congr (fun k => if_pos trivial) ?_
    generalize (Lib.indexByte s.data.toList 58).toNat = i
    refine Ev.step (f := fun k => (char_NCName.f k (s.extract 0 i)).bind fun q => if q = true then (char_NCName.f k (s.extract (i + 1) s.size)).bind fun t => if t = true then some (s.extract 0 i, s.extract (i + 1) s.size, true) else some ((⟨#[]⟩ : ByteArray), (⟨#[]⟩ : ByteArray), false) else some ((⟨#[]⟩ : ByteArray), (⟨#[]⟩ : ByteArray), false)) (fun k => ?_) ?_
    · simp only [char_QName.j0]
      rw [if_pos trivial]
    · refine Ev.bind (ncname_ev _ (extract_small s _ _ hs)) ?_
      cases ncB (s.extract 0 i) with
      | false => exact Ev.congr (fun k => if_neg (by simp)) (Ev.now _)
      | true =>
        refine Ev.congr (fun k => if_pos rfl) (Ev.bind (ncname_ev _ (extract_small s _ _ hs)) ?_)
        cases ncB (s.extract (i + 1) s.size) with
        | false => exact Ev.congr (fun k => if_neg (by simp)) (Ev.now _)
        | true => exact Ev.congr (fun k => if_pos rfl) (Ev.now _)
/-! ### the printed functions, in contracts -/
abbrev ownB : List UInt8 := [120, 109, 108, 110, 115]
abbrev ownC : List UInt8 := [120, 109, 108, 110, 115, 58]
def bindsS (s : ByteArray) : ByteArray × Bool := if s.data.toList = ownB then (⟨#[]⟩, true) else (mkB (Lib.trimPrefix s.data.toList ownC), Lib.hasPrefix s.data.toList ownC)
abbrev xmlL : List UInt8 := [120, 109, 108]
abbrev xmlU : List UInt8 := [104, 116, 116, 112, 58, 47, 47, 119, 119, 119, 46, 119, 51, 46, 111, 114, 103, 47, 88, 77, 76, 47, 49, 57, 57, 56, 47, 110, 97, 109, 101, 115, 112, 97, 99, 101]
abbrev xmlnsU : List UInt8 := [104, 116, 116, 112, 58, 47, 47, 119, 119, 119, 46, 119, 51, 46, 111, 114, 103, 47, 50, 48, 48, 48, 47, 120, 109, 108, 110, 115, 47]
def wrongS (name prefix_ space : ByteArray) : Bool :=
  if name.data.toList ≠ ownB ∧ (ncB prefix_ = false ∨ prefix_.data.toList = ownB) then true
  else if (prefix_.data.toList == xmlL) ≠ (space.data.toList == xmlU) then true
  else if space.data.toList = xmlnsU then true
  else (decide (space.data.toList = []) && decide (prefix_.data.toList ≠ []))
theorem qname_c (s : ByteArray) (hs : s.size < 4398046511104) (w : World) :
    Calls Try.prog 26 #[.string s] w fun e w' => e = .returned (.tuple #[.string (qnS s).1, .string (qnS s).2.1, .bool (qnS s).2.2]) ∧ Below w.heap.size w w' := by
  obtain ⟨k, h⟩ := (qname_ev s hs).rounds
  exact char_QName.calls k s _ _ _ w h
theorem binds_c (s : ByteArray) (w : World) :
    Calls Try.prog 15 #[.string s] w fun e w' => e = .returned (.tuple #[.string (bindsS s).1, .bool (bindsS s).2]) ∧ Below w.heap.size w w' := by
  have h : ns_binds.f s = some (bindsS s) := by
    unfold ns_binds.f strings_CutPrefix.f bindsS
    rw [toL]
    by_cases h : s.data.toList = [120, 109, 108, 110, 115]
    · rw [if_pos h, if_pos (show s.data.toList = ownB from h)]
    · rw [if_neg h, if_neg (show ¬ s.data.toList = ownB from h)]
      rfl
  refine (ns_binds.calls s _ _ w h).mono fun e w' hh => ?_
  obtain ⟨rfl, hd⟩ := hh
  refine ⟨rfl, ?_⟩
  obtain ⟨n, rfl⟩ := hd.out
  exact ⟨rfl, rfl, rfl, Nat.le_refl _, fun _ _ => rfl⟩
theorem hasPrefix_c (s p : ByteArray) (w : World) :
    Calls Try.prog 25 #[.string s, .string p] w fun e w' => e = .returned (.bool (Lib.hasPrefix s.data.toList p.data.toList)) ∧ w' = w := Try.strings_HasPrefix s p w
theorem wrong_ev (a b c : ByteArray) (hb : b.size < 4398046511104) : Ev (fun k => ns_wrong.f k a b c) (wrongS a b c) := by
  have last : ∀ x : Bool, Ev (fun k => ns_wrong.j0 k b c x) (if x = true then true else if (b.data.toList == xmlL) ≠ (c.data.toList == xmlU) then true else if c.data.toList = xmlnsU then true else (decide (c.data.toList = []) && decide (b.data.toList ≠ []))) := by
    intro x
    refine Ev.step (f := fun _ => some (if x = true then true else if (b.data.toList == xmlL) ≠ (c.data.toList == xmlU) then true else if c.data.toList = xmlnsU then true else (decide (c.data.toList = []) && decide (b.data.toList ≠ [])))) (fun k => ?_) (Ev.now _)
    simp only [ns_wrong.j0, toL]
    cases x with
    | true => rfl
    | false =>
      simp only [Bool.false_eq_true, if_false]
      by_cases h1 : (b.data.toList == xmlL) ≠ (c.data.toList == xmlU)
      · rw [if_pos h1, if_pos (show ((b.data.toList == xmlL) != (c.data.toList == xmlU)) = true from bne_iff_ne.2 h1)]
      · rw [if_neg h1, if_neg (show ¬ ((b.data.toList == xmlL) != (c.data.toList == xmlU)) = true from fun e => h1 (bne_iff_ne.1 e))]
        by_cases h2 : c.data.toList = xmlnsU
        · rw [if_pos h2, if_pos (show c.data.toList = xmlnsU from h2)]
        · rw [if_neg h2, if_neg (show ¬ c.data.toList = xmlnsU from h2)]
          by_cases h3 : c.data.toList = []
          · rw [if_pos h3, decide_eq_true h3, Bool.true_and]
            cases b.data.toList <;> simp
          · rw [if_neg h3, decide_eq_false h3, Bool.false_and]
  unfold ns_wrong.f wrongS
  rw [toL, toL]
  by_cases h : a.data.toList = [120, 109, 108, 110, 115]
  · have h' : a.data.toList = ownB := h
    rw [if_neg (show ¬ (a.data.toList ≠ ownB ∧ _) from fun x => x.1 h')]
    exact Ev.congr (fun k => if_pos h) (last false)
  · have h' : a.data.toList ≠ ownB := h
    refine Ev.congr (fun k => if_neg h) (Ev.bind (ncname_ev b hb) ?_)
    cases hn : ncB b with
    | false =>
      rw [if_pos ⟨h', .inl rfl⟩]
      exact Ev.congr (fun k => if_neg (by simp)) (last true)
    | true =>
      refine Ev.congr (fun k => if_pos rfl) ?_
      have := last (b.data.toList == ownB)
      by_cases h4 : b.data.toList = ownB
      · rw [if_pos ⟨h', .inr h4⟩]
        rw [if_pos (by rw [beq_iff_eq]; exact h4)] at this
        exact this
      · rw [if_neg (fun x => x.2.elim (fun e => by cases e) h4)]
        rw [if_neg (by rw [beq_iff_eq]; exact h4)] at this
        exact this
theorem wrong_c (a b c : ByteArray) (hb : b.size < 4398046511104) (w : World) :
    Calls Try.prog 16 #[.string a, .string b, .string c] w fun e w' => e = .returned (.bool (wrongS a b c)) ∧ Below w.heap.size w w' := by
  obtain ⟨k, h⟩ := (wrong_ev a b c hb).rounds
  exact ns_wrong.calls k a b c _ w h
end Go.Proofs.YtdelafoijplleaaN
