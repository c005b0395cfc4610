/- What is proved: for every two texts the law CharJoins of layer 1 answers true: how names join, and how a name with a prefix comes apart. Conditions: none beyond the row's own. -/
import Derived.Test.YtjogllgkdnomiaaPCharJoinsx6
set_option linter.unusedVariables false
set_option linter.unusedSimpArgs false
namespace Go.Proofs.Ytjogllgkdnomiaa.Pure
open Go.RowKit Go.Proofs.Ytjogllgkdnomiaa.PCharJoins Go.Proofs.YtjogllgkdnomiaaW.PrintWords Go.Proofs.YtjogllgkdnomiaaW.PrintLast Go.Proofs.YtjogllgkdnomiaaW.PrintMore
/-! ### bytes, letters, classes: plain -/
def Bytes (l : List Int) : Prop := ∀ x ∈ l, 0 ≤ x ∧ x < 256
theorem Bytes.tail {c : Int} {l : List Int} (h : Bytes (c :: l)) : Bytes l := fun x hx => h x (List.mem_cons_of_mem _ hx)
theorem Bytes.head {c : Int} {l : List Int} (h : Bytes (c :: l)) : 0 ≤ c ∧ c < 256 := h c List.mem_cons_self
theorem Bytes.drop {l : List Int} (h : Bytes l) (n : Nat) : Bytes (l.drop n) := fun x hx => h x (List.mem_of_mem_drop hx)
theorem Bytes.take {l : List Int} (h : Bytes l) (n : Nat) : Bytes (l.take n) := fun x hx => h x (List.mem_of_mem_take hx)
theorem Bytes.append {l m : List Int} (h : Bytes l) (h' : Bytes m) : Bytes (l ++ m) := fun x hx => (List.mem_append.1 hx).elim (h x) (h' x)
theorem bytes_of (s : ByteArray) : Bytes (bytesOf s) := by
  intro x hx
  obtain ⟨b, _, rfl⟩ := List.mem_map.1 hx
  have := b.toNat_lt
  omega
theorem bytes_wf {l : List Int} (h : ∀ x ∈ l, (Lit.int .u8 x).wf = true) : Bytes l := by
  intro x hx
  have h1 := h x hx
  have hmin : IntKind.u8.min = 0 := rfl
  have hmax : IntKind.u8.max = 255 := rfl
  simp only [Lit.wf, Bool.and_eq_true, decide_eq_true_eq] at h1
  omega
theorem decode_eq {l : List Int} (h : Bytes l) : char_Decode.f l = some (decS l) := by
  unfold char_Decode.f
  rw [if_pos]
  rw [List.all_eq_true]
  intro x hx
  have := h.take 4 x hx
  unfold isByte
  simp; omega
theorem decS_ok {l : List Int} (h : Bytes l) : decS l = (-1, 0) ∨ (1 ≤ (decS l).2 ∧ (decS l).2 ≤ l.length ∧ (decS l).2 ≤ 4 ∧ 0 ≤ (decS l).1 ∧ (decS l).1 ≤ 1114111) := by
  match l, h with
  | [], h => exact .inl rfl
  | c :: t, h =>
    have hc := h.head
    have ht := h.tail
    simp only [decS]
    split
    · exact .inr ⟨by simp, by simp only [List.length_cons]; omega, by simp, hc.1, by simp only []; omega⟩
    · split
      · match t, ht with
        | [], _ => exact .inl rfl
        | a :: t1, ht =>
          have ha := ht.head
          simp only []
          repeat' split
          all_goals first | exact .inl rfl | (refine .inr ⟨by simp, by simp only [List.length_cons]; omega, by simp, ?_, ?_⟩ <;> (simp only []; omega))
      · split
        · match t, ht with
          | [], _ => exact .inl rfl
          | [a], _ => exact .inl rfl
          | a :: b :: t1, ht =>
            have ha := ht.head
            have hb := ht.tail.head
            simp only []
            repeat' split
            all_goals first | exact .inl rfl | (refine .inr ⟨by simp, by simp only [List.length_cons]; omega, by simp, ?_, ?_⟩ <;> (simp only []; omega))
        · split
          · match t, ht with
            | [], _ => exact .inl rfl
            | [a], _ => exact .inl rfl
            | [a, b], _ => exact .inl rfl
            | a :: b :: d :: t1, ht =>
              have ha := ht.head
              have hb := ht.tail.head
              have hd := ht.tail.tail.head
              simp only []
              repeat' split
              all_goals first | exact .inl rfl | (refine .inr ⟨by simp, by simp only [List.length_cons]; omega, by simp, ?_, ?_⟩ <;> (simp only []; omega))
          · exact .inl rfl
def charB (r : Int) : Bool := decide (r = 9 ∨ r = 10 ∨ r = 13 ∨ (32 ≤ r ∧ r ≤ 55295) ∨ (57344 ≤ r ∧ r ≤ 65533) ∨ (65536 ≤ r ∧ r ≤ 1114111))
theorem char_eq (r : Int) : char_Char.f r = some (charB r) := by
  unfold char_Char.f charB
  repeat' split
  all_goals (congr 1; rw [Bool.eq_iff_iff]; first | (simp; done) | (simp; omega))
theorem w64 {x : Int} (h0 : 0 ≤ x) (h1 : x < 4611686018427387904) : wrap64 x = x := by unfold wrap64; omega
theorem w64' {x : Int} (h0 : -4611686018427387904 < x) (h1 : x < 4611686018427387904) : wrap64 x = x := by unfold wrap64; omega
/-! ### classes -/
def startB (r : Int) : Bool := decide ((65 ≤ r ∧ r ≤ 90) ∨ (97 ≤ r ∧ r ≤ 122) ∨ r = 95 ∨ r = 58 ∨ (192 ≤ r ∧ r ≠ 215 ∧ r ≠ 247 ∧ charB r = true))
def partB (r : Int) : Bool := decide (startB r = true ∨ (48 ≤ r ∧ r ≤ 57) ∨ r = 45 ∨ r = 46 ∨ r = 183)
theorem start_eq (k : Nat) (r : Int) : char_Start.f (k + 2) r = some (startB r) := by
  unfold char_Start.f startB
  simp only [char_Start.j0, char_Start.j1, char_eq, Option.bind_some, decide_eq_true_eq]
  cases hc : charB r
  all_goals
    repeat' split
    all_goals first | contradiction | rfl | (congr 1; rw [Bool.eq_iff_iff]; simp only [decide_eq_true_eq, beq_iff_eq, reduceCtorEq, true_iff, false_iff, and_true, and_false, or_false, false_or, true_or, or_true, not_true, not_false_iff, ne_eq]; omega) | (congr 1; rw [Bool.eq_iff_iff]; simp only [decide_eq_true_eq, beq_iff_eq, reduceCtorEq, true_iff, false_iff, and_true, and_false, or_false, false_or, true_or, or_true, not_true, not_false_iff, ne_eq]; done) | (congr 1; rw [Bool.eq_iff_iff]; omega) | (congr 1; simp; done)
theorem start_ev (r : Int) : Ev (fun k => char_Start.f k r) (startB r) := ⟨2, fun k hk => by obtain ⟨j, rfl⟩ : ∃ j, k = j + 2 := ⟨k - 2, by omega⟩; exact start_eq j r⟩
theorem part_eq (k : Nat) (r : Int) : char_Part.f (k + 2) r = some (partB r) := by
  unfold char_Part.f partB
  rw [start_eq]
  simp only [Option.bind_some]
  cases hc : startB r
  all_goals
    repeat' split
    all_goals first | contradiction | rfl | (congr 1; rw [Bool.eq_iff_iff]; simp only [decide_eq_true_eq, beq_iff_eq, reduceCtorEq, true_iff, false_iff, and_true, and_false, or_false, false_or, true_or, or_true, not_true, not_false_iff, ne_eq]; omega) | (congr 1; rw [Bool.eq_iff_iff]; simp only [decide_eq_true_eq, beq_iff_eq, reduceCtorEq, true_iff, false_iff, and_true, and_false, or_false, false_or, true_or, or_true, not_true, not_false_iff, ne_eq]; done) | (congr 1; rw [Bool.eq_iff_iff]; omega) | (congr 1; simp; done)
theorem part_ev (r : Int) : Ev (fun k => char_Part.f k r) (partB r) := ⟨2, fun k hk => by obtain ⟨j, rfl⟩ : ∃ j, k = j + 2 := ⟨k - 2, by omega⟩; exact part_eq j r⟩
/-! ### words and blanks -/
def isW (b : UInt8) : Bool := b == 32 || b == 9 || b == 10 || b == 13
def mkB (l : List UInt8) : ByteArray := ⟨l.toArray⟩
def wordsS : List UInt8 → List UInt8 → List (List UInt8)
  | [], w => if w = [] then [] else [w]
  | b :: t, w => if isW b then (if w = [] then wordsS t [] else w :: wordsS t []) else wordsS t (w ++ [b])
theorem isW_int (b : UInt8) : decide ((b.toNat : Int) = 32 ∨ (b.toNat : Int) = 9 ∨ (b.toNat : Int) = 10 ∨ (b.toNat : Int) = 13) = isW b := by
  have key : ∀ n : Fin 256, decide (((UInt8.ofNat n.val).toNat : Int) = 32 ∨ ((UInt8.ofNat n.val).toNat : Int) = 9 ∨ ((UInt8.ofNat n.val).toNat : Int) = 10 ∨ ((UInt8.ofNat n.val).toNat : Int) = 13) = isW (UInt8.ofNat n.val) := by decide +kernel
  have := key ⟨b.toNat, b.toNat_lt⟩
  simpa using this
theorem ba_ext {a b : ByteArray} (h : a.data.toList = b.data.toList) : a = b := by
  obtain ⟨⟨la⟩⟩ := a
  obtain ⟨⟨lb⟩⟩ := b
  simp only at h
  rw [h]
theorem mkB_data (l : List UInt8) : (mkB l).data.toList = l := rfl
theorem mkB_eta (s : ByteArray) : mkB s.data.toList = s := by obtain ⟨⟨l⟩⟩ := s; rfl
theorem mkB_inj {a b : List UInt8} (h : mkB a = mkB b) : a = b := by
  have := congrArg (fun s => s.data.toList) h
  exact this
theorem extract_mkB (s : ByteArray) (a b : Nat) : s.extract a b = mkB ((s.data.toList.drop a).take (b - a)) := ba_ext (Lib.extract_data s a b)
theorem mkB_size (l : List UInt8) : (mkB l).size = l.length := by rw [← data_length]; rfl
theorem drop_byte (s : ByteArray) (i : Nat) (hi : i < s.size) : ∃ b : UInt8, s.data.toList.drop i = b :: s.data.toList.drop (i + 1) ∧ bt s i = (b.toNat : Int) := by
  have hl : i < s.data.toList.length := by rw [data_length]; exact hi
  refine ⟨s.data.toList[i], List.drop_eq_getElem_cons hl, ?_⟩
  unfold bt
  rw [dif_pos (by simpa using hi)]
  rfl
theorem take_grow (l : List UInt8) (a i : Nat) (b : UInt8) (hai : a ≤ i) (hd : l.drop i = b :: l.drop (i + 1)) : (l.drop a).take (i + 1 - a) = (l.drop a).take (i - a) ++ [b] := by
  have h1 : (l.drop a).drop (i - a) = b :: l.drop (i + 1) := by rw [List.drop_drop, show a + (i - a) = i by omega, hd]
  have h2 : i - a < (l.drop a).length := by
    have := congrArg List.length h1
    rw [List.length_drop, List.length_cons] at this
    omega
  rw [show i + 1 - a = (i - a) + 1 by omega, List.take_succ_eq_append_getElem h2]
  rw [List.drop_eq_getElem_cons h2] at h1
  rw [(List.cons.inj h1).1]
theorem white_byte (b : UInt8) : char_White.f (wrap32 (b.toNat : Int)) = some (isW b) := by
  have := b.toNat_lt
  rw [white_some (b.toNat : Int) (by omega) (by omega)]
  congr 1
  exact isW_int b
theorem extract_mkB' (s : ByteArray) (a : Nat) : s.extract a s.size = mkB ((s.data.toList.drop a).take (s.size - a)) := extract_mkB s a s.size
theorem words_go (s : ByteArray) (hs : s.size < 8796093022208) (n : Nat) : ∀ (i a : Nat) (out : List ByteArray), a ≤ i → i ≤ s.size → s.size - i ≤ n → out.length ≤ a →
    Ev (fun k => char_Words.l0 k s out a i) (out ++ (wordsS (s.data.toList.drop i) ((s.data.toList.drop a).take (i - a))).map mkB) := by
  induction n with
  | zero =>
    intro i a out hai hi hn ho
    obtain rfl : i = s.size := by omega
    have hd : s.data.toList.drop s.size = [] := List.drop_eq_nil_of_le (by rw [data_length]; exact Nat.le_refl _)
    rw [hd]
    simp only [wordsS]
    have hfin : ∀ o : List ByteArray, ∀ z : Int, Ev (fun k => char_Words.l0 k s o z ((s.size + 1 : Nat) : Int)) o := fun o z =>
      Ev.step (f := fun _ => some o) (fun k => by simp only [char_Words.l0]; rw [if_neg (by omega)]) (Ev.now o)
    refine Ev.step (f := fun k => char_Words.j1 k s out a s.size false) (fun k => ?_) ?_
    · simp only [char_Words.l0]
      rw [if_pos (by omega), if_neg (by omega)]
    · by_cases h : a < s.size
      · have hne : (s.data.toList.drop a).take (s.size - a) ≠ [] := by
          intro e
          have := congrArg List.length e
          rw [List.length_take, List.length_drop, data_length, List.length_nil] at this
          omega
        rw [if_neg hne, List.map_cons, List.map_nil, ← extract_mkB' s a]
        refine Ev.step (fun k => ?_) (hfin (out ++ [s.extract a s.size]) ((s.size + 1 : Nat) : Int))
        simp only [char_Words.j1]
        rw [if_neg (by simp), if_pos (by omega), if_pos (by omega), if_pos (by omega), if_pos (by omega), if_pos (by omega), w64 (by omega) (by omega)]
        rfl
      · have he : (s.data.toList.drop a).take (s.size - a) = [] := by
          rw [show s.size - a = 0 by omega]; rfl
        rw [if_pos he]
        simp only [List.map_nil, List.append_nil]
        refine Ev.step (fun k => ?_) (hfin out ((s.size + 1 : Nat) : Int))
        simp only [char_Words.j1]
        rw [if_neg (by simp), if_neg (by omega), w64 (by omega) (by omega)]
        rfl
  | succ n ih =>
    intro i a out hai hi hn ho
    by_cases hlt : i < s.size
    · obtain ⟨b, hd, hbt⟩ := drop_byte s i hlt
      rw [hd]
      simp only [wordsS]
      refine Ev.step (f := fun k => char_Words.j1 k s out a i (!isW b)) (fun k => ?_) ?_
      · simp only [char_Words.l0]
        rw [if_pos (by omega), if_pos (by omega), if_pos (by omega), hbt, white_byte]
        rfl
      · cases hw : isW b with
        | false =>
          rw [if_neg (by simp)]
          have := ih (i + 1) a out (by omega) (by omega) (by omega) ho
          rw [take_grow _ a i b hai hd] at this
          refine Ev.step (fun k => ?_) this
          simp only [char_Words.j1]
          rw [if_pos (by simp), w64 (by omega) (by omega)]
          rfl
        | true =>
          rw [if_pos rfl]
          by_cases h : a < i
          · have hne : (s.data.toList.drop a).take (i - a) ≠ [] := by
              intro e
              have := congrArg List.length e
              rw [List.length_take, List.length_drop, data_length, List.length_nil] at this
              omega
            rw [if_neg hne]
            have := ih (i + 1) (i + 1) (out ++ [s.extract a i]) (by omega) (by omega) (by omega) (by rw [List.length_append]; simp; omega)
            rw [Nat.sub_self, List.take_zero, List.append_assoc] at this
            rw [List.map_cons, ← extract_mkB]
            refine Ev.step (fun k => ?_) this
            simp only [char_Words.j1]
            rw [if_neg (by simp), if_pos (by omega), if_pos (by omega), if_pos (by omega), if_pos (by omega), if_pos (by omega), w64 (by omega) (by omega)]
            rfl
          · have he : (s.data.toList.drop a).take (i - a) = [] := by
              rw [show i - a = 0 by omega]; rfl
            rw [if_pos he]
            have := ih (i + 1) (i + 1) out (by omega) (by omega) (by omega) (by omega)
            rw [Nat.sub_self, List.take_zero] at this
            refine Ev.step (fun k => ?_) this
            simp only [char_Words.j1]
            rw [if_neg (by simp), if_neg (by omega), w64 (by omega) (by omega)]
            rfl
    · obtain rfl : i = s.size := by omega
      exact ih s.size a out hai hi (by omega) ho
def wordsB (s : ByteArray) : List (List UInt8) := wordsS s.data.toList []
theorem words_eq (s : ByteArray) (hs : s.size < 8796093022208) : Ev (fun k => char_Words.f k s) ((wordsB s).map mkB) := by
  have := words_go s hs s.size 0 0 [] (by omega) (by omega) (by omega) (by simp)
  simp only [List.drop_zero, Nat.sub_self, List.take_zero, List.nil_append, Int.natCast_zero] at this
  exact this
/-! ### a text's letters -/
def letsN : Nat → List Int → Option (List Int)
  | 0, l => if l = [] then some [] else none
  | n + 1, l => if l = [] then some [] else if (decS l).2 = 0 then none else (letsN n (l.drop (decS l).2.toNat)).map ((decS l).1 :: ·)
def lets (l : List Int) : Option (List Int) := letsN l.length l
theorem letsN_fuel (n : Nat) : ∀ (m : Nat) (l : List Int), Bytes l → l.length ≤ n → l.length ≤ m → letsN n l = letsN m l := by
  induction n with
  | zero =>
    intro m l _ hn _
    obtain rfl : l = [] := List.length_eq_zero_iff.1 (by omega)
    cases m <;> simp [letsN]
  | succ n ih =>
    intro m l hb hn hm
    by_cases he : l = []
    · subst he
      cases m <;> simp [letsN]
    · have hp := List.length_pos_iff.2 he
      obtain ⟨m, rfl⟩ : ∃ j, m = j + 1 := ⟨m - 1, by omega⟩
      simp only [letsN]
      rw [if_neg he, if_neg he]
      by_cases h0 : (decS l).2 = 0
      · rw [if_pos h0, if_pos h0]
      · rw [if_neg h0, if_neg h0]
        rcases decS_ok hb with e | ⟨a, b, c, _⟩
        · rw [e] at h0; exact absurd rfl h0
        · rw [ih m _ (hb.drop _) (by rw [List.length_drop]; omega) (by rw [List.length_drop]; omega)]
theorem lets_nil : lets [] = some [] := rfl
theorem lets_bad {l : List Int} (he : l ≠ []) (h0 : (decS l).2 = 0) : lets l = none := by
  have hp := List.length_pos_iff.2 he
  unfold lets
  obtain ⟨n, hn⟩ : ∃ n, l.length = n + 1 := ⟨l.length - 1, by omega⟩
  rw [hn]
  simp only [letsN]
  rw [if_neg he, if_pos h0]
theorem lets_step {l : List Int} (hb : Bytes l) (h0 : (decS l).2 ≠ 0) : lets l = (lets (l.drop (decS l).2.toNat)).map ((decS l).1 :: ·) := by
  have he : l ≠ [] := by
    intro e
    subst e
    exact h0 rfl
  have hp := List.length_pos_iff.2 he
  unfold lets
  obtain ⟨n, hn⟩ : ∃ n, l.length = n + 1 := ⟨l.length - 1, by omega⟩
  rw [hn]
  simp only [letsN]
  rw [if_neg he, if_neg h0]
  rcases decS_ok hb with e | ⟨a, b, c, _⟩
  · rw [e] at h0; exact absurd rfl h0
  · rw [letsN_fuel n (l.drop (decS l).2.toNat).length _ (hb.drop _) (by rw [List.length_drop]; omega) (Nat.le_refl _)]
/-- What is a letter stays one, whatever stands behind it. -/
theorem decS_app (l t : List Int) (h : (decS l).2 ≠ 0) : decS (l ++ t) = decS l := by
  match l, h with
  | [], h => exact absurd rfl h
  | [c], h =>
    simp only [List.cons_append, List.nil_append, decS] at h ⊢
    by_cases g1 : c < 128
    · rw [if_pos g1, if_pos g1]
    · rw [if_neg g1] at h ⊢
      rw [if_neg g1]
      exfalso
      revert h
      repeat' split
      all_goals simp
  | [c, a], h =>
    simp only [List.cons_append, List.nil_append, decS] at h ⊢
    by_cases g1 : c < 128
    · rw [if_pos g1, if_pos g1]
    · rw [if_neg g1] at h ⊢
      rw [if_neg g1]
      by_cases g2 : c / 32 = 6
      · rw [if_pos g2, if_pos g2]
      · rw [if_neg g2] at h ⊢
        exfalso
        revert h
        try rw [if_neg g2]
        repeat' split
        all_goals simp
  | [c, a, b], h =>
    simp only [List.cons_append, List.nil_append, decS] at h ⊢
    by_cases g1 : c < 128
    · rw [if_pos g1, if_pos g1]
    · rw [if_neg g1] at h ⊢
      rw [if_neg g1]
      by_cases g2 : c / 32 = 6
      · rw [if_pos g2, if_pos g2]
      · rw [if_neg g2] at h ⊢
        rw [if_neg g2]
        by_cases g3 : c / 16 = 14
        · rw [if_pos g3, if_pos g3]
        · rw [if_neg g3] at h ⊢
          exfalso
          revert h
          try rw [if_neg g3]
          repeat' split
          all_goals simp
  | c :: a :: b :: d :: r, h =>
    simp only [List.cons_append, decS]
/-- A small byte ends every letter: it is none's part. -/
theorem decS_front (l t : List Int) (c : Int) (hc : 0 ≤ c ∧ c < 128) (hl : l ≠ []) (h : (decS (l ++ c :: t)).2 ≠ 0) : (decS l).2 ≠ 0 := by
  have h2 : ¬ c / 64 = 2 := by omega
  match l, hl, h with
  | [x], _, h =>
    simp only [List.cons_append, List.nil_append, decS] at h ⊢
    by_cases g1 : x < 128
    · rw [if_pos g1]; simp
    · exfalso
      revert h
      rw [if_neg g1]
      by_cases g2 : x / 32 = 6
      · rw [if_pos g2, if_neg h2]; simp
      rw [if_neg g2]
      by_cases g3 : x / 16 = 14
      · rw [if_pos g3]
        cases t with
        | nil => simp
        | cons y t => simp only []; rw [if_neg h2]; simp
      rw [if_neg g3]
      by_cases g4 : x / 8 = 30
      · rw [if_pos g4]
        match t with
        | [] => simp
        | [y] => simp
        | y :: z :: t => simp only []; rw [if_neg h2]; simp
      rw [if_neg g4]
      simp
  | [x, a], _, h =>
    simp only [List.cons_append, List.nil_append, decS] at h ⊢
    by_cases g1 : x < 128
    · rw [if_pos g1]; simp
    rw [if_neg g1] at h ⊢
    by_cases g2 : x / 32 = 6
    · rw [if_pos g2] at h ⊢; exact h
    rw [if_neg g2] at h ⊢
    exfalso
    revert h
    by_cases g3 : x / 16 = 14
    · rw [if_pos g3, if_neg h2]
      by_cases e1 : a / 64 = 2
      · rw [if_pos e1]; simp
      · rw [if_neg e1]; simp
    rw [if_neg g3]
    by_cases g4 : x / 8 = 30
    · rw [if_pos g4]
      cases t with
      | nil => simp
      | cons y t =>
        simp only []
        rw [if_neg h2]
        by_cases e1 : a / 64 = 2
        · rw [if_pos e1]; simp
        · rw [if_neg e1]; simp
    rw [if_neg g4]
    simp
  | [x, a, b], _, h =>
    simp only [List.cons_append, List.nil_append, decS] at h ⊢
    by_cases g1 : x < 128
    · rw [if_pos g1]; simp
    rw [if_neg g1] at h ⊢
    by_cases g2 : x / 32 = 6
    · rw [if_pos g2] at h ⊢; exact h
    rw [if_neg g2] at h ⊢
    by_cases g3 : x / 16 = 14
    · rw [if_pos g3] at h ⊢; exact h
    rw [if_neg g3] at h ⊢
    exfalso
    revert h
    by_cases g4 : x / 8 = 30
    · rw [if_pos g4, if_neg h2]
      by_cases e1 : a / 64 = 2
      · rw [if_pos e1]
        by_cases e2 : b / 64 = 2
        · rw [if_pos e2]; simp
        · rw [if_neg e2]; simp
      · rw [if_neg e1]; simp
    rw [if_neg g4]
    simp
  | x :: a :: b :: d :: r, _, h =>
    simp only [List.cons_append, decS] at h ⊢
    exact h
theorem lets_app (n : Nat) : ∀ (a b La : List Int), a.length ≤ n → Bytes a → Bytes b → lets a = some La → lets (a ++ b) = (lets b).map (La ++ ·) := by
  induction n with
  | zero =>
    intro a b La hn _ _ h
    obtain rfl : a = [] := List.length_eq_zero_iff.1 (by omega)
    rw [lets_nil] at h
    obtain rfl := Option.some.inj h
    simp
  | succ n ih =>
    intro a b La hn ha hb h
    by_cases he : a = []
    · exact ih a b La (by rw [he]; simp) ha hb h
    by_cases h0 : (decS a).2 = 0
    · rw [lets_bad he h0] at h; exact absurd h (by simp)
    have hd := decS_app a b h0
    rcases decS_ok ha with e | ⟨h1, h2, _⟩
    · rw [e] at h0; exact absurd rfl h0
    rw [lets_step ha h0] at h
    obtain ⟨L1, hL1, rfl⟩ := Option.map_eq_some_iff.1 h
    rw [lets_step (ha.append hb) (by rw [hd]; exact h0), hd]
    have hlen : (decS a).2.toNat ≤ a.length := by omega
    rw [List.drop_append_of_le_length hlen, ih _ b L1 (by rw [List.length_drop]; omega) (ha.drop _) hb hL1]
    rw [Option.map_map]
    rfl
/-- A small byte parts a text's letters. -/
theorem lets_split (n : Nat) : ∀ (a t : List Int) (c : Int) (L : List Int), a.length ≤ n → 0 ≤ c ∧ c < 128 → Bytes a → Bytes t → lets (a ++ c :: t) = some L →
    ∃ La Lt, lets a = some La ∧ lets t = some Lt ∧ L = La ++ c :: Lt := by
  induction n with
  | zero =>
    intro a t c L hn hc ha ht h
    obtain rfl : a = [] := List.length_eq_zero_iff.1 (by omega)
    have hcb : Bytes (c :: t) := fun x hx => by
      rcases List.mem_cons.1 hx with rfl | hx
      · omega
      · exact ht x hx
    have hd : decS (c :: t) = (c, 1) := by simp only [decS]; rw [if_pos hc.2]
    rw [List.nil_append, lets_step hcb (by rw [hd]; simp), hd] at h
    obtain ⟨Lt, hLt, rfl⟩ := Option.map_eq_some_iff.1 h
    exact ⟨[], Lt, rfl, hLt, rfl⟩
  | succ n ih =>
    intro a t c L hn hc ha ht h
    by_cases he : a = []
    · exact ih a t c L (by rw [he]; simp) hc ha ht h
    have hcb : Bytes (c :: t) := fun x hx => by
      rcases List.mem_cons.1 hx with rfl | hx
      · omega
      · exact ht x hx
    have hne : a ++ c :: t ≠ [] := by simp
    by_cases h0 : (decS (a ++ c :: t)).2 = 0
    · rw [lets_bad hne h0] at h; exact absurd h (by simp)
    have h0a := decS_front a t c hc he h0
    have hd := decS_app a (c :: t) h0a
    rcases decS_ok ha with e | ⟨h1, h2, _⟩
    · rw [e] at h0a; exact absurd rfl h0a
    rw [lets_step (ha.append hcb) h0, hd] at h
    obtain ⟨L1, hL1, rfl⟩ := Option.map_eq_some_iff.1 h
    have hlen : (decS a).2.toNat ≤ a.length := by omega
    rw [List.drop_append_of_le_length hlen] at hL1
    obtain ⟨La, Lt, e1, e2, rfl⟩ := ih _ t c L1 (by rw [List.length_drop]; omega) hc (ha.drop _) ht hL1
    refine ⟨(decS a).1 :: La, Lt, ?_, e2, rfl⟩
    rw [lets_step ha h0a, e1]
    rfl
theorem lets_join (a t : List Int) (c : Int) (La Lt : List Int) (hc : 0 ≤ c ∧ c < 128) (ha : Bytes a) (ht : Bytes t) (h1 : lets a = some La) (h2 : lets t = some Lt) : lets (a ++ c :: t) = some (La ++ c :: Lt) := by
  have hcb : Bytes (c :: t) := fun x hx => by
    rcases List.mem_cons.1 hx with rfl | hx
    · omega
    · exact ht x hx
  have hd : decS (c :: t) = (c, 1) := by simp only [decS]; rw [if_pos hc.2]
  rw [lets_app a.length a (c :: t) La (Nat.le_refl _) ha hcb h1, lets_step hcb (by rw [hd]; simp), hd]
  simp [h2]
theorem drop_ne {L : List Int} {i : Nat} (h : i < L.length) : L.drop i ≠ [] := by
  intro e
  have := congrArg List.length e
  rw [List.length_drop, List.length_nil] at this
  omega
theorem conv_eq {s : ByteArray} (h : s.size < 140737488355328) : conv_bytes.f s = some (bytesOf s) := by unfold conv_bytes.f; rw [if_pos h]
/-! ### names of letters: char.every, Name, Token, NCName, QName -/
theorem toL (s : ByteArray) : s.toList = s.data.toList := ByteArray.toList_eq s
def partsL (M : Option (List Int)) : Bool := match M with
  | none => false
  | some M => M.all partB
def nameL (p : Int → Bool) (M : Option (List Int)) : Bool := match M with
  | none => false
  | some [] => false
  | some (r :: t) => p r && (r :: t).all partB
theorem partsL_cons (r : Int) (M : Option (List Int)) : partsL (M.map (r :: ·)) = (partB r && partsL M) := by cases M <;> simp [partsL]
theorem nameL_cons (p : Int → Bool) (r : Int) (M : Option (List Int)) : nameL p (M.map (r :: ·)) = (p r && (partB r && partsL M)) := by cases M <;> simp [partsL, nameL]
theorem every1_go (s : ByteArray) (L : List Int) (hb : Bytes L) (hL : L.length < 140737488355328) (hs : s.toList.isEmpty = false) (n : Nat) : ∀ i : Nat, 1 ≤ i → i ≤ L.length → L.length - i ≤ n →
    Ev (fun k => char_every_char_Start_char_Part.l0 k s L i) (partsL (lets (L.drop i))) := by
  induction n with
  | zero =>
    intro i h1 hi hn
    have e : L.drop i = [] := List.drop_eq_nil_of_le (by omega)
    rw [e, lets_nil]
    refine Ev.step (f := fun _ => some true) (fun k => ?_) (Ev.now true)
    simp only [char_every_char_Start_char_Part.l0]
    rw [if_neg (by omega), hs]
    rfl
  | succ n ih =>
    intro i h1 hi hn
    by_cases hlt : i < L.length
    · have hne := drop_ne hlt
      have hbd := hb.drop i
      by_cases h0 : (decS (L.drop i)).2 = 0
      · rw [lets_bad hne h0]
        refine Ev.step (f := fun _ => some false) (fun k => ?_) (Ev.now false)
        simp only [char_every_char_Start_char_Part.l0]
        rw [if_pos (by omega), if_pos (by omega), if_pos (by omega), Int.toNat_natCast, decode_eq hbd]
        simp only [Option.bind_some]
        rw [if_pos h0]
      · rw [lets_step hbd h0, partsL_cons]
        rcases decS_ok hbd with e | ⟨g1, g2, g3, _⟩
        · rw [e] at h0; exact absurd rfl h0
        rw [List.length_drop] at g2
        obtain ⟨m, hm⟩ : ∃ m : Nat, (decS (L.drop i)).2 = m := ⟨(decS (L.drop i)).2.toNat, by omega⟩
        have := ih (i + m) (by omega) (by omega) (by omega)
        rw [hm, Int.toNat_natCast, List.drop_drop]
        refine Ev.step (f := fun k => (char_Part.f k (decS (L.drop i)).1).bind fun t => if t = true then char_every_char_Start_char_Part.l0 k s L ((i + m : Nat) : Int) else some false) (fun k => ?_) ?_
        · simp only [char_every_char_Start_char_Part.l0]
          rw [if_pos (by omega), if_pos (by omega), if_pos (by omega), Int.toNat_natCast, decode_eq hbd]
          simp only [Option.bind_some]
          rw [if_neg h0, if_neg (by omega), hm, w64 (by omega) (by omega)]
          rfl
        · refine Ev.bind (part_ev _) ?_
          cases hp : partB (decS (L.drop i)).1 with
          | false => exact Ev.congr (fun k => if_neg (by simp)) (Ev.now false)
          | true => exact Ev.congr (fun k => if_pos rfl) (by simpa using this)
    · exact ih i h1 hi (by omega)
theorem every1_eq (s : ByteArray) (hs : s.size < 4398046511104) : Ev (fun k => char_every_char_Start_char_Part.f k s) (nameL startB (lets (bytesOf s))) := by
  unfold char_every_char_Start_char_Part.f
  refine Ev.congr (fun k => by rw [conv_eq (by omega)]; rfl) (f := fun k => char_every_char_Start_char_Part.l0 k s (bytesOf s) 0) ?_
  have hl := bytesOf_length s
  have hb := bytes_of s
  by_cases hz : s.size = 0
  · have he : bytesOf s = [] := List.length_eq_zero_iff.1 (by omega)
    have hse : s.toList.isEmpty = true := by
      rw [toL, List.isEmpty_iff_length_eq_zero, data_length, hz]
    rw [he, lets_nil]
    refine Ev.step (f := fun _ => some false) (fun k => ?_) (Ev.now false)
    simp only [char_every_char_Start_char_Part.l0]
    rw [if_neg (by simp), hse]
    rfl
  · have hse : s.toList.isEmpty = false := by
      rw [toL, Bool.eq_false_iff]
      intro e
      rw [List.isEmpty_iff_length_eq_zero, data_length] at e
      exact hz e
    have hne : bytesOf s ≠ [] := by
      intro e
      rw [e] at hl
      exact hz hl.symm
    by_cases h0 : (decS (bytesOf s)).2 = 0
    · rw [lets_bad hne h0]
      refine Ev.step (f := fun _ => some false) (fun k => ?_) (Ev.now false)
      simp only [char_every_char_Start_char_Part.l0]
      rw [if_pos (by omega), if_pos (by omega), if_pos (by omega), Int.toNat_zero, List.drop_zero, decode_eq hb]
      simp only [Option.bind_some]
      rw [if_pos h0]
    · rw [lets_step hb h0, nameL_cons]
      rcases decS_ok hb with e | ⟨g1, g2, g3, _⟩
      · rw [e] at h0; exact absurd rfl h0
      obtain ⟨m, hm⟩ : ∃ m : Nat, (decS (bytesOf s)).2 = m := ⟨(decS (bytesOf s)).2.toNat, by omega⟩
      have := every1_go s (bytesOf s) hb (by omega) hse (bytesOf s).length m (by omega) (by omega) (by omega)
      rw [hm, Int.toNat_natCast]
      refine Ev.step (f := fun k => (char_Start.f k (decS (bytesOf s)).1).bind fun q => if q = true then (char_Part.f k (decS (bytesOf s)).1).bind fun t => if t = true then char_every_char_Start_char_Part.l0 k s (bytesOf s) ((m : Nat) : Int) else some false else some false) (fun k => ?_) ?_
      · simp only [char_every_char_Start_char_Part.l0]
        rw [if_pos (by omega), if_pos (by omega), if_pos (by omega), Int.toNat_zero, List.drop_zero, decode_eq hb]
        simp only [Option.bind_some]
        rw [if_neg h0, if_pos trivial, hm, w64 (by omega) (by omega), Int.zero_add]
      · refine Ev.bind (start_ev _) ?_
        cases hq : startB (decS (bytesOf s)).1 with
        | false => exact Ev.congr (fun k => if_neg (by simp)) (Ev.now false)
        | true =>
          refine Ev.congr (fun k => if_pos rfl) (Ev.bind (part_ev _) ?_)
          cases hp : partB (decS (bytesOf s)).1 with
          | false => exact Ev.congr (fun k => if_neg (by simp)) (Ev.now false)
          | true => exact Ev.congr (fun k => if_pos rfl) (by simpa using this)
theorem every2_go (s : ByteArray) (L : List Int) (hb : Bytes L) (hL : L.length < 140737488355328) (hs : s.toList.isEmpty = false) (n : Nat) : ∀ i : Nat, 1 ≤ i → i ≤ L.length → L.length - i ≤ n →
    Ev (fun k => char_every_char_Part_char_Part.l0 k s L i) (partsL (lets (L.drop i))) := by
  induction n with
  | zero =>
    intro i h1 hi hn
    have e : L.drop i = [] := List.drop_eq_nil_of_le (by omega)
    rw [e, lets_nil]
    refine Ev.step (f := fun _ => some true) (fun k => ?_) (Ev.now true)
    simp only [char_every_char_Part_char_Part.l0]
    rw [if_neg (by omega), hs]
    rfl
  | succ n ih =>
    intro i h1 hi hn
    by_cases hlt : i < L.length
    · have hne := drop_ne hlt
      have hbd := hb.drop i
      by_cases h0 : (decS (L.drop i)).2 = 0
      · rw [lets_bad hne h0]
        refine Ev.step (f := fun _ => some false) (fun k => ?_) (Ev.now false)
        simp only [char_every_char_Part_char_Part.l0]
        rw [if_pos (by omega), if_pos (by omega), if_pos (by omega), Int.toNat_natCast, decode_eq hbd]
        simp only [Option.bind_some]
        rw [if_pos h0]
      · rw [lets_step hbd h0, partsL_cons]
        rcases decS_ok hbd with e | ⟨g1, g2, g3, _⟩
        · rw [e] at h0; exact absurd rfl h0
        rw [List.length_drop] at g2
        obtain ⟨m, hm⟩ : ∃ m : Nat, (decS (L.drop i)).2 = m := ⟨(decS (L.drop i)).2.toNat, by omega⟩
        have := ih (i + m) (by omega) (by omega) (by omega)
        rw [hm, Int.toNat_natCast, List.drop_drop]
        refine Ev.step (f := fun k => (char_Part.f k (decS (L.drop i)).1).bind fun t => if t = true then char_every_char_Part_char_Part.l0 k s L ((i + m : Nat) : Int) else some false) (fun k => ?_) ?_
        · simp only [char_every_char_Part_char_Part.l0]
          rw [if_pos (by omega), if_pos (by omega), if_pos (by omega), Int.toNat_natCast, decode_eq hbd]
          simp only [Option.bind_some]
          rw [if_neg h0, if_neg (by omega), hm, w64 (by omega) (by omega)]
          rfl
        · refine Ev.bind (part_ev _) ?_
          cases hp : partB (decS (L.drop i)).1 with
          | false => exact Ev.congr (fun k => if_neg (by simp)) (Ev.now false)
          | true => exact Ev.congr (fun k => if_pos rfl) (by simpa using this)
    · exact ih i h1 hi (by omega)
theorem every2_eq (s : ByteArray) (hs : s.size < 4398046511104) : Ev (fun k => char_every_char_Part_char_Part.f k s) (nameL partB (lets (bytesOf s))) := by
  unfold char_every_char_Part_char_Part.f
  refine Ev.congr (fun k => by rw [conv_eq (by omega)]; rfl) (f := fun k => char_every_char_Part_char_Part.l0 k s (bytesOf s) 0) ?_
  have hl := bytesOf_length s
  have hb := bytes_of s
  by_cases hz : s.size = 0
  · have he : bytesOf s = [] := List.length_eq_zero_iff.1 (by omega)
    have hse : s.toList.isEmpty = true := by
      rw [toL, List.isEmpty_iff_length_eq_zero, data_length, hz]
    rw [he, lets_nil]
    refine Ev.step (f := fun _ => some false) (fun k => ?_) (Ev.now false)
    simp only [char_every_char_Part_char_Part.l0]
    rw [if_neg (by simp), hse]
    rfl
  · have hse : s.toList.isEmpty = false := by
      rw [toL, Bool.eq_false_iff]
      intro e
      rw [List.isEmpty_iff_length_eq_zero, data_length] at e
      exact hz e
    have hne : bytesOf s ≠ [] := by
      intro e
      rw [e] at hl
      exact hz hl.symm
    by_cases h0 : (decS (bytesOf s)).2 = 0
    · rw [lets_bad hne h0]
      refine Ev.step (f := fun _ => some false) (fun k => ?_) (Ev.now false)
      simp only [char_every_char_Part_char_Part.l0]
      rw [if_pos (by omega), if_pos (by omega), if_pos (by omega), Int.toNat_zero, List.drop_zero, decode_eq hb]
      simp only [Option.bind_some]
      rw [if_pos h0]
    · rw [lets_step hb h0, nameL_cons]
      rcases decS_ok hb with e | ⟨g1, g2, g3, _⟩
      · rw [e] at h0; exact absurd rfl h0
      obtain ⟨m, hm⟩ : ∃ m : Nat, (decS (bytesOf s)).2 = m := ⟨(decS (bytesOf s)).2.toNat, by omega⟩
      have := every2_go s (bytesOf s) hb (by omega) hse (bytesOf s).length m (by omega) (by omega) (by omega)
      rw [hm, Int.toNat_natCast]
      refine Ev.step (f := fun k => (char_Part.f k (decS (bytesOf s)).1).bind fun t => if t = true then char_every_char_Part_char_Part.l0 k s (bytesOf s) ((m : Nat) : Int) else some false) (fun k => ?_) ?_
      · simp only [char_every_char_Part_char_Part.l0]
        rw [if_pos (by omega), if_pos (by omega), if_pos (by omega), Int.toNat_zero, List.drop_zero, decode_eq hb]
        simp only [Option.bind_some]
        rw [if_neg h0, if_pos trivial, hm, w64 (by omega) (by omega), Int.zero_add]
      · refine Ev.bind (part_ev _) ?_
        cases hp : partB (decS (bytesOf s)).1 with
        | false => exact Ev.congr (fun k => if_neg (by simp)) (Ev.now false)
        | true => exact Ev.congr (fun k => if_pos rfl) (by simpa using this)
def ncB (s : ByteArray) : Bool := nameL startB (lets (bytesOf s)) && decide (Lib.indexByte s.data.toList 58 < 0)
def qnS (s : ByteArray) : ByteArray × ByteArray × Bool :=
  if Lib.indexByte s.data.toList 58 < 0 then (if ncB s = true then (⟨#[]⟩, s, true) else (⟨#[]⟩, ⟨#[]⟩, false))
  else if ncB (s.extract 0 (Lib.indexByte s.data.toList 58).toNat) = true then
    (if ncB (s.extract ((Lib.indexByte s.data.toList 58).toNat + 1) s.size) = true then (s.extract 0 (Lib.indexByte s.data.toList 58).toNat, s.extract ((Lib.indexByte s.data.toList 58).toNat + 1) s.size, true) else (⟨#[]⟩, ⟨#[]⟩, false))
  else (⟨#[]⟩, ⟨#[]⟩, false)
theorem name_ev (s : ByteArray) (hs : s.size < 4398046511104) : Ev (fun k => char_Name.f k s) (nameL startB (lets (bytesOf s))) := by
  unfold char_Name.f
  exact Ev.bind (every1_eq s hs) (Ev.now _)
theorem token_ev (s : ByteArray) (hs : s.size < 4398046511104) : Ev (fun k => char_Token.f k s) (nameL partB (lets (bytesOf s))) := by
  unfold char_Token.f
  exact Ev.bind (every2_eq s hs) (Ev.now _)
theorem ncname_ev (s : ByteArray) (hs : s.size < 4398046511104) : Ev (fun k => char_NCName.f k s) (ncB s) := by
  unfold char_NCName.f ncB
  refine Ev.bind (name_ev s hs) ?_
  cases nameL startB (lets (bytesOf s)) with
  | false => exact Ev.congr (fun k => if_neg (by simp)) (Ev.now false)
  | true =>
    refine Ev.congr (fun k => if_pos rfl) ?_
    unfold strings_IndexByte.f
    exact Ev.now _
theorem extract_small (s : ByteArray) (a b : Nat) (hs : s.size < 4398046511104) : (s.extract a b).size < 4398046511104 := by
  rw [extract_mkB, mkB_size, List.length_take, List.length_drop, data_length]
  omega
theorem qname_ev (s : ByteArray) (hs : s.size < 4398046511104) : Ev (fun k => char_QName.f k s) (qnS s) := by
  unfold char_QName.f
  by_cases hi : Lib.indexByte s.data.toList 58 < 0
  · have hc : strings_Cut.f s (⟨#[58]⟩ : ByteArray) = some (s, ⟨#[]⟩, false) := by
      unfold strings_Cut.f
      rw [if_pos (by omega)]
      simp only []
      rw [if_pos hi]
    rw [hc]
    unfold qnS
    rw [if_pos hi]
    simp only [Option.bind_some]
    refine Ev.congr (fun k => if_neg (by simp)) ?_
    refine Ev.step (f := fun k => (char_NCName.f k s).bind fun t => if t = true then some ((⟨#[]⟩ : ByteArray), s, true) else some ((⟨#[]⟩ : ByteArray), (⟨#[]⟩ : ByteArray), false)) (fun k => ?_) ?_
    · simp only [char_QName.j0]
      rw [if_neg (by simp)]
    · refine Ev.bind (ncname_ev s hs) ?_
      cases ncB s with
      | false => exact Ev.congr (fun k => if_neg (by simp)) (Ev.now _)
      | true => exact Ev.congr (fun k => if_pos rfl) (Ev.now _)
  · have hc : strings_Cut.f s (⟨#[58]⟩ : ByteArray) = some (s.extract 0 (Lib.indexByte s.data.toList 58).toNat, s.extract ((Lib.indexByte s.data.toList 58).toNat + 1) s.size, true) := by
      unfold strings_Cut.f
      rw [if_pos (by omega)]
      simp only []
      rw [if_neg hi]
    rw [hc]
    unfold qnS
    rw [if_neg hi]
    simp only [Option.bind_some]
    refine Ev.congr (fun k => if_pos trivial) ?_
    generalize (Lib.indexByte s.data.toList 58).toNat = i
    refine Ev.step (f := fun k => (char_NCName.f k (s.extract 0 i)).bind fun q => if q = true then (char_NCName.f k (s.extract (i + 1) s.size)).bind fun t => if t = true then some (s.extract 0 i, s.extract (i + 1) s.size, true) else some ((⟨#[]⟩ : ByteArray), (⟨#[]⟩ : ByteArray), false) else some ((⟨#[]⟩ : ByteArray), (⟨#[]⟩ : ByteArray), false)) (fun k => ?_) ?_
    · simp only [char_QName.j0]
      rw [if_pos trivial]
    · refine Ev.bind (ncname_ev _ (extract_small s _ _ hs)) ?_
      cases ncB (s.extract 0 i) with
      | false => exact Ev.congr (fun k => if_neg (by simp)) (Ev.now _)
      | true =>
        refine Ev.congr (fun k => if_pos rfl) (Ev.bind (ncname_ev _ (extract_small s _ _ hs)) ?_)
        cases ncB (s.extract (i + 1) s.size) with
        | false => exact Ev.congr (fun k => if_neg (by simp)) (Ev.now _)
        | true => exact Ev.congr (fun k => if_pos rfl) (Ev.now _)
theorem known_some : rubriclaw1_known.f 40 = some true := by decide +kernel
theorem known_ev : Ev (fun k => rubriclaw1_known.f k) true := Ev.of rubriclaw1_known.mono known_some
theorem idx_nil (c : UInt8) : Lib.indexByte [] c = -1 := rfl
theorem idx_cons (b : UInt8) (l : List UInt8) (c : UInt8) : Lib.indexByte (b :: l) c = if b = c then 0 else if Lib.indexByte l c < 0 then -1 else Lib.indexByte l c + 1 := by
  have hr := indexByte_range l c
  show (if b == c then (0 : Int) else if Lib.indexByte l c == -1 then -1 else Lib.indexByte l c + 1) = _
  by_cases h : b = c
  · rw [if_pos h, if_pos (by simpa using h)]
  · rw [if_neg h, if_neg (by simpa using h)]
    by_cases h2 : Lib.indexByte l c < 0
    · rw [if_pos h2, if_pos (by rw [beq_iff_eq]; omega)]
    · rw [if_neg h2, if_neg (by rw [beq_iff_eq]; omega)]
theorem idx_split (l : List UInt8) (c : UInt8) : ¬ Lib.indexByte l c < 0 → l.take (Lib.indexByte l c).toNat ++ c :: l.drop ((Lib.indexByte l c).toNat + 1) = l := by
  induction l with
  | nil => intro h; rw [idx_nil] at h; omega
  | cons b l ih =>
    intro h
    rw [idx_cons] at h ⊢
    by_cases hb : b = c
    · rw [if_pos hb, hb]
      rfl
    · rw [if_neg hb] at h ⊢
      by_cases h2 : Lib.indexByte l c < 0
      · rw [if_pos h2] at h; omega
      · rw [if_neg h2]
        have e : (Lib.indexByte l c + 1).toNat = (Lib.indexByte l c).toNat + 1 := by omega
        have := ih h2
        rw [e, List.take_succ_cons, List.drop_succ_cons, List.cons_append, this]
theorem bytes_app (a b : ByteArray) : bytesOf (a ++ b) = bytesOf a ++ bytesOf b := by
  unfold bytesOf
  simp
theorem nameL_some {p : Int → Bool} {M : Option (List Int)} (h : nameL p M = true) : ∃ r t, M = some (r :: t) ∧ p r = true ∧ (r :: t).all partB = true := by
  match M, h with
  | some (r :: t), h =>
    simp only [nameL, Bool.and_eq_true] at h
    exact ⟨r, t, rfl, h.1, h.2⟩
theorem nameL_mk {p : Int → Bool} {r : Int} {t : List Int} (h1 : p r = true) (h2 : (r :: t).all partB = true) : nameL p (some (r :: t)) = true := by
  simp only [nameL]
  rw [h1, h2]
  rfl
theorem join_part (a b : List Int) (ha : Bytes a) (hb : Bytes b) (h1 : nameL startB (lets a) = true) (h2 : nameL partB (lets b) = true) : nameL startB (lets (a ++ b)) = true := by
  obtain ⟨r, t, e1, g1, g2⟩ := nameL_some h1
  obtain ⟨r', t', e2, _, g3⟩ := nameL_some h2
  rw [lets_app a.length a b _ (Nat.le_refl _) ha hb e1, e2]
  refine nameL_mk g1 ?_
  show ((r :: t) ++ (r' :: t')).all partB = true
  rw [List.all_append, g2, g3]
  rfl
theorem join_colon (a b : List Int) (ha : Bytes a) (hb : Bytes b) (h1 : nameL startB (lets a) = true) (h2 : nameL startB (lets b) = true) : nameL startB (lets (a ++ 58 :: b)) = true := by
  obtain ⟨r, t, e1, g1, g2⟩ := nameL_some h1
  obtain ⟨r', t', e2, _, g3⟩ := nameL_some h2
  rw [lets_join a b 58 _ _ (by omega) ha hb e1 e2]
  refine nameL_mk g1 ?_
  show ((r :: t) ++ 58 :: (r' :: t')).all partB = true
  rw [List.all_append, g2, List.all_cons, g3]
  rfl
theorem join_not (a b : List Int) (c : Int) (hc : 0 ≤ c ∧ c < 128) (hp : partB c = false) (ha : Bytes a) (hb : Bytes b) : nameL startB (lets (a ++ c :: b)) = false := by
  rw [Bool.eq_false_iff]
  intro h
  obtain ⟨r, t, e1, _, g2⟩ := nameL_some h
  obtain ⟨La, Lt, _, _, e⟩ := lets_split a.length a b c _ (Nat.le_refl _) hc ha hb e1
  rw [e, List.all_append, List.all_cons, hp] at g2
  simp at g2
theorem byte1 (c : UInt8) : bytesOf (⟨#[c]⟩ : ByteArray) = [(c.toNat : Int)] := rfl
theorem app_assoc (a b c : List Int) (x : Int) (h : b = [x]) : a ++ b ++ c = a ++ x :: c := by subst h; simp
theorem nc_ne (s : ByteArray) (h : ncB s = true) : s.toList ≠ [] := by
  intro e
  unfold ncB at h
  rw [Bool.and_eq_true] at h
  obtain ⟨r, t, e1, _⟩ := nameL_some h.1
  have hl := bytesOf_length s
  have e2 : bytesOf s = [] := by
    apply List.length_eq_zero_iff.1
    rw [hl, ← data_length, ← toL, e]
    rfl
  rw [e2, lets_nil] at e1
  simp at e1
theorem j1_ev (s : ByteArray) (hs : s.size < 4000) : Ev (fun k => rubriclaw1_CharJoins.j1 k s false) true := by
  have hz : s.size < 4398046511104 := by omega
  have ee : (⟨#[]⟩ : ByteArray).toList = ([] : List UInt8) := by rw [toL]
  obtain ⟨K1, h1⟩ := qname_ev s hz
  obtain ⟨K2, h2⟩ := ncname_ev s hz
  have hex := fun a b => extract_small s a b hz
  generalize hi : Lib.indexByte s.data.toList 58 = i at *
  obtain ⟨K3, h3⟩ := ncname_ev (s.extract 0 i.toNat) (hex _ _)
  obtain ⟨K4, h4⟩ := ncname_ev (s.extract (i.toNat + 1) s.size) (hex _ _)
  refine ⟨K1 + K2 + K3 + K4 + 1, fun k hk => ?_⟩
  obtain ⟨k, rfl⟩ : ∃ j, k = j + 1 := ⟨k - 1, by omega⟩
  have e1 : char_QName.f k s = some (qnS s) := h1 k (by omega)
  have e2 : char_NCName.f k s = some (ncB s) := h2 k (by omega)
  have e3 : char_NCName.f k (s.extract 0 i.toNat) = some (ncB (s.extract 0 i.toNat)) := h3 k (by omega)
  have e4 : char_NCName.f k (s.extract (i.toNat + 1) s.size) = some (ncB (s.extract (i.toNat + 1) s.size)) := h4 k (by omega)
  show rubriclaw1_CharJoins.j1 (k + 1) s false = some true
  simp only [rubriclaw1_CharJoins.j1, e1, Option.bind_some]
  rw [if_neg (by simp)]
  by_cases hn : i < 0
  · have hq : qnS s = if ncB s = true then (⟨#[]⟩, s, true) else (⟨#[]⟩, ⟨#[]⟩, false) := by
      unfold qnS
      rw [if_pos (by rw [hi]; exact hn)]
    cases hb : ncB s with
    | false =>
      rw [hb, if_neg (by simp)] at hq
      rw [hq]
      simp only [ee]
      rw [if_neg (by simp), if_pos trivial]
      rfl
    | true =>
      rw [hb, if_pos rfl] at hq
      rw [hq]
      simp only [ee, e2, hb]
      rw [if_pos trivial, if_pos trivial, if_pos trivial]
      rfl
  · have hq : qnS s = if ncB (s.extract 0 i.toNat) = true then
    (if ncB (s.extract (i.toNat + 1) s.size) = true then (s.extract 0 i.toNat, s.extract (i.toNat + 1) s.size, true) else (⟨#[]⟩, ⟨#[]⟩, false))
  else (⟨#[]⟩, ⟨#[]⟩, false) := by
      unfold qnS
      rw [hi, if_neg hn]
    have hns : ncB s = false := by
      unfold ncB
      rw [hi, decide_eq_false hn, Bool.and_false]
    have bad : qnS s = (⟨#[]⟩, ⟨#[]⟩, false) → (if (qnS s).2.2 = true then (if (qnS s).1.toList = ([] : List UInt8) then (if (qnS s).2.1.toList = s.toList then ((char_NCName.f k s).bind fun t198 => (some t198)) else (some false)) else (if (qnS s).1.size + 1 ≤ 9223372036854775807 then (if ((qnS s).1 ++ (⟨#[58]⟩ : ByteArray)).size + (qnS s).2.1.size ≤ 9223372036854775807 then (if (((qnS s).1 ++ (⟨#[58]⟩ : ByteArray)) ++ (qnS s).2.1).toList = s.toList then ((char_NCName.f k (qnS s).1).bind fun t199 => (if t199 = true then ((char_NCName.f k (qnS s).2.1).bind fun t200 => (if t200 = true then ((char_NCName.f k s).bind fun t201 => (some (!t201))) else (some false))) else (some false))) else (some false)) else (none)) else (none))) else (if (qnS s).1.toList = ([] : List UInt8) then (some (qnS s).2.1.toList.isEmpty) else (some false))) = some true := by
      intro e
      rw [e]
      simp only [ee]
      rw [if_neg (by simp), if_pos trivial]
      rfl
    cases hb : ncB (s.extract 0 i.toNat) with
    | false =>
      rw [hb, if_neg (by simp)] at hq
      exact bad hq
    | true =>
      cases hb2 : ncB (s.extract (i.toNat + 1) s.size) with
      | false =>
        rw [hb, if_pos rfl, hb2, if_neg (by simp)] at hq
        exact bad hq
      | true =>
        rw [hb, if_pos rfl, hb2, if_pos rfl] at hq
        rw [hq]
        have hne := nc_ne _ hb
        have hsz1 := hex 0 i.toNat
        have hsz2 := hex (i.toNat + 1) s.size
        have hcat : (s.extract 0 i.toNat ++ (⟨#[58]⟩ : ByteArray) ++ s.extract (i.toNat + 1) s.size) = s := by
          apply ba_ext
          have := idx_split s.data.toList 58 (by rw [hi]; exact hn)
          rw [hi] at this
          rw [extract_mkB, extract_mkB]
          have e58 : (⟨#[58]⟩ : ByteArray) = mkB [58] := rfl
          have happ : ∀ a b : List UInt8, mkB a ++ mkB b = mkB (a ++ b) := fun a b => ba_ext (by simp [mkB])
          rw [e58, happ, happ, mkB_data, List.drop_zero, Nat.sub_zero]
          rw [List.take_of_length_le (l := s.data.toList.drop (i.toNat + 1)) (by rw [List.length_drop, data_length]; exact Nat.le_refl _)]
          simpa using this
        simp only [hcat, e2, e3, e4, hb, hb2, hns, Option.bind_some]
        rw [if_pos trivial, if_neg hne, if_pos (by omega), if_pos (by rw [ByteArray.size_append]; have : (⟨#[58]⟩ : ByteArray).size = 1 := rfl; omega), if_pos trivial, if_pos trivial, if_pos trivial]
        rfl
theorem CharJoins : rubriclaw1_CharJoins.Pure := by
  intro s t hs0 ht0
  refine Ev.rounds ?_
  unfold rubriclaw1_CharJoins.f
  refine Ev.bind known_ev (Ev.congr (fun k => if_pos rfl) ?_)
  have big : Ev (fun k => rubriclaw1_CharJoins.j0 k s t true) true := Ev.step (f := fun _ => some true) (fun k => by simp only [rubriclaw1_CharJoins.j0]; rw [if_pos trivial]) (Ev.now true)
  by_cases h : (s.size : Int) > 500
  · exact Ev.congr (fun k => if_pos h) big
  refine Ev.congr (fun k => if_neg h) ?_
  by_cases h' : (t.size : Int) > 500
  · rw [decide_eq_true h']; exact big
  rw [decide_eq_false h']
  have hs : s.size < 4398046511104 := by omega
  have ht : t.size < 4398046511104 := by omega
  have z58 : (⟨#[58]⟩ : ByteArray).size = 1 := rfl
  have z32 : (⟨#[32]⟩ : ByteArray).size = 1 := rfl
  have z0 : (⟨#[0]⟩ : ByteArray).size = 1 := rfl
  have bs := bytes_of s
  have bt' := bytes_of t
  obtain ⟨K1, h1⟩ := name_ev s hs
  obtain ⟨K2, h2⟩ := token_ev t ht
  obtain ⟨K3, h3⟩ := name_ev (s ++ t) (by rw [ByteArray.size_append]; omega)
  obtain ⟨K4, h4⟩ := ncname_ev s hs
  obtain ⟨K5, h5⟩ := ncname_ev t ht
  obtain ⟨K6, h6⟩ := name_ev (s ++ (⟨#[58]⟩ : ByteArray) ++ t) (by rw [ByteArray.size_append, ByteArray.size_append]; omega)
  obtain ⟨K7, h7⟩ := name_ev (s ++ (⟨#[32]⟩ : ByteArray) ++ t) (by rw [ByteArray.size_append, ByteArray.size_append]; omega)
  obtain ⟨K8, h8⟩ := name_ev (s ++ (⟨#[0]⟩ : ByteArray)) (by rw [ByteArray.size_append]; omega)
  obtain ⟨K9, h9⟩ := j1_ev s (by omega)
  refine ⟨K1 + K2 + K3 + K4 + K5 + K6 + K7 + K8 + K9 + 1, fun k hk => ?_⟩
  obtain ⟨k, rfl⟩ : ∃ j, k = j + 1 := ⟨k - 1, by omega⟩
  have e1 : char_Name.f k s = _ := h1 k (by omega)
  have e2 : char_Token.f k t = _ := h2 k (by omega)
  have e3 : char_Name.f k (s ++ t) = _ := h3 k (by omega)
  have e4 : char_NCName.f k s = _ := h4 k (by omega)
  have e5 : char_NCName.f k t = _ := h5 k (by omega)
  have e6 : char_Name.f k (s ++ (⟨#[58]⟩ : ByteArray) ++ t) = _ := h6 k (by omega)
  have e7 : char_Name.f k (s ++ (⟨#[32]⟩ : ByteArray) ++ t) = _ := h7 k (by omega)
  have e8 : char_Name.f k (s ++ (⟨#[0]⟩ : ByteArray)) = _ := h8 k (by omega)
  have e9 : rubriclaw1_CharJoins.j1 k s false = some true := h9 k (by omega)
  have f7 : nameL startB (lets (bytesOf (s ++ (⟨#[32]⟩ : ByteArray) ++ t))) = false := by
    rw [bytes_app, bytes_app, app_assoc _ _ _ 32 (byte1 32)]
    exact join_not _ _ 32 (by omega) (by decide) bs bt'
  have f8 : nameL startB (lets (bytesOf (s ++ (⟨#[0]⟩ : ByteArray)))) = false := by
    rw [bytes_app]
    exact join_not _ [] 0 (by omega) (by decide) bs (fun x hx => by simp at hx)
  have f3 : nameL startB (lets (bytesOf s)) = true → nameL partB (lets (bytesOf t)) = true → nameL startB (lets (bytesOf (s ++ t))) = true := by
    intro a b
    rw [bytes_app]
    exact join_part _ _ bs bt' a b
  have f6 : ncB s = true → ncB t = true → nameL startB (lets (bytesOf (s ++ (⟨#[58]⟩ : ByteArray) ++ t))) = true := by
    intro a b
    unfold ncB at a b
    rw [Bool.and_eq_true] at a b
    rw [bytes_app, bytes_app, app_assoc _ _ _ 58 (byte1 58)]
    exact join_colon _ _ bs bt' a.1 b.1
  rw [f7] at e7
  rw [f8] at e8
  have g1 : s.size + t.size ≤ 9223372036854775807 := by omega
  have g2 : s.size + 1 ≤ 9223372036854775807 := by omega
  have g3 : (s ++ (⟨#[58]⟩ : ByteArray)).size + t.size ≤ 9223372036854775807 := by rw [ByteArray.size_append]; omega
  have g4 : (s ++ (⟨#[32]⟩ : ByteArray)).size + t.size ≤ 9223372036854775807 := by rw [ByteArray.size_append]; omega
  generalize nameL startB (lets (bytesOf s)) = A at *
  generalize nameL partB (lets (bytesOf t)) = B at *
  generalize nameL startB (lets (bytesOf (s ++ t))) = AB at *
  generalize ncB s = C at *
  generalize ncB t = D at *
  generalize nameL startB (lets (bytesOf (s ++ (⟨#[58]⟩ : ByteArray) ++ t))) = CD at *
  clear h1 h2 h3 h4 h5 h6 h7 h8 h9
  show rubriclaw1_CharJoins.j0 (k + 1) s t false = some true
  simp only [rubriclaw1_CharJoins.j0, e1, e2, e3, e4, e5, e6, e7, e8, e9, Option.bind_some, if_pos g1, if_pos g2, if_pos g3, if_pos g4, Bool.false_eq_true, if_false]
  cases A <;> cases B <;> cases AB <;> cases C <;> cases D <;> cases CD <;> first | rfl | (exfalso; have := f3 rfl rfl; contradiction) | (exfalso; have := f6 rfl rfl; contradiction)
end Go.Proofs.Ytjogllgkdnomiaa.Pure
