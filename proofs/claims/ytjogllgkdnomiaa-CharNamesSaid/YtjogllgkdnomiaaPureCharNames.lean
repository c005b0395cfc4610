/- What is proved: for every text the law CharNames of layer 1 answers true: names, their parts and blanks are the reference's. Conditions: none beyond the row's own. -/
import Derived.Test.YtjogllgkdnomiaaPCharNamesx9
set_option linter.unusedVariables false
set_option linter.unusedSimpArgs false
namespace Go.Proofs.Ytjogllgkdnomiaa.Pure
open Go.RowKit Go.Proofs.Ytjogllgkdnomiaa.PCharNames Go.Proofs.YtjogllgkdnomiaaW.PrintWords Go.Proofs.YtjogllgkdnomiaaW.PrintLast Go.Proofs.YtjogllgkdnomiaaW.PrintMore
/-! ### bytes, letters, classes: plain -/
def Bytes (l : List Int) : Prop := ∀ x ∈ l, 0 ≤ x ∧ x < 256
theorem Bytes.tail {c : Int} {l : List Int} (h : Bytes (c :: l)) : Bytes l := fun x hx => h x (List.mem_cons_of_mem _ hx)
theorem Bytes.head {c : Int} {l : List Int} (h : Bytes (c :: l)) : 0 ≤ c ∧ c < 256 := h c List.mem_cons_self
theorem Bytes.drop {l : List Int} (h : Bytes l) (n : Nat) : Bytes (l.drop n) := fun x hx => h x (List.mem_of_mem_drop hx)
theorem Bytes.take {l : List Int} (h : Bytes l) (n : Nat) : Bytes (l.take n) := fun x hx => h x (List.mem_of_mem_take hx)
theorem Bytes.append {l m : List Int} (h : Bytes l) (h' : Bytes m) : Bytes (l ++ m) := fun x hx => (List.mem_append.1 hx).elim (h x) (h' x)
theorem bytes_of (s : ByteArray) : Bytes (bytesOf s) := by
  intro x hx
  obtain ⟨b, _, rfl⟩ := List.mem_map.1 hx
  have := b.toNat_lt
  omega
theorem bytes_wf {l : List Int} (h : ∀ x ∈ l, (Lit.int .u8 x).wf = true) : Bytes l := by
  intro x hx
  have h1 := h x hx
  have hmin : IntKind.u8.min = 0 := rfl
  have hmax : IntKind.u8.max = 255 := rfl
  simp only [Lit.wf, Bool.and_eq_true, decide_eq_true_eq] at h1
  omega
theorem decode_eq {l : List Int} (h : Bytes l) : char_Decode.f l = some (decS l) := by
  unfold char_Decode.f
  rw [if_pos]
  rw [List.all_eq_true]
  intro x hx
  have := h.take 4 x hx
  unfold isByte
  simp; omega
theorem decS_ok {l : List Int} (h : Bytes l) : decS l = (-1, 0) ∨ (1 ≤ (decS l).2 ∧ (decS l).2 ≤ l.length ∧ (decS l).2 ≤ 4 ∧ 0 ≤ (decS l).1 ∧ (decS l).1 ≤ 1114111) := by
  match l, h with
  | [], h => exact .inl rfl
  | c :: t, h =>
    have hc := h.head
    have ht := h.tail
    simp only [decS]
    split
    · exact .inr ⟨by simp, by simp only [List.length_cons]; omega, by simp, hc.1, by simp only []; omega⟩
    · split
      · match t, ht with
        | [], _ => exact .inl rfl
        | a :: t1, ht =>
          have ha := ht.head
          simp only []
          repeat' split
          all_goals first | exact .inl rfl | (refine .inr ⟨by simp, by simp only [List.length_cons]; omega, by simp, ?_, ?_⟩ <;> (simp only []; omega))
      · split
        · match t, ht with
          | [], _ => exact .inl rfl
          | [a], _ => exact .inl rfl
          | a :: b :: t1, ht =>
            have ha := ht.head
            have hb := ht.tail.head
            simp only []
            repeat' split
            all_goals first | exact .inl rfl | (refine .inr ⟨by simp, by simp only [List.length_cons]; omega, by simp, ?_, ?_⟩ <;> (simp only []; omega))
        · split
          · match t, ht with
            | [], _ => exact .inl rfl
            | [a], _ => exact .inl rfl
            | [a, b], _ => exact .inl rfl
            | a :: b :: d :: t1, ht =>
              have ha := ht.head
              have hb := ht.tail.head
              have hd := ht.tail.tail.head
              simp only []
              repeat' split
              all_goals first | exact .inl rfl | (refine .inr ⟨by simp, by simp only [List.length_cons]; omega, by simp, ?_, ?_⟩ <;> (simp only []; omega))
          · exact .inl rfl
def charB (r : Int) : Bool := decide (r = 9 ∨ r = 10 ∨ r = 13 ∨ (32 ≤ r ∧ r ≤ 55295) ∨ (57344 ≤ r ∧ r ≤ 65533) ∨ (65536 ≤ r ∧ r ≤ 1114111))
theorem char_eq (r : Int) : char_Char.f r = some (charB r) := by
  unfold char_Char.f charB
  repeat' split
  all_goals (congr 1; rw [Bool.eq_iff_iff]; first | (simp; done) | (simp; omega))
theorem w64 {x : Int} (h0 : 0 ≤ x) (h1 : x < 4611686018427387904) : wrap64 x = x := by unfold wrap64; omega
theorem w64' {x : Int} (h0 : -4611686018427387904 < x) (h1 : x < 4611686018427387904) : wrap64 x = x := by unfold wrap64; omega
/-! ### classes -/
def startB (r : Int) : Bool := decide ((65 ≤ r ∧ r ≤ 90) ∨ (97 ≤ r ∧ r ≤ 122) ∨ r = 95 ∨ r = 58 ∨ (192 ≤ r ∧ r ≠ 215 ∧ r ≠ 247 ∧ charB r = true))
def partB (r : Int) : Bool := decide (startB r = true ∨ (48 ≤ r ∧ r ≤ 57) ∨ r = 45 ∨ r = 46 ∨ r = 183)
theorem start_eq (k : Nat) (r : Int) : char_Start.f (k + 2) r = some (startB r) := by
  unfold char_Start.f startB
  simp only [char_Start.j0, char_Start.j1, char_eq, Option.bind_some, decide_eq_true_eq]
  cases hc : charB r
  all_goals
    repeat' split
    all_goals first | contradiction | rfl | (congr 1; rw [Bool.eq_iff_iff]; simp only [decide_eq_true_eq, beq_iff_eq, reduceCtorEq, true_iff, false_iff, and_true, and_false, or_false, false_or, true_or, or_true, not_true, not_false_iff, ne_eq]; omega) | (congr 1; rw [Bool.eq_iff_iff]; simp only [decide_eq_true_eq, beq_iff_eq, reduceCtorEq, true_iff, false_iff, and_true, and_false, or_false, false_or, true_or, or_true, not_true, not_false_iff, ne_eq]; done) | (congr 1; rw [Bool.eq_iff_iff]; omega) | (congr 1; simp; done)
theorem start_ev (r : Int) : Ev (fun k => char_Start.f k r) (startB r) := ⟨2, fun k hk => by obtain ⟨j, rfl⟩ : ∃ j, k = j + 2 := ⟨k - 2, by omega⟩; exact start_eq j r⟩
theorem part_eq (k : Nat) (r : Int) : char_Part.f (k + 2) r = some (partB r) := by
  unfold char_Part.f partB
  rw [start_eq]
  simp only [Option.bind_some]
  cases hc : startB r
  all_goals
    repeat' split
    all_goals first | contradiction | rfl | (congr 1; rw [Bool.eq_iff_iff]; simp only [decide_eq_true_eq, beq_iff_eq, reduceCtorEq, true_iff, false_iff, and_true, and_false, or_false, false_or, true_or, or_true, not_true, not_false_iff, ne_eq]; omega) | (congr 1; rw [Bool.eq_iff_iff]; simp only [decide_eq_true_eq, beq_iff_eq, reduceCtorEq, true_iff, false_iff, and_true, and_false, or_false, false_or, true_or, or_true, not_true, not_false_iff, ne_eq]; done) | (congr 1; rw [Bool.eq_iff_iff]; omega) | (congr 1; simp; done)
theorem part_ev (r : Int) : Ev (fun k => char_Part.f k r) (partB r) := ⟨2, fun k hk => by obtain ⟨j, rfl⟩ : ∃ j, k = j + 2 := ⟨k - 2, by omega⟩; exact part_eq j r⟩
/-! ### words and blanks -/
def isW (b : UInt8) : Bool := b == 32 || b == 9 || b == 10 || b == 13
def mkB (l : List UInt8) : ByteArray := ⟨l.toArray⟩
def wordsS : List UInt8 → List UInt8 → List (List UInt8)
  | [], w => if w = [] then [] else [w]
  | b :: t, w => if isW b then (if w = [] then wordsS t [] else w :: wordsS t []) else wordsS t (w ++ [b])
theorem isW_int (b : UInt8) : decide ((b.toNat : Int) = 32 ∨ (b.toNat : Int) = 9 ∨ (b.toNat : Int) = 10 ∨ (b.toNat : Int) = 13) = isW b := by
  have key : ∀ n : Fin 256, decide (((UInt8.ofNat n.val).toNat : Int) = 32 ∨ ((UInt8.ofNat n.val).toNat : Int) = 9 ∨ ((UInt8.ofNat n.val).toNat : Int) = 10 ∨ ((UInt8.ofNat n.val).toNat : Int) = 13) = isW (UInt8.ofNat n.val) := by decide +kernel
  have := key ⟨b.toNat, b.toNat_lt⟩
  simpa using this
theorem ba_ext {a b : ByteArray} (h : a.data.toList = b.data.toList) : a = b := by
  obtain ⟨⟨la⟩⟩ := a
  obtain ⟨⟨lb⟩⟩ := b
  simp only at h
  rw [h]
theorem mkB_data (l : List UInt8) : (mkB l).data.toList = l := rfl
theorem mkB_eta (s : ByteArray) : mkB s.data.toList = s := by obtain ⟨⟨l⟩⟩ := s; rfl
theorem mkB_inj {a b : List UInt8} (h : mkB a = mkB b) : a = b := by
  have := congrArg (fun s => s.data.toList) h
  exact this
theorem extract_mkB (s : ByteArray) (a b : Nat) : s.extract a b = mkB ((s.data.toList.drop a).take (b - a)) := ba_ext (Lib.extract_data s a b)
theorem mkB_size (l : List UInt8) : (mkB l).size = l.length := by rw [← data_length]; rfl
theorem drop_byte (s : ByteArray) (i : Nat) (hi : i < s.size) : ∃ b : UInt8, s.data.toList.drop i = b :: s.data.toList.drop (i + 1) ∧ bt s i = (b.toNat : Int) := by
  have hl : i < s.data.toList.length := by rw [data_length]; exact hi
  refine ⟨s.data.toList[i], List.drop_eq_getElem_cons hl, ?_⟩
  unfold bt
  rw [dif_pos (by simpa using hi)]
  rfl
theorem take_grow (l : List UInt8) (a i : Nat) (b : UInt8) (hai : a ≤ i) (hd : l.drop i = b :: l.drop (i + 1)) : (l.drop a).take (i + 1 - a) = (l.drop a).take (i - a) ++ [b] := by
  have h1 : (l.drop a).drop (i - a) = b :: l.drop (i + 1) := by rw [List.drop_drop, show a + (i - a) = i by omega, hd]
  have h2 : i - a < (l.drop a).length := by
    have := congrArg List.length h1
    rw [List.length_drop, List.length_cons] at this
    omega
  rw [show i + 1 - a = (i - a) + 1 by omega, List.take_succ_eq_append_getElem h2]
  rw [List.drop_eq_getElem_cons h2] at h1
  rw [(List.cons.inj h1).1]
theorem white_byte (b : UInt8) : char_White.f (wrap32 (b.toNat : Int)) = some (isW b) := by
  have := b.toNat_lt
  rw [white_some (b.toNat : Int) (by omega) (by omega)]
  congr 1
  exact isW_int b
theorem extract_mkB' (s : ByteArray) (a : Nat) : s.extract a s.size = mkB ((s.data.toList.drop a).take (s.size - a)) := extract_mkB s a s.size
theorem words_go (s : ByteArray) (hs : s.size < 8796093022208) (n : Nat) : ∀ (i a : Nat) (out : List ByteArray), a ≤ i → i ≤ s.size → s.size - i ≤ n → out.length ≤ a →
    Ev (fun k => char_Words.l0 k s out a i) (out ++ (wordsS (s.data.toList.drop i) ((s.data.toList.drop a).take (i - a))).map mkB) := by
  induction n with
  | zero =>
    intro i a out hai hi hn ho
    obtain rfl : i = s.size := by omega
    have hd : s.data.toList.drop s.size = [] := List.drop_eq_nil_of_le (by rw [data_length]; exact Nat.le_refl _)
    rw [hd]
    simp only [wordsS]
    have hfin : ∀ o : List ByteArray, ∀ z : Int, Ev (fun k => char_Words.l0 k s o z ((s.size + 1 : Nat) : Int)) o := fun o z =>
      Ev.step (f := fun _ => some o) (fun k => by simp only [char_Words.l0]; rw [if_neg (by omega)]) (Ev.now o)
    refine Ev.step (f := fun k => char_Words.j1 k s out a s.size false) (fun k => ?_) ?_
    · simp only [char_Words.l0]
      rw [if_pos (by omega), if_neg (by omega)]
    · by_cases h : a < s.size
      · have hne : (s.data.toList.drop a).take (s.size - a) ≠ [] := by
          intro e
          have := congrArg List.length e
          rw [List.length_take, List.length_drop, data_length, List.length_nil] at this
          omega
        rw [if_neg hne, List.map_cons, List.map_nil, ← extract_mkB' s a]
        refine Ev.step (fun k => ?_) (hfin (out ++ [s.extract a s.size]) ((s.size + 1 : Nat) : Int))
        simp only [char_Words.j1]
        rw [if_neg (by simp), if_pos (by omega), if_pos (by omega), if_pos (by omega), if_pos (by omega), if_pos (by omega), w64 (by omega) (by omega)]
        rfl
      · have he : (s.data.toList.drop a).take (s.size - a) = [] := by
          rw [show s.size - a = 0 by omega]; rfl
        rw [if_pos he]
        simp only [List.map_nil, List.append_nil]
        refine Ev.step (fun k => ?_) (hfin out ((s.size + 1 : Nat) : Int))
        simp only [char_Words.j1]
        rw [if_neg (by simp), if_neg (by omega), w64 (by omega) (by omega)]
        rfl
  | succ n ih =>
    intro i a out hai hi hn ho
    by_cases hlt : i < s.size
    · obtain ⟨b, hd, hbt⟩ := drop_byte s i hlt
      rw [hd]
      simp only [wordsS]
      refine Ev.step (f := fun k => char_Words.j1 k s out a i (!isW b)) (fun k => ?_) ?_
      · simp only [char_Words.l0]
        rw [if_pos (by omega), if_pos (by omega), if_pos (by omega), hbt, white_byte]
        rfl
      · cases hw : isW b with
        | false =>
          rw [if_neg (by simp)]
          have := ih (i + 1) a out (by omega) (by omega) (by omega) ho
          rw [take_grow _ a i b hai hd] at this
          refine Ev.step (fun k => ?_) this
          simp only [char_Words.j1]
          rw [if_pos (by simp), w64 (by omega) (by omega)]
          rfl
        | true =>
          rw [if_pos rfl]
          by_cases h : a < i
          · have hne : (s.data.toList.drop a).take (i - a) ≠ [] := by
              intro e
              have := congrArg List.length e
              rw [List.length_take, List.length_drop, data_length, List.length_nil] at this
              omega
            rw [if_neg hne]
            have := ih (i + 1) (i + 1) (out ++ [s.extract a i]) (by omega) (by omega) (by omega) (by rw [List.length_append]; simp; omega)
            rw [Nat.sub_self, List.take_zero, List.append_assoc] at this
            rw [List.map_cons, ← extract_mkB]
            refine Ev.step (fun k => ?_) this
            simp only [char_Words.j1]
            rw [if_neg (by simp), if_pos (by omega), if_pos (by omega), if_pos (by omega), if_pos (by omega), if_pos (by omega), w64 (by omega) (by omega)]
            rfl
          · have he : (s.data.toList.drop a).take (i - a) = [] := by
              rw [show i - a = 0 by omega]; rfl
            rw [if_pos he]
            have := ih (i + 1) (i + 1) out (by omega) (by omega) (by omega) (by omega)
            rw [Nat.sub_self, List.take_zero] at this
            refine Ev.step (fun k => ?_) this
            simp only [char_Words.j1]
            rw [if_neg (by simp), if_neg (by omega), w64 (by omega) (by omega)]
            rfl
    · obtain rfl : i = s.size := by omega
      exact ih s.size a out hai hi (by omega) ho
def wordsB (s : ByteArray) : List (List UInt8) := wordsS s.data.toList []
theorem words_eq (s : ByteArray) (hs : s.size < 8796093022208) : Ev (fun k => char_Words.f k s) ((wordsB s).map mkB) := by
  have := words_go s hs s.size 0 0 [] (by omega) (by omega) (by omega) (by simp)
  simp only [List.drop_zero, Nat.sub_self, List.take_zero, List.nil_append, Int.natCast_zero] at this
  exact this
/-! ### the laws of words -/
def NoW (x : List UInt8) : Prop := ∀ b ∈ x, isW b = false
theorem wordsS_app (x : List UInt8) (hx : NoW x) (t : List UInt8) : ∀ w, wordsS (x ++ t) w = wordsS t (w ++ x) := by
  induction x with
  | nil => intro w; simp
  | cons b x ih =>
    intro w
    rw [List.cons_append]
    simp only [wordsS]
    rw [hx b List.mem_cons_self, if_neg (by simp), ih (fun c hc => hx c (List.mem_cons_of_mem _ hc)), List.append_assoc]
    rfl
theorem wordsS_good (B : List UInt8) : ∀ w, NoW w → ∀ x ∈ wordsS B w, x ≠ [] ∧ NoW x := by
  induction B with
  | nil =>
    intro w hw x hx
    simp only [wordsS] at hx
    split at hx
    · simp at hx
    · rename_i h
      obtain rfl : x = w := by simpa using hx
      exact ⟨h, hw⟩
  | cons b t ih =>
    intro w hw x hx
    simp only [wordsS] at hx
    split at hx
    · split at hx
      · exact ih [] (fun _ h => by simp at h) x hx
      · rename_i h
        rcases List.mem_cons.1 hx with rfl | hx
        · exact ⟨h, hw⟩
        · exact ih [] (fun _ h => by simp at h) x hx
    · rename_i h
      refine ih (w ++ [b]) (fun c hc => ?_) x hx
      rcases List.mem_append.1 hc with hc | hc
      · exact hw c hc
      · obtain rfl : c = b := by simpa using hc
        simpa using h
theorem join_cons2 (x y : List UInt8) (r : List (List UInt8)) : Lib.join (x :: y :: r) [32] = x ++ (32 :: Lib.join (y :: r) [32]) := by
  unfold Lib.join
  simp [List.intercalate]
theorem wordsS_join (ws : List (List UInt8)) (h : ∀ x ∈ ws, x ≠ [] ∧ NoW x) : wordsS (Lib.join ws [32]) [] = ws := by
  induction ws with
  | nil => rfl
  | cons x r ih =>
    have hx := h x List.mem_cons_self
    cases r with
    | nil =>
      rw [Lib.join_one]
      have := wordsS_app x hx.2 [] []
      rw [List.append_nil, List.nil_append] at this
      rw [this]
      simp only [wordsS]
      rw [if_neg hx.1]
    | cons y r =>
      rw [join_cons2, wordsS_app x hx.2, List.nil_append]
      simp only [wordsS]
      rw [if_pos (by decide), if_neg hx.1, ih (fun z hz => h z (List.mem_cons_of_mem _ hz))]
theorem join_len_cons (x : List UInt8) (r : List (List UInt8)) : (Lib.join (x :: r) [32]).length ≤ x.length + 1 + (Lib.join r [32]).length := by
  cases r with
  | nil => rw [Lib.join_one]; omega
  | cons y r => rw [join_cons2, List.length_append, List.length_cons]; omega
theorem wordsS_len (B : List UInt8) : ∀ w, (Lib.join (wordsS B w) [32]).length ≤ B.length + w.length := by
  induction B with
  | nil =>
    intro w
    simp only [wordsS]
    split
    · simp [Lib.join_nil]
    · rw [Lib.join_one]; simp
  | cons b t ih =>
    intro w
    simp only [wordsS]
    split
    · split
      · rename_i h
        have := ih []
        simp only [List.length_nil, List.length_cons] at this ⊢
        omega
      · have h1 := join_len_cons w (wordsS t [])
        have := ih []
        simp only [List.length_nil, List.length_cons] at this ⊢
        omega
    · have := ih (w ++ [b])
      rw [List.length_append] at this
      simp only [List.length_cons, List.length_nil] at this ⊢
      omega
theorem wordsS_many (B : List UInt8) : ∀ w, (wordsS B w).length ≤ B.length + 1 := by
  induction B with
  | nil => intro w; simp only [wordsS]; split <;> simp
  | cons b t ih =>
    intro w
    simp only [wordsS]
    have h1 := ih []
    have h2 := ih (w ++ [b])
    split
    · split
      · simp only [List.length_cons]; omega
      · simp only [List.length_cons]; omega
    · simp only [List.length_cons]; omega
/-- What is put by Replace. -/
def repU (b : UInt8) : UInt8 := if isW b then 32 else b
theorem wordsS_rep (B : List UInt8) : ∀ w, wordsS (B.map repU) w = wordsS B w := by
  induction B with
  | nil => intro w; rfl
  | cons b t ih =>
    intro w
    rw [List.map_cons]
    simp only [wordsS]
    cases h : isW b with
    | true =>
      have e : repU b = 32 := by unfold repU; rw [if_pos h]
      rw [e, if_pos (by decide), if_pos rfl, ih]
    | false =>
      have e : repU b = b := by unfold repU; rw [if_neg (by rw [h]; simp)]
      rw [e, h, if_neg (by simp), if_neg (by simp), ih]
theorem rep_str (s : ByteArray) : strOfNums (repS (bytesOf s)) = mkB (s.data.toList.map repU) := by
  refine ba_ext ?_
  rw [strOfNums_data, mkB_data]
  unfold repS bytesOf
  rw [List.map_map, List.map_map]
  refine List.map_congr_left fun b _ => ?_
  have h := isW_int b
  simp only [Function.comp]
  unfold repU
  by_cases hw : isW b = true
  · rw [if_pos (by rw [hw] at h; simpa using h), if_pos hw]; rfl
  · rw [if_neg (by simp only [Bool.not_eq_true] at hw; rw [hw] at h; simpa using h), if_neg hw]
    simp
def colS (s : ByteArray) : ByteArray := mkB (Lib.join (wordsB s) [32])
theorem map_mkB (l : List (List UInt8)) : (l.map mkB).map (fun x => x.data.toList) = l := by
  rw [List.map_map]
  exact (List.map_congr_left fun x _ => rfl).trans (List.map_id l)
theorem space3 (s : ByteArray) (hs : s.size < 4398046511104) : Ev (fun k => char_Space.f k s 3) (colS s) := by
  unfold char_Space.f
  have hw := words_eq s (by omega)
  refine Ev.congr (fun k => by rw [if_neg (by omega), if_pos rfl]) (Ev.bind hw ?_)
  have h1 := wordsS_many s.data.toList []
  have h2 := wordsS_len s.data.toList []
  rw [data_length] at h1 h2
  have hm := map_mkB (wordsB s)
  refine Ev.congr (fun k => ?_) (Ev.now (colS s))
  rw [if_pos (by rw [List.length_map]; unfold wordsB; omega)]
  rw [hm, if_pos (by unfold wordsB; simp only [List.length_nil] at h2; omega)]
  rfl
theorem space2 (s : ByteArray) (hs : s.size < 4398046511104) (k : Nat) : char_Space.f k s 2 = some (mkB (s.data.toList.map repU)) := by
  unfold char_Space.f
  rw [if_pos rfl, if_pos (by omega), rep_str]
theorem spaceK (s : ByteArray) (how : Int) (h2 : how ≠ 2) (h3 : how ≠ 3) (k : Nat) : char_Space.f k s how = some s := by
  unfold char_Space.f
  rw [if_neg h2, if_neg h3]
theorem colS_size (s : ByteArray) : (colS s).size ≤ s.size := by
  unfold colS wordsB
  rw [mkB_size]
  have h2 := wordsS_len s.data.toList []
  rw [data_length] at h2
  simpa using h2
theorem words_col (s : ByteArray) : wordsB (colS s) = wordsB s := by
  unfold colS
  show wordsS (mkB _).data.toList [] = _
  rw [mkB_data]
  exact wordsS_join _ (wordsS_good _ _ (fun _ h => by simp at h))
theorem words_rep (s : ByteArray) : wordsB (mkB (s.data.toList.map repU)) = wordsB s := by
  show wordsS (mkB _).data.toList [] = _
  rw [mkB_data]
  exact wordsS_rep _ _
theorem texts_go (l : List ByteArray) (hl : l.length < 4611686018427387904) (n : Nat) : ∀ i : Nat, i ≤ l.length → l.length - i ≤ n → Ev (fun k => rubriclaw1_texts.l0 k l l i) true := by
  induction n with
  | zero =>
    intro i hi hn
    refine Ev.step (f := fun _ => some true) (fun k => ?_) (Ev.now true)
    simp only [rubriclaw1_texts.l0]
    rw [if_neg (by omega)]
  | succ n ih =>
    intro i hi hn
    by_cases hlt : i < l.length
    · refine Ev.step (fun k => ?_) (ih (i + 1) (by omega) (by omega))
      simp only [rubriclaw1_texts.l0]
      rw [if_pos (by omega), if_pos (by omega), if_pos (by omega), if_pos trivial, w64 (by omega) (by omega)]
      rfl
    · refine Ev.step (f := fun _ => some true) (fun k => ?_) (Ev.now true)
      simp only [rubriclaw1_texts.l0]
      rw [if_neg (by omega)]
theorem texts_same (l : List ByteArray) (hl : l.length < 4611686018427387904) : Ev (fun k => rubriclaw1_texts.f k l l) true := by
  unfold rubriclaw1_texts.f
  refine Ev.congr (fun k => by rw [if_pos rfl]; rfl) (texts_go l hl l.length 0 (by omega) (by omega))
/-! ### a text's letters -/
def letsN : Nat → List Int → Option (List Int)
  | 0, l => if l = [] then some [] else none
  | n + 1, l => if l = [] then some [] else if (decS l).2 = 0 then none else (letsN n (l.drop (decS l).2.toNat)).map ((decS l).1 :: ·)
def lets (l : List Int) : Option (List Int) := letsN l.length l
theorem letsN_fuel (n : Nat) : ∀ (m : Nat) (l : List Int), Bytes l → l.length ≤ n → l.length ≤ m → letsN n l = letsN m l := by
  induction n with
  | zero =>
    intro m l _ hn _
    obtain rfl : l = [] := List.length_eq_zero_iff.1 (by omega)
    cases m <;> simp [letsN]
  | succ n ih =>
    intro m l hb hn hm
    by_cases he : l = []
    · subst he
      cases m <;> simp [letsN]
    · have hp := List.length_pos_iff.2 he
      obtain ⟨m, rfl⟩ : ∃ j, m = j + 1 := ⟨m - 1, by omega⟩
      simp only [letsN]
      rw [if_neg he, if_neg he]
      by_cases h0 : (decS l).2 = 0
      · rw [if_pos h0, if_pos h0]
      · rw [if_neg h0, if_neg h0]
        rcases decS_ok hb with e | ⟨a, b, c, _⟩
        · rw [e] at h0; exact absurd rfl h0
        · rw [ih m _ (hb.drop _) (by rw [List.length_drop]; omega) (by rw [List.length_drop]; omega)]
theorem lets_nil : lets [] = some [] := rfl
theorem lets_bad {l : List Int} (he : l ≠ []) (h0 : (decS l).2 = 0) : lets l = none := by
  have hp := List.length_pos_iff.2 he
  unfold lets
  obtain ⟨n, hn⟩ : ∃ n, l.length = n + 1 := ⟨l.length - 1, by omega⟩
  rw [hn]
  simp only [letsN]
  rw [if_neg he, if_pos h0]
theorem lets_step {l : List Int} (hb : Bytes l) (h0 : (decS l).2 ≠ 0) : lets l = (lets (l.drop (decS l).2.toNat)).map ((decS l).1 :: ·) := by
  have he : l ≠ [] := by
    intro e
    subst e
    exact h0 rfl
  have hp := List.length_pos_iff.2 he
  unfold lets
  obtain ⟨n, hn⟩ : ∃ n, l.length = n + 1 := ⟨l.length - 1, by omega⟩
  rw [hn]
  simp only [letsN]
  rw [if_neg he, if_neg h0]
  rcases decS_ok hb with e | ⟨a, b, c, _⟩
  · rw [e] at h0; exact absurd rfl h0
  · rw [letsN_fuel n (l.drop (decS l).2.toNat).length _ (hb.drop _) (by rw [List.length_drop]; omega) (Nat.le_refl _)]
/-- What is a letter stays one, whatever stands behind it. -/
theorem decS_app (l t : List Int) (h : (decS l).2 ≠ 0) : decS (l ++ t) = decS l := by
  match l, h with
  | [], h => exact absurd rfl h
  | [c], h =>
    simp only [List.cons_append, List.nil_append, decS] at h ⊢
    by_cases g1 : c < 128
    · rw [if_pos g1, if_pos g1]
    · rw [if_neg g1] at h ⊢
      rw [if_neg g1]
      exfalso
      revert h
      repeat' split
      all_goals simp
  | [c, a], h =>
    simp only [List.cons_append, List.nil_append, decS] at h ⊢
    by_cases g1 : c < 128
    · rw [if_pos g1, if_pos g1]
    · rw [if_neg g1] at h ⊢
      rw [if_neg g1]
      by_cases g2 : c / 32 = 6
      · rw [if_pos g2, if_pos g2]
      · rw [if_neg g2] at h ⊢
        exfalso
        revert h
        try rw [if_neg g2]
        repeat' split
        all_goals simp
  | [c, a, b], h =>
    simp only [List.cons_append, List.nil_append, decS] at h ⊢
    by_cases g1 : c < 128
    · rw [if_pos g1, if_pos g1]
    · rw [if_neg g1] at h ⊢
      rw [if_neg g1]
      by_cases g2 : c / 32 = 6
      · rw [if_pos g2, if_pos g2]
      · rw [if_neg g2] at h ⊢
        rw [if_neg g2]
        by_cases g3 : c / 16 = 14
        · rw [if_pos g3, if_pos g3]
        · rw [if_neg g3] at h ⊢
          exfalso
          revert h
          try rw [if_neg g3]
          repeat' split
          all_goals simp
  | c :: a :: b :: d :: r, h =>
    simp only [List.cons_append, decS]
/-- A small byte ends every letter: it is none's part. -/
theorem decS_front (l t : List Int) (c : Int) (hc : 0 ≤ c ∧ c < 128) (hl : l ≠ []) (h : (decS (l ++ c :: t)).2 ≠ 0) : (decS l).2 ≠ 0 := by
  have h2 : ¬ c / 64 = 2 := by omega
  match l, hl, h with
  | [x], _, h =>
    simp only [List.cons_append, List.nil_append, decS] at h ⊢
    by_cases g1 : x < 128
    · rw [if_pos g1]; simp
    · exfalso
      revert h
      rw [if_neg g1]
      by_cases g2 : x / 32 = 6
      · rw [if_pos g2, if_neg h2]; simp
      rw [if_neg g2]
      by_cases g3 : x / 16 = 14
      · rw [if_pos g3]
        cases t with
        | nil => simp
        | cons y t => simp only []; rw [if_neg h2]; simp
      rw [if_neg g3]
      by_cases g4 : x / 8 = 30
      · rw [if_pos g4]
        match t with
        | [] => simp
        | [y] => simp
        | y :: z :: t => simp only []; rw [if_neg h2]; simp
      rw [if_neg g4]
      simp
  | [x, a], _, h =>
    simp only [List.cons_append, List.nil_append, decS] at h ⊢
    by_cases g1 : x < 128
    · rw [if_pos g1]; simp
    rw [if_neg g1] at h ⊢
    by_cases g2 : x / 32 = 6
    · rw [if_pos g2] at h ⊢; exact h
    rw [if_neg g2] at h ⊢
    exfalso
    revert h
    by_cases g3 : x / 16 = 14
    · rw [if_pos g3, if_neg h2]
      by_cases e1 : a / 64 = 2
      · rw [if_pos e1]; simp
      · rw [if_neg e1]; simp
    rw [if_neg g3]
    by_cases g4 : x / 8 = 30
    · rw [if_pos g4]
      cases t with
      | nil => simp
      | cons y t =>
        simp only []
        rw [if_neg h2]
        by_cases e1 : a / 64 = 2
        · rw [if_pos e1]; simp
        · rw [if_neg e1]; simp
    rw [if_neg g4]
    simp
  | [x, a, b], _, h =>
    simp only [List.cons_append, List.nil_append, decS] at h ⊢
    by_cases g1 : x < 128
    · rw [if_pos g1]; simp
    rw [if_neg g1] at h ⊢
    by_cases g2 : x / 32 = 6
    · rw [if_pos g2] at h ⊢; exact h
    rw [if_neg g2] at h ⊢
    by_cases g3 : x / 16 = 14
    · rw [if_pos g3] at h ⊢; exact h
    rw [if_neg g3] at h ⊢
    exfalso
    revert h
    by_cases g4 : x / 8 = 30
    · rw [if_pos g4, if_neg h2]
      by_cases e1 : a / 64 = 2
      · rw [if_pos e1]
        by_cases e2 : b / 64 = 2
        · rw [if_pos e2]; simp
        · rw [if_neg e2]; simp
      · rw [if_neg e1]; simp
    rw [if_neg g4]
    simp
  | x :: a :: b :: d :: r, _, h =>
    simp only [List.cons_append, decS] at h ⊢
    exact h
theorem lets_app (n : Nat) : ∀ (a b La : List Int), a.length ≤ n → Bytes a → Bytes b → lets a = some La → lets (a ++ b) = (lets b).map (La ++ ·) := by
  induction n with
  | zero =>
    intro a b La hn _ _ h
    obtain rfl : a = [] := List.length_eq_zero_iff.1 (by omega)
    rw [lets_nil] at h
    obtain rfl := Option.some.inj h
    simp
  | succ n ih =>
    intro a b La hn ha hb h
    by_cases he : a = []
    · exact ih a b La (by rw [he]; simp) ha hb h
    by_cases h0 : (decS a).2 = 0
    · rw [lets_bad he h0] at h; exact absurd h (by simp)
    have hd := decS_app a b h0
    rcases decS_ok ha with e | ⟨h1, h2, _⟩
    · rw [e] at h0; exact absurd rfl h0
    rw [lets_step ha h0] at h
    obtain ⟨L1, hL1, rfl⟩ := Option.map_eq_some_iff.1 h
    rw [lets_step (ha.append hb) (by rw [hd]; exact h0), hd]
    have hlen : (decS a).2.toNat ≤ a.length := by omega
    rw [List.drop_append_of_le_length hlen, ih _ b L1 (by rw [List.length_drop]; omega) (ha.drop _) hb hL1]
    rw [Option.map_map]
    rfl
/-- A small byte parts a text's letters. -/
theorem lets_split (n : Nat) : ∀ (a t : List Int) (c : Int) (L : List Int), a.length ≤ n → 0 ≤ c ∧ c < 128 → Bytes a → Bytes t → lets (a ++ c :: t) = some L →
    ∃ La Lt, lets a = some La ∧ lets t = some Lt ∧ L = La ++ c :: Lt := by
  induction n with
  | zero =>
    intro a t c L hn hc ha ht h
    obtain rfl : a = [] := List.length_eq_zero_iff.1 (by omega)
    have hcb : Bytes (c :: t) := fun x hx => by
      rcases List.mem_cons.1 hx with rfl | hx
      · omega
      · exact ht x hx
    have hd : decS (c :: t) = (c, 1) := by simp only [decS]; rw [if_pos hc.2]
    rw [List.nil_append, lets_step hcb (by rw [hd]; simp), hd] at h
    obtain ⟨Lt, hLt, rfl⟩ := Option.map_eq_some_iff.1 h
    exact ⟨[], Lt, rfl, hLt, rfl⟩
  | succ n ih =>
    intro a t c L hn hc ha ht h
    by_cases he : a = []
    · exact ih a t c L (by rw [he]; simp) hc ha ht h
    have hcb : Bytes (c :: t) := fun x hx => by
      rcases List.mem_cons.1 hx with rfl | hx
      · omega
      · exact ht x hx
    have hne : a ++ c :: t ≠ [] := by simp
    by_cases h0 : (decS (a ++ c :: t)).2 = 0
    · rw [lets_bad hne h0] at h; exact absurd h (by simp)
    have h0a := decS_front a t c hc he h0
    have hd := decS_app a (c :: t) h0a
    rcases decS_ok ha with e | ⟨h1, h2, _⟩
    · rw [e] at h0a; exact absurd rfl h0a
    rw [lets_step (ha.append hcb) h0, hd] at h
    obtain ⟨L1, hL1, rfl⟩ := Option.map_eq_some_iff.1 h
    have hlen : (decS a).2.toNat ≤ a.length := by omega
    rw [List.drop_append_of_le_length hlen] at hL1
    obtain ⟨La, Lt, e1, e2, rfl⟩ := ih _ t c L1 (by rw [List.length_drop]; omega) hc (ha.drop _) ht hL1
    refine ⟨(decS a).1 :: La, Lt, ?_, e2, rfl⟩
    rw [lets_step ha h0a, e1]
    rfl
theorem lets_join (a t : List Int) (c : Int) (La Lt : List Int) (hc : 0 ≤ c ∧ c < 128) (ha : Bytes a) (ht : Bytes t) (h1 : lets a = some La) (h2 : lets t = some Lt) : lets (a ++ c :: t) = some (La ++ c :: Lt) := by
  have hcb : Bytes (c :: t) := fun x hx => by
    rcases List.mem_cons.1 hx with rfl | hx
    · omega
    · exact ht x hx
  have hd : decS (c :: t) = (c, 1) := by simp only [decS]; rw [if_pos hc.2]
  rw [lets_app a.length a (c :: t) La (Nat.le_refl _) ha hcb h1, lets_step hcb (by rw [hd]; simp), hd]
  simp [h2]
theorem drop_ne {L : List Int} {i : Nat} (h : i < L.length) : L.drop i ≠ [] := by
  intro e
  have := congrArg List.length e
  rw [List.length_drop, List.length_nil] at this
  omega
theorem conv_eq {s : ByteArray} (h : s.size < 140737488355328) : conv_bytes.f s = some (bytesOf s) := by unfold conv_bytes.f; rw [if_pos h]
/-! ### names of letters: char.every, Name, Token, NCName, QName -/
theorem toL (s : ByteArray) : s.toList = s.data.toList := ByteArray.toList_eq s
def partsL (M : Option (List Int)) : Bool := match M with
  | none => false
  | some M => M.all partB
def nameL (p : Int → Bool) (M : Option (List Int)) : Bool := match M with
  | none => false
  | some [] => false
  | some (r :: t) => p r && (r :: t).all partB
theorem partsL_cons (r : Int) (M : Option (List Int)) : partsL (M.map (r :: ·)) = (partB r && partsL M) := by cases M <;> simp [partsL]
theorem nameL_cons (p : Int → Bool) (r : Int) (M : Option (List Int)) : nameL p (M.map (r :: ·)) = (p r && (partB r && partsL M)) := by cases M <;> simp [partsL, nameL]
theorem every1_go (s : ByteArray) (L : List Int) (hb : Bytes L) (hL : L.length < 140737488355328) (hs : s.toList.isEmpty = false) (n : Nat) : ∀ i : Nat, 1 ≤ i → i ≤ L.length → L.length - i ≤ n →
    Ev (fun k => char_every_char_Start_char_Part.l0 k s L i) (partsL (lets (L.drop i))) := by
  induction n with
  | zero =>
    intro i h1 hi hn
    have e : L.drop i = [] := List.drop_eq_nil_of_le (by omega)
    rw [e, lets_nil]
    refine Ev.step (f := fun _ => some true) (fun k => ?_) (Ev.now true)
    simp only [char_every_char_Start_char_Part.l0]
    rw [if_neg (by omega), hs]
    rfl
  | succ n ih =>
    intro i h1 hi hn
    by_cases hlt : i < L.length
    · have hne := drop_ne hlt
      have hbd := hb.drop i
      by_cases h0 : (decS (L.drop i)).2 = 0
      · rw [lets_bad hne h0]
        refine Ev.step (f := fun _ => some false) (fun k => ?_) (Ev.now false)
        simp only [char_every_char_Start_char_Part.l0]
        rw [if_pos (by omega), if_pos (by omega), if_pos (by omega), Int.toNat_natCast, decode_eq hbd]
        simp only [Option.bind_some]
        rw [if_pos h0]
      · rw [lets_step hbd h0, partsL_cons]
        rcases decS_ok hbd with e | ⟨g1, g2, g3, _⟩
        · rw [e] at h0; exact absurd rfl h0
        rw [List.length_drop] at g2
        obtain ⟨m, hm⟩ : ∃ m : Nat, (decS (L.drop i)).2 = m := ⟨(decS (L.drop i)).2.toNat, by omega⟩
        have := ih (i + m) (by omega) (by omega) (by omega)
        rw [hm, Int.toNat_natCast, List.drop_drop]
        refine Ev.step (f := fun k => (char_Part.f k (decS (L.drop i)).1).bind fun t => if t = true then char_every_char_Start_char_Part.l0 k s L ((i + m : Nat) : Int) else some false) (fun k => ?_) ?_
        · simp only [char_every_char_Start_char_Part.l0]
          rw [if_pos (by omega), if_pos (by omega), if_pos (by omega), Int.toNat_natCast, decode_eq hbd]
          simp only [Option.bind_some]
          rw [if_neg h0, if_neg (by omega), hm, w64 (by omega) (by omega)]
          rfl
        · refine Ev.bind (part_ev _) ?_
          cases hp : partB (decS (L.drop i)).1 with
          | false => exact Ev.congr (fun k => if_neg (by simp)) (Ev.now false)
          | true => exact Ev.congr (fun k => if_pos rfl) (by simpa using this)
    · exact ih i h1 hi (by omega)
theorem every1_eq (s : ByteArray) (hs : s.size < 4398046511104) : Ev (fun k => char_every_char_Start_char_Part.f k s) (nameL startB (lets (bytesOf s))) := by
  unfold char_every_char_Start_char_Part.f
  refine Ev.congr (fun k => by rw [conv_eq (by omega)]; rfl) (f := fun k => char_every_char_Start_char_Part.l0 k s (bytesOf s) 0) ?_
  have hl := bytesOf_length s
  have hb := bytes_of s
  by_cases hz : s.size = 0
  · have he : bytesOf s = [] := List.length_eq_zero_iff.1 (by omega)
    have hse : s.toList.isEmpty = true := by
      rw [toL, List.isEmpty_iff_length_eq_zero, data_length, hz]
    rw [he, lets_nil]
    refine Ev.step (f := fun _ => some false) (fun k => ?_) (Ev.now false)
    simp only [char_every_char_Start_char_Part.l0]
    rw [if_neg (by simp), hse]
    rfl
  · have hse : s.toList.isEmpty = false := by
      rw [toL, Bool.eq_false_iff]
      intro e
      rw [List.isEmpty_iff_length_eq_zero, data_length] at e
      exact hz e
    have hne : bytesOf s ≠ [] := by
      intro e
      rw [e] at hl
      exact hz hl.symm
    by_cases h0 : (decS (bytesOf s)).2 = 0
    · rw [lets_bad hne h0]
      refine Ev.step (f := fun _ => some false) (fun k => ?_) (Ev.now false)
      simp only [char_every_char_Start_char_Part.l0]
      rw [if_pos (by omega), if_pos (by omega), if_pos (by omega), Int.toNat_zero, List.drop_zero, decode_eq hb]
      simp only [Option.bind_some]
      rw [if_pos h0]
    · rw [lets_step hb h0, nameL_cons]
      rcases decS_ok hb with e | ⟨g1, g2, g3, _⟩
      · rw [e] at h0; exact absurd rfl h0
      obtain ⟨m, hm⟩ : ∃ m : Nat, (decS (bytesOf s)).2 = m := ⟨(decS (bytesOf s)).2.toNat, by omega⟩
      have := every1_go s (bytesOf s) hb (by omega) hse (bytesOf s).length m (by omega) (by omega) (by omega)
      rw [hm, Int.toNat_natCast]
      refine Ev.step (f := fun k => (char_Start.f k (decS (bytesOf s)).1).bind fun q => if q = true then (char_Part.f k (decS (bytesOf s)).1).bind fun t => if t = true then char_every_char_Start_char_Part.l0 k s (bytesOf s) ((m : Nat) : Int) else some false else some false) (fun k => ?_) ?_
      · simp only [char_every_char_Start_char_Part.l0]
        rw [if_pos (by omega), if_pos (by omega), if_pos (by omega), Int.toNat_zero, List.drop_zero, decode_eq hb]
        simp only [Option.bind_some]
        rw [if_neg h0, if_pos trivial, hm, w64 (by omega) (by omega), Int.zero_add]
      · refine Ev.bind (start_ev _) ?_
        cases hq : startB (decS (bytesOf s)).1 with
        | false => exact Ev.congr (fun k => if_neg (by simp)) (Ev.now false)
        | true =>
          refine Ev.congr (fun k => if_pos rfl) (Ev.bind (part_ev _) ?_)
          cases hp : partB (decS (bytesOf s)).1 with
          | false => exact Ev.congr (fun k => if_neg (by simp)) (Ev.now false)
          | true => exact Ev.congr (fun k => if_pos rfl) (by simpa using this)
theorem every2_go (s : ByteArray) (L : List Int) (hb : Bytes L) (hL : L.length < 140737488355328) (hs : s.toList.isEmpty = false) (n : Nat) : ∀ i : Nat, 1 ≤ i → i ≤ L.length → L.length - i ≤ n →
    Ev (fun k => char_every_char_Part_char_Part.l0 k s L i) (partsL (lets (L.drop i))) := by
  induction n with
  | zero =>
    intro i h1 hi hn
    have e : L.drop i = [] := List.drop_eq_nil_of_le (by omega)
    rw [e, lets_nil]
    refine Ev.step (f := fun _ => some true) (fun k => ?_) (Ev.now true)
    simp only [char_every_char_Part_char_Part.l0]
    rw [if_neg (by omega), hs]
    rfl
  | succ n ih =>
    intro i h1 hi hn
    by_cases hlt : i < L.length
    · have hne := drop_ne hlt
      have hbd := hb.drop i
      by_cases h0 : (decS (L.drop i)).2 = 0
      · rw [lets_bad hne h0]
        refine Ev.step (f := fun _ => some false) (fun k => ?_) (Ev.now false)
        simp only [char_every_char_Part_char_Part.l0]
        rw [if_pos (by omega), if_pos (by omega), if_pos (by omega), Int.toNat_natCast, decode_eq hbd]
        simp only [Option.bind_some]
        rw [if_pos h0]
      · rw [lets_step hbd h0, partsL_cons]
        rcases decS_ok hbd with e | ⟨g1, g2, g3, _⟩
        · rw [e] at h0; exact absurd rfl h0
        rw [List.length_drop] at g2
        obtain ⟨m, hm⟩ : ∃ m : Nat, (decS (L.drop i)).2 = m := ⟨(decS (L.drop i)).2.toNat, by omega⟩
        have := ih (i + m) (by omega) (by omega) (by omega)
        rw [hm, Int.toNat_natCast, List.drop_drop]
        refine Ev.step (f := fun k => (char_Part.f k (decS (L.drop i)).1).bind fun t => if t = true then char_every_char_Part_char_Part.l0 k s L ((i + m : Nat) : Int) else some false) (fun k => ?_) ?_
        · simp only [char_every_char_Part_char_Part.l0]
          rw [if_pos (by omega), if_pos (by omega), if_pos (by omega), Int.toNat_natCast, decode_eq hbd]
          simp only [Option.bind_some]
          rw [if_neg h0, if_neg (by omega), hm, w64 (by omega) (by omega)]
          rfl
        · refine Ev.bind (part_ev _) ?_
          cases hp : partB (decS (L.drop i)).1 with
          | false => exact Ev.congr (fun k => if_neg (by simp)) (Ev.now false)
          | true => exact Ev.congr (fun k => if_pos rfl) (by simpa using this)
    · exact ih i h1 hi (by omega)
theorem every2_eq (s : ByteArray) (hs : s.size < 4398046511104) : Ev (fun k => char_every_char_Part_char_Part.f k s) (nameL partB (lets (bytesOf s))) := by
  unfold char_every_char_Part_char_Part.f
  refine Ev.congr (fun k => by rw [conv_eq (by omega)]; rfl) (f := fun k => char_every_char_Part_char_Part.l0 k s (bytesOf s) 0) ?_
  have hl := bytesOf_length s
  have hb := bytes_of s
  by_cases hz : s.size = 0
  · have he : bytesOf s = [] := List.length_eq_zero_iff.1 (by omega)
    have hse : s.toList.isEmpty = true := by
      rw [toL, List.isEmpty_iff_length_eq_zero, data_length, hz]
    rw [he, lets_nil]
    refine Ev.step (f := fun _ => some false) (fun k => ?_) (Ev.now false)
    simp only [char_every_char_Part_char_Part.l0]
    rw [if_neg (by simp), hse]
    rfl
  · have hse : s.toList.isEmpty = false := by
      rw [toL, Bool.eq_false_iff]
      intro e
      rw [List.isEmpty_iff_length_eq_zero, data_length] at e
      exact hz e
    have hne : bytesOf s ≠ [] := by
      intro e
      rw [e] at hl
      exact hz hl.symm
    by_cases h0 : (decS (bytesOf s)).2 = 0
    · rw [lets_bad hne h0]
      refine Ev.step (f := fun _ => some false) (fun k => ?_) (Ev.now false)
      simp only [char_every_char_Part_char_Part.l0]
      rw [if_pos (by omega), if_pos (by omega), if_pos (by omega), Int.toNat_zero, List.drop_zero, decode_eq hb]
      simp only [Option.bind_some]
      rw [if_pos h0]
    · rw [lets_step hb h0, nameL_cons]
      rcases decS_ok hb with e | ⟨g1, g2, g3, _⟩
      · rw [e] at h0; exact absurd rfl h0
      obtain ⟨m, hm⟩ : ∃ m : Nat, (decS (bytesOf s)).2 = m := ⟨(decS (bytesOf s)).2.toNat, by omega⟩
      have := every2_go s (bytesOf s) hb (by omega) hse (bytesOf s).length m (by omega) (by omega) (by omega)
      rw [hm, Int.toNat_natCast]
      refine Ev.step (f := fun k => (char_Part.f k (decS (bytesOf s)).1).bind fun t => if t = true then char_every_char_Part_char_Part.l0 k s (bytesOf s) ((m : Nat) : Int) else some false) (fun k => ?_) ?_
      · simp only [char_every_char_Part_char_Part.l0]
        rw [if_pos (by omega), if_pos (by omega), if_pos (by omega), Int.toNat_zero, List.drop_zero, decode_eq hb]
        simp only [Option.bind_some]
        rw [if_neg h0, if_pos trivial, hm, w64 (by omega) (by omega), Int.zero_add]
      · refine Ev.bind (part_ev _) ?_
        cases hp : partB (decS (bytesOf s)).1 with
        | false => exact Ev.congr (fun k => if_neg (by simp)) (Ev.now false)
        | true => exact Ev.congr (fun k => if_pos rfl) (by simpa using this)
def ncB (s : ByteArray) : Bool := nameL startB (lets (bytesOf s)) && decide (Lib.indexByte s.data.toList 58 < 0)
def qnS (s : ByteArray) : ByteArray × ByteArray × Bool :=
  if Lib.indexByte s.data.toList 58 < 0 then (if ncB s = true then (⟨#[]⟩, s, true) else (⟨#[]⟩, ⟨#[]⟩, false))
  else if ncB (s.extract 0 (Lib.indexByte s.data.toList 58).toNat) = true then
    (if ncB (s.extract ((Lib.indexByte s.data.toList 58).toNat + 1) s.size) = true then (s.extract 0 (Lib.indexByte s.data.toList 58).toNat, s.extract ((Lib.indexByte s.data.toList 58).toNat + 1) s.size, true) else (⟨#[]⟩, ⟨#[]⟩, false))
  else (⟨#[]⟩, ⟨#[]⟩, false)
theorem name_ev (s : ByteArray) (hs : s.size < 4398046511104) : Ev (fun k => char_Name.f k s) (nameL startB (lets (bytesOf s))) := by
  unfold char_Name.f
  exact Ev.bind (every1_eq s hs) (Ev.now _)
theorem token_ev (s : ByteArray) (hs : s.size < 4398046511104) : Ev (fun k => char_Token.f k s) (nameL partB (lets (bytesOf s))) := by
  unfold char_Token.f
  exact Ev.bind (every2_eq s hs) (Ev.now _)
theorem ncname_ev (s : ByteArray) (hs : s.size < 4398046511104) : Ev (fun k => char_NCName.f k s) (ncB s) := by
  unfold char_NCName.f ncB
  refine Ev.bind (name_ev s hs) ?_
  cases nameL startB (lets (bytesOf s)) with
  | false => exact Ev.congr (fun k => if_neg (by simp)) (Ev.now false)
  | true =>
    refine Ev.congr (fun k => if_pos rfl) ?_
    unfold strings_IndexByte.f
    exact Ev.now _
theorem extract_small (s : ByteArray) (a b : Nat) (hs : s.size < 4398046511104) : (s.extract a b).size < 4398046511104 := by
  rw [extract_mkB, mkB_size, List.length_take, List.length_drop, data_length]
  omega
theorem qname_ev (s : ByteArray) (hs : s.size < 4398046511104) : Ev (fun k => char_QName.f k s) (qnS s) := by
  unfold char_QName.f
  by_cases hi : Lib.indexByte s.data.toList 58 < 0
  · have hc : strings_Cut.f s (⟨#[58]⟩ : ByteArray) = some (s, ⟨#[]⟩, false) := by
      unfold strings_Cut.f
      rw [if_pos (by omega)]
      simp only []
      rw [if_pos hi]
    rw [hc]
    unfold qnS
    rw [if_pos hi]
    simp only [Option.bind_some]
    refine Ev.congr (fun k => if_neg (by simp)) ?_
    refine Ev.step (f := fun k => (char_NCName.f k s).bind fun t => if t = true then some ((⟨#[]⟩ : ByteArray), s, true) else some ((⟨#[]⟩ : ByteArray), (⟨#[]⟩ : ByteArray), false)) (fun k => ?_) ?_
    · simp only [char_QName.j0]
      rw [if_neg (by simp)]
    · refine Ev.bind (ncname_ev s hs) ?_
      cases ncB s with
      | false => exact Ev.congr (fun k => if_neg (by simp)) (Ev.now _)
      | true => exact Ev.congr (fun k => if_pos rfl) (Ev.now _)
  · have hc : strings_Cut.f s (⟨#[58]⟩ : ByteArray) = some (s.extract 0 (Lib.indexByte s.data.toList 58).toNat, s.extract ((Lib.indexByte s.data.toList 58).toNat + 1) s.size, true) := by
      unfold strings_Cut.f
      rw [if_pos (by omega)]
      simp only []
      rw [if_neg hi]
    rw [hc]
    unfold qnS
    rw [if_neg hi]
    simp only [Option.bind_some]
    refine Ev.congr (fun k => if_pos trivial) ?_
    generalize (Lib.indexByte s.data.toList 58).toNat = i
    refine Ev.step (f := fun k => (char_NCName.f k (s.extract 0 i)).bind fun q => if q = true then (char_NCName.f k (s.extract (i + 1) s.size)).bind fun t => if t = true then some (s.extract 0 i, s.extract (i + 1) s.size, true) else some ((⟨#[]⟩ : ByteArray), (⟨#[]⟩ : ByteArray), false) else some ((⟨#[]⟩ : ByteArray), (⟨#[]⟩ : ByteArray), false)) (fun k => ?_) ?_
    · simp only [char_QName.j0]
      rw [if_pos trivial]
    · refine Ev.bind (ncname_ev _ (extract_small s _ _ hs)) ?_
      cases ncB (s.extract 0 i) with
      | false => exact Ev.congr (fun k => if_neg (by simp)) (Ev.now _)
      | true =>
        refine Ev.congr (fun k => if_pos rfl) (Ev.bind (ncname_ev _ (extract_small s _ _ hs)) ?_)
        cases ncB (s.extract (i + 1) s.size) with
        | false => exact Ev.congr (fun k => if_neg (by simp)) (Ev.now _)
        | true => exact Ev.congr (fun k => if_pos rfl) (Ev.now _)
/-! ### the reference's Decode -/
theorem bits_tab (c : Int) (h0 : 0 ≤ c) (h1 : c < 256) : Go.bits .and .i64 c 224 = c / 32 * 32 ∧ Go.bits .and .i64 c 240 = c / 16 * 16 ∧ Go.bits .and .i64 c 248 = c / 8 * 8 ∧ Go.bits .and .i64 c 31 = c % 32 ∧ Go.bits .and .i64 c 15 = c % 16 ∧ Go.bits .and .i64 c 7 = c % 8 ∧ Go.bits .and .u8 c 192 = c / 64 * 64 ∧ Go.bits .and .u8 c 63 = c % 64 := by
  obtain ⟨n, rfl⟩ := Int.eq_ofNat_of_zero_le h0
  have hn : n < 256 := by omega
  have key : ∀ m : Fin 256, Go.bits .and .i64 (m.val : Int) 224 = (m.val : Int) / 32 * 32 ∧ Go.bits .and .i64 (m.val : Int) 240 = (m.val : Int) / 16 * 16 ∧ Go.bits .and .i64 (m.val : Int) 248 = (m.val : Int) / 8 * 8 ∧ Go.bits .and .i64 (m.val : Int) 31 = (m.val : Int) % 32 ∧ Go.bits .and .i64 (m.val : Int) 15 = (m.val : Int) % 16 ∧ Go.bits .and .i64 (m.val : Int) 7 = (m.val : Int) % 8 ∧ Go.bits .and .u8 (m.val : Int) 192 = (m.val : Int) / 64 * 64 ∧ Go.bits .and .u8 (m.val : Int) 63 = (m.val : Int) % 64 := by decide +kernel
  exact key ⟨n, hn⟩
theorem or_join (x t : Int) (hx : 0 ≤ x) (hx1 : x < 33554432) (ht : 0 ≤ t) (ht1 : t < 64) : Go.bits .or .i64 (wrap64 (x * 64)) t = x * 64 + t := by
  rw [w64 (by omega) (by omega)]
  exact bits_join .i64 63 (by decide) (fun n h h' => IntWalk.i64_in n (by omega)) 6 (x * 64) t (by omega) (by omega) (by omega) ht (by omega) (by omega)
theorem rtail_at (l : List Int) (h : Bytes l) (i : Nat) (x : Int) (hx : l[i]? = some x) : rubricref1_tail.f l i = some (if x / 64 = 2 then x % 64 else -1) := by
  have hi := (List.getElem?_eq_some_iff.1 hx).1
  have hb := h x (List.mem_of_getElem? hx)
  have hr : rd l (i : Int) = x := by simp [rd, hx]
  obtain ⟨_, _, _, _, _, _, h7, h8⟩ := bits_tab x hb.1 hb.2
  unfold rubricref1_tail.f
  rw [if_neg (by omega), if_pos (by omega), if_pos (by omega), hr, h7, h8]
  by_cases h2 : x / 64 = 2
  · rw [if_pos (by omega), if_pos h2, w64 (by omega) (by omega)]
  · rw [if_neg (by omega), if_neg h2]
theorem rtail_out (l : List Int) (i : Nat) (hi : l.length ≤ i) : rubricref1_tail.f l i = some (-1) := by
  unfold rubricref1_tail.f
  rw [if_pos (by omega)]
theorem rdec_end (k : Nat) (l : List Int) (n x least : Int) : rubricref1_Decode.l0 (k + 1) l n x least n = some (if x < least then (-1, 0) else if x > 1114111 then (-1, 0) else if 55296 ≤ x ∧ x ≤ 57343 then (-1, 0) else (x, n)) := by
  simp only [rubricref1_Decode.l0]
  rw [if_neg (by omega)]
  by_cases h1 : x < least
  · rw [if_pos h1, if_pos h1]
  · rw [if_neg h1, if_neg h1]
    by_cases h2 : x > 1114111
    · rw [if_pos h2, if_pos h2]
    · rw [if_neg h2, if_neg h2]
      by_cases h3 : x ≥ 55296
      · rw [if_pos h3]
        by_cases h4 : x ≤ 57343
        · rw [if_pos h4, if_pos (by omega)]
        · rw [if_neg h4, if_neg (by omega)]
      · rw [if_neg h3, if_neg (by omega)]
theorem rdec_go (k : Nat) (l : List Int) (h : Bytes l) (n x least : Int) (i : Nat) (y : Int) (hi : (i : Int) < n) (hi' : i < 4) (hx : 0 ≤ x) (hx1 : x < 33554432) (hy : l[i]? = some y) (h2 : y / 64 = 2) :
    rubricref1_Decode.l0 (k + 1) l n x least i = rubricref1_Decode.l0 k l n (x * 64 + y % 64) least ((i + 1 : Nat) : Int) := by
  have hb := h y (List.mem_of_getElem? hy)
  simp only [rubricref1_Decode.l0]
  rw [if_pos hi, rtail_at l h i y hy]
  simp only [Option.bind_some]
  rw [if_pos h2, if_neg (by omega), or_join x (y % 64) hx hx1 (by omega) (by omega), w64 (by omega) (by omega)]
  rfl
theorem rdec_bad (k : Nat) (l : List Int) (h : Bytes l) (n x least : Int) (i : Nat) (hi : (i : Int) < n) (hy : ∀ y, l[i]? = some y → ¬ y / 64 = 2) :
    rubricref1_Decode.l0 (k + 1) l n x least i = some (-1, 0) := by
  simp only [rubricref1_Decode.l0]
  rw [if_pos hi]
  rcases hg : l[i]? with _ | y
  · rw [rtail_out l i (by rw [List.getElem?_eq_none_iff] at hg; exact hg)]
    simp
  · rw [rtail_at l h i y hg]
    simp only [Option.bind_some]
    rw [if_neg (hy y hg), if_pos (by omega)]
theorem rdec_eq (k : Nat) (l : List Int) (h : Bytes l) : rubricref1_Decode.f (k + 6) l = some (decS l) := by
  match l, h with
  | [], h => simp [rubricref1_Decode.f, decS]
  | c :: t, h =>
    have hc := h.head
    have ht := h.tail
    obtain ⟨h1, h2, h3, h4, h5, h6, _, _⟩ := bits_tab c hc.1 hc.2
    have hr : rd (c :: t) 0 = c := rfl
    unfold rubricref1_Decode.f
    rw [if_neg (by simp only [List.length_cons]; omega), if_pos (by simp only [List.length_cons]; omega), hr, w64 hc.1 (by omega), h1, h2, h3, h4, h5, h6]
    simp only [decS]
    by_cases g1 : c < 128
    · rw [if_pos g1, if_pos g1]
    rw [if_neg g1, if_neg g1]
    by_cases g2 : c / 32 = 6
    · rw [if_pos (by omega), if_pos g2]
      simp only [rubricref1_Decode.j0]
      match t, h, ht with
      | [], h, ht => exact rdec_bad _ _ h 2 _ _ 1 (by omega) (fun y hy => by simp at hy)
      | a :: t1, h, ht =>
        simp only []
        by_cases e1 : a / 64 = 2
        · rw [if_pos e1]
          have := rdec_go (k + 4) (c :: a :: t1) h 2 (c % 32) 128 1 a (by omega) (by omega) (by omega) (by omega) rfl e1
          refine this.trans ((rdec_end (k + 3) _ 2 _ _).trans ?_)
          have ha := ht.head
          congr 1
          by_cases f1 : c % 32 * 64 + a % 64 < 128
          · rw [if_pos f1, if_pos f1]
          · rw [if_neg f1, if_neg f1, if_neg (by omega), if_neg (by omega)]
        · rw [if_neg e1]
          exact rdec_bad _ _ h 2 _ _ 1 (by omega) (fun y hy => by simp at hy; subst hy; exact e1)
    rw [if_neg (by omega), if_neg g2]
    by_cases g3 : c / 16 = 14
    · rw [if_pos (by omega), if_pos g3]
      simp only [rubricref1_Decode.j0]
      match t, h, ht with
      | [], h, ht => exact rdec_bad _ _ h 3 _ _ 1 (by omega) (fun y hy => by simp at hy)
      | a :: t1, h, ht =>
        have ha := ht.head
        by_cases e1 : a / 64 = 2
        · refine (rdec_go (k + 4) (c :: a :: t1) h 3 (c % 16) 2048 1 a (by omega) (by omega) (by omega) (by omega) rfl e1).trans ?_
          match t1, h, ht with
          | [], h, ht => exact rdec_bad _ _ h 3 _ _ 2 (by omega) (fun y hy => by simp at hy)
          | b :: t2, h, ht =>
            have hb := ht.tail.head
            simp only []
            rw [if_pos e1]
            by_cases e2 : b / 64 = 2
            · rw [if_pos e2]
              refine (rdec_go (k + 3) (c :: a :: b :: t2) h 3 (c % 16 * 64 + a % 64) 2048 2 b (by omega) (by omega) (by omega) (by omega) rfl e2).trans ((rdec_end (k + 2) _ 3 _ _).trans ?_)
              congr 1
              by_cases f1 : (c % 16 * 64 + a % 64) * 64 + b % 64 < 2048
              · rw [if_pos f1, if_pos f1]
              · rw [if_neg f1, if_neg f1, if_neg (by omega)]
            · rw [if_neg e2]
              exact rdec_bad _ _ h 3 _ _ 2 (by omega) (fun y hy => by simp at hy; subst hy; exact e2)
        · refine (rdec_bad _ _ h 3 _ _ 1 (by omega) (fun y hy => by simp at hy; subst hy; exact e1)).trans ?_
          match t1 with
          | [] => rfl
          | b :: t2 => simp only []; rw [if_neg e1]
    rw [if_neg (by omega), if_neg g3]
    by_cases g4 : c / 8 = 30
    · rw [if_pos (by omega), if_pos g4]
      simp only [rubricref1_Decode.j0]
      match t, h, ht with
      | [], h, ht => exact rdec_bad _ _ h 4 _ _ 1 (by omega) (fun y hy => by simp at hy)
      | a :: t1, h, ht =>
        have ha := ht.head
        by_cases e1 : a / 64 = 2
        · refine (rdec_go (k + 4) (c :: a :: t1) h 4 (c % 8) 65536 1 a (by omega) (by omega) (by omega) (by omega) rfl e1).trans ?_
          match t1, h, ht with
          | [], h, ht => exact rdec_bad _ _ h 4 _ _ 2 (by omega) (fun y hy => by simp at hy)
          | b :: t2, h, ht =>
            have hb := ht.tail.head
            by_cases e2 : b / 64 = 2
            · refine (rdec_go (k + 3) (c :: a :: b :: t2) h 4 (c % 8 * 64 + a % 64) 65536 2 b (by omega) (by omega) (by omega) (by omega) rfl e2).trans ?_
              match t2, h, ht with
              | [], h, ht => exact rdec_bad _ _ h 4 _ _ 3 (by omega) (fun y hy => by simp at hy)
              | d :: t3, h, ht =>
                have hd := ht.tail.tail.head
                simp only []
                rw [if_pos e1, if_pos e2]
                by_cases e3 : d / 64 = 2
                · rw [if_pos e3]
                  refine (rdec_go (k + 2) (c :: a :: b :: d :: t3) h 4 ((c % 8 * 64 + a % 64) * 64 + b % 64) 65536 3 d (by omega) (by omega) (by omega) (by omega) rfl e3).trans ((rdec_end (k + 1) _ 4 _ _).trans ?_)
                  congr 1
                  by_cases f1 : ((c % 8 * 64 + a % 64) * 64 + b % 64) * 64 + d % 64 < 65536
                  · rw [if_pos f1, if_pos f1]
                  · rw [if_neg f1, if_neg f1]
                    by_cases f2 : 1114111 < ((c % 8 * 64 + a % 64) * 64 + b % 64) * 64 + d % 64
                    · rw [if_pos f2, if_pos f2]
                    · rw [if_neg f2, if_neg f2, if_neg (by omega)]
                · rw [if_neg e3]
                  exact rdec_bad _ _ h 4 _ _ 3 (by omega) (fun y hy => by simp at hy; subst hy; exact e3)
            · refine (rdec_bad _ _ h 4 _ _ 2 (by omega) (fun y hy => by simp at hy; subst hy; exact e2)).trans ?_
              match t2 with
              | [] => rfl
              | d :: t3 => simp only []; rw [if_pos e1, if_neg e2]
        · refine (rdec_bad _ _ h 4 _ _ 1 (by omega) (fun y hy => by simp at hy; subst hy; exact e1)).trans ?_
          match t1 with
          | [] => rfl
          | [b] => rfl
          | b :: d :: t2 => simp only []; rw [if_neg e1]
    rw [if_neg (by omega), if_neg g4]
theorem rchar_eq (r : Int) : rubricref1_Char.f r = some (charB r) := by
  unfold rubricref1_Char.f charB
  repeat' split
  all_goals (congr 1; rw [Bool.eq_iff_iff]; first | (simp; done) | (simp; omega))
theorem rdec_ev {l : List Int} (h : Bytes l) : Ev (fun k => rubricref1_Decode.f k l) (decS l) := ⟨6, fun k hk => by obtain ⟨j, rfl⟩ : ∃ j, k = j + 6 := ⟨k - 6, by omega⟩; exact rdec_eq j _ h⟩
theorem rstart_eq (r : Int) : rubricref1_Start.f r = some (startB r) := by
  unfold rubricref1_Start.f startB
  simp only [rchar_eq, Option.bind_some]
  cases hc : charB r
  all_goals
    repeat' split
    all_goals first | contradiction | rfl | (congr 1; rw [Bool.eq_iff_iff]; simp only [decide_eq_true_eq, beq_iff_eq, reduceCtorEq, true_iff, false_iff, and_true, and_false, or_false, false_or, true_or, or_true, not_true, not_false_iff, ne_eq]; omega) | (congr 1; rw [Bool.eq_iff_iff]; simp only [decide_eq_true_eq, beq_iff_eq, reduceCtorEq, true_iff, false_iff, and_true, and_false, or_false, false_or, true_or, or_true, not_true, not_false_iff, ne_eq]; done) | (congr 1; rw [Bool.eq_iff_iff]; omega) | (congr 1; simp; done)
theorem rpart_eq (r : Int) : rubricref1_Part.f r = some (partB r) := by
  unfold rubricref1_Part.f partB
  rw [rstart_eq]
  simp only [Option.bind_some]
  cases hc : startB r
  all_goals
    repeat' split
    all_goals first | contradiction | rfl | (congr 1; rw [Bool.eq_iff_iff]; simp only [decide_eq_true_eq, beq_iff_eq, reduceCtorEq, true_iff, false_iff, and_true, and_false, or_false, false_or, true_or, or_true, not_true, not_false_iff, ne_eq]; omega) | (congr 1; rw [Bool.eq_iff_iff]; simp only [decide_eq_true_eq, beq_iff_eq, reduceCtorEq, true_iff, false_iff, and_true, and_false, or_false, false_or, true_or, or_true, not_true, not_false_iff, ne_eq]; done) | (congr 1; rw [Bool.eq_iff_iff]; omega) | (congr 1; simp; done)
/-! ### the document's names -/
theorem letsN_len (n : Nat) : ∀ (l M : List Int), letsN n l = some M → M.length ≤ n := by
  induction n with
  | zero =>
    intro l M h
    simp only [letsN] at h
    by_cases he : l = []
    · rw [if_pos he] at h
      obtain rfl := Option.some.inj h
      simp
    · rw [if_neg he] at h; exact absurd h (by simp)
  | succ n ih =>
    intro l M h
    simp only [letsN] at h
    by_cases he : l = []
    · rw [if_pos he] at h
      obtain rfl := Option.some.inj h
      simp
    · rw [if_neg he] at h
      by_cases h0 : (decS l).2 = 0
      · rw [if_pos h0] at h; exact absurd h (by simp)
      · rw [if_neg h0] at h
        obtain ⟨M1, h1, rfl⟩ := Option.map_eq_some_iff.1 h
        have := ih _ _ h1
        simp only [List.length_cons]
        omega
theorem part_char {r : Int} (h : partB r = true) : charB r = true := by
  unfold partB startB at h
  unfold charB at h ⊢
  simp only [decide_eq_true_eq] at h ⊢
  omega
theorem parts_chars {M : List Int} (h : M.all partB = true) : M.all charB = true := by
  rw [List.all_eq_true] at h ⊢
  exact fun x hx => part_char (h x hx)
def letsR (out : List Int) (M : Option (List Int)) : List Int × Bool := match M with
  | none => ([], false)
  | some M => if M.all charB = true then (out ++ M, true) else ([], false)
theorem letsR_cons (out : List Int) (r : Int) (M : Option (List Int)) : letsR out (M.map (r :: ·)) = if charB r = true then letsR (out ++ [r]) M else ([], false) := by
  cases M with
  | none => simp [letsR]
  | some M =>
    cases h : charB r <;> simp [letsR, h]
theorem letters_go (L : List Int) (hb : Bytes L) (hL : L.length < 4398046511104) (n : Nat) : ∀ (i : Nat) (out : List Int), i ≤ L.length → L.length - i ≤ n → out.length ≤ i →
    Ev (fun k => rubricref1_letters.l0 k out L i) (letsR out (lets (L.drop i))) := by
  induction n with
  | zero =>
    intro i out hi hn ho
    have e : L.drop i = [] := List.drop_eq_nil_of_le (by omega)
    rw [e, lets_nil]
    refine Ev.step (f := fun _ => some (out, true)) (fun k => ?_) (by simpa [letsR] using Ev.now (out, true))
    simp only [rubricref1_letters.l0]
    rw [if_neg (by omega)]
  | succ n ih =>
    intro i out hi hn ho
    by_cases hlt : i < L.length
    · have hne := drop_ne hlt
      have hbd := hb.drop i
      refine Ev.step (f := fun k => (rubricref1_Decode.f k (L.drop i)).bind fun t => if t.2 = 0 then some (([] : List Int), false) else (rubricref1_Char.f t.1).bind fun q => if q = true then (if out.length < 17592186044416 then rubricref1_letters.l0 k (out ++ [t.1]) L (wrap64 ((i : Int) + t.2)) else none) else some (([] : List Int), false)) (fun k => ?_) ?_
      · simp only [rubricref1_letters.l0]
        rw [if_pos (by omega), if_pos (by omega), if_pos (by omega), Int.toNat_natCast]
      · refine Ev.bind (rdec_ev hbd) ?_
        by_cases h0 : (decS (L.drop i)).2 = 0
        · rw [lets_bad hne h0]
          exact Ev.congr (fun k => if_pos h0) (Ev.now _)
        · rw [lets_step hbd h0, letsR_cons]
          refine Ev.congr (fun k => if_neg h0) ?_
          rw [rchar_eq]
          simp only [Option.bind_some]
          cases hc : charB (decS (L.drop i)).1 with
          | false => exact Ev.congr (fun k => if_neg (by simp)) (by rw [if_neg (by simp)]; exact Ev.now _)
          | true =>
            rcases decS_ok hbd with e | ⟨g1, g2, g3, _⟩
            · rw [e] at h0; exact absurd rfl h0
            rw [List.length_drop] at g2
            obtain ⟨m, hm⟩ : ∃ m : Nat, (decS (L.drop i)).2 = m := ⟨(decS (L.drop i)).2.toNat, by omega⟩
            have := ih (i + m) (out ++ [(decS (L.drop i)).1]) (by omega) (by omega) (by simp only [List.length_append, List.length_cons, List.length_nil]; omega)
            rw [if_pos rfl, hm, Int.toNat_natCast, List.drop_drop]
            refine Ev.congr (fun k => ?_) this
            rw [if_pos rfl, if_pos (by omega), w64 (by omega) (by omega)]
            rfl
    · exact ih i out hi (by omega) ho
theorem letters_ev (s : ByteArray) (hs : s.size < 4398046511104) : Ev (fun k => rubricref1_letters.f k s) (letsR [] (lets (bytesOf s))) := by
  unfold rubricref1_letters.f
  have hl := bytesOf_length s
  refine Ev.congr (fun k => by rw [conv_eq (by omega)]; rfl) (f := fun k => rubricref1_letters.l0 k [] (bytesOf s) 0) ?_
  have := letters_go (bytesOf s) (bytes_of s) (by omega) (bytesOf s).length 0 [] (by omega) (by omega) (by simp)
  rw [List.drop_zero] at this
  exact this
theorem rtoken_go (xs : List Int) (ok : Bool) (hx : xs.length < 4398046511104) (n : Nat) : ∀ i : Nat, i ≤ xs.length → xs.length - i ≤ n →
    Ev (fun k => rubricref1_Token.l0 k xs ok i) ((xs.drop i).all partB && (ok && decide ((xs.length : Int) > 0))) := by
  induction n with
  | zero =>
    intro i hi hn
    have e : xs.drop i = [] := List.drop_eq_nil_of_le (by omega)
    rw [e]
    refine Ev.step (f := fun _ => some (ok && decide ((xs.length : Int) > 0))) (fun k => ?_) (by simpa using Ev.now (ok && decide ((xs.length : Int) > 0)))
    simp only [rubricref1_Token.l0]
    rw [if_neg (by omega)]
    cases ok <;> simp
  | succ n ih =>
    intro i hi hn
    by_cases hlt : i < xs.length
    · have hd : xs.drop i = rd xs i :: xs.drop (i + 1) := by
        rw [List.drop_eq_getElem_cons hlt]
        congr 1
        unfold rd
        simp [List.getD_eq_getElem?_getD, hlt]
      rw [hd, List.all_cons]
      refine Ev.step (f := fun k => if partB (rd xs i) = true then rubricref1_Token.l0 k xs ok ((i + 1 : Nat) : Int) else some false) (fun k => ?_) ?_
      · simp only [rubricref1_Token.l0]
        rw [if_pos (by omega), if_pos (by omega), rpart_eq, w64 (by omega) (by omega)]
        rfl
      · cases hp : partB (rd xs i) with
        | false => exact Ev.congr (fun k => if_neg (by simp)) (Ev.now false)
        | true => exact Ev.congr (fun k => if_pos rfl) (by simpa using ih (i + 1) (by omega) (by omega))
    · exact ih i hi (by omega)
theorem lets_len {l M : List Int} (h : lets l = some M) : M.length ≤ l.length := letsN_len _ _ _ h
theorem rtoken_ev (s : ByteArray) (hs : s.size < 4398046511104) : Ev (fun k => rubricref1_Token.f k s) (nameL partB (lets (bytesOf s))) := by
  unfold rubricref1_Token.f
  refine Ev.bind (letters_ev s hs) ?_
  have hl := bytesOf_length s
  cases hM : lets (bytesOf s) with
  | none =>
    have := rtoken_go [] false (by simp) 0 0 (by simp) (by simp)
    simpa [letsR, nameL] using this
  | some M =>
    have hlen := lets_len hM
    simp only [letsR]
    by_cases hc : M.all charB = true
    · rw [if_pos hc]
      have := rtoken_go M true (by omega) M.length 0 (by omega) (by omega)
      rw [List.drop_zero] at this
      simp only [List.nil_append]
      have e : (M.all partB && (true && decide ((M.length : Int) > 0))) = nameL partB (some M) := by
        cases M with
        | nil => simp [nameL]
        | cons r t =>
          have : ((t.length : Int) + 1 > 0) := by omega
          simp only [nameL, List.all_cons, List.length_cons, Int.natCast_add, Int.natCast_one, this, decide_true, Bool.and_true]
          cases partB r <;> simp
      rw [e] at this
      exact this
    · rw [if_neg hc]
      have := rtoken_go [] false (by simp) 0 0 (by simp) (by simp)
      have e : nameL partB (some M) = false := by
        cases M with
        | nil => rfl
        | cons r t =>
          have h1 : ¬ (r :: t).all partB = true := fun h => hc (parts_chars h)
          simp only [nameL]
          rw [Bool.eq_false_iff.2 h1, Bool.and_false]
      rw [e]
      simpa using this
theorem rname_ev (s : ByteArray) (hs : s.size < 4398046511104) : Ev (fun k => rubricref1_Name.f k s) (nameL startB (lets (bytesOf s))) := by
  unfold rubricref1_Name.f
  have hlet := letters_ev s hs
  have htok := rtoken_ev s hs
  cases hM : lets (bytesOf s) with
  | none =>
    rw [hM] at hlet
    refine Ev.bind hlet ?_
    exact Ev.congr (fun k => if_neg (by simp [letsR])) (Ev.now false)
  | some M =>
    rw [hM] at hlet htok
    by_cases hc : M.all charB = true
    · have e1 : letsR [] (some M) = (M, true) := by simp only [letsR]; rw [if_pos hc]; rfl
      rw [e1] at hlet
      refine Ev.bind hlet ?_
      refine Ev.congr (fun k => if_pos rfl) ?_
      cases M with
      | nil => exact Ev.congr (fun k => if_neg (by simp)) (Ev.now false)
      | cons r t =>
        refine Ev.congr (fun k => if_pos (by simp only [List.length_cons]; omega)) (Ev.congr (fun k => if_pos (by simp only [List.length_cons]; omega)) ?_)
        have hr : rd (r :: t) 0 = r := rfl
        simp only [hr, rstart_eq, Option.bind_some]
        cases hq : startB r with
        | false => exact Ev.congr (fun k => if_neg (by simp)) (by simpa [nameL, hq] using Ev.now false)
        | true =>
          refine Ev.congr (fun k => if_pos rfl) (Ev.bind htok ?_)
          have e : nameL startB (some (r :: t)) = nameL partB (some (r :: t)) := by
            simp only [nameL, hq, List.all_cons]
            cases partB r <;> simp
          rw [e]
          exact Ev.now _
    · have e1 : letsR [] (some M) = ([], false) := by simp only [letsR]; rw [if_neg hc]
      rw [e1] at hlet
      refine Ev.bind hlet ?_
      have e : nameL startB (some M) = false := by
        cases M with
        | nil => rfl
        | cons r t =>
          have h1 : ¬ (r :: t).all partB = true := fun h => hc (parts_chars h)
          simp only [nameL]
          rw [Bool.eq_false_iff.2 h1, Bool.and_false]
      rw [e]
      exact Ev.congr (fun k => if_neg (by simp)) (Ev.now false)
theorem idx_nil (c : UInt8) : Lib.indexByte [] c = -1 := rfl
theorem idx_cons (b : UInt8) (l : List UInt8) (c : UInt8) : Lib.indexByte (b :: l) c = if b = c then 0 else if Lib.indexByte l c < 0 then -1 else Lib.indexByte l c + 1 := by
  have hr := indexByte_range l c
  show (if b == c then (0 : Int) else if Lib.indexByte l c == -1 then -1 else Lib.indexByte l c + 1) = _
  by_cases h : b = c
  · rw [if_pos h, if_pos (by simpa using h)]
  · rw [if_neg h, if_neg (by simpa using h)]
    by_cases h2 : Lib.indexByte l c < 0
    · rw [if_pos h2, if_pos (by rw [beq_iff_eq]; omega)]
    · rw [if_neg h2, if_neg (by rw [beq_iff_eq]; omega)]
theorem bt58 (b : UInt8) : (b.toNat : Int) = 58 ↔ b = 58 := by
  constructor
  · intro h
    apply UInt8.toNat_inj.1
    show b.toNat = 58
    omega
  · rintro rfl
    rfl
theorem rncname_go (s : ByteArray) (hs : s.size < 4398046511104) (n : Nat) : ∀ i : Nat, i ≤ s.size → s.size - i ≤ n →
    Lib.indexByte s.data.toList 58 = (if Lib.indexByte (s.data.toList.drop i) 58 < 0 then -1 else i + Lib.indexByte (s.data.toList.drop i) 58) →
    Ev (fun k => rubricref1_NCName.l0 k s i) (ncB s) := by
  induction n with
  | zero =>
    intro i hi hn h
    have e : s.data.toList.drop i = [] := List.drop_eq_nil_of_le (by rw [data_length]; omega)
    rw [e, idx_nil, if_pos (by omega)] at h
    refine Ev.step (f := fun k => (rubricref1_Name.f k s).bind fun t => some t) (fun k => ?_) ?_
    · simp only [rubricref1_NCName.l0]
      rw [if_neg (by omega)]
    · refine Ev.bind (rname_ev s hs) ?_
      unfold ncB
      rw [h]
      simpa using Ev.now _
  | succ n ih =>
    intro i hi hn h
    by_cases hlt : i < s.size
    · obtain ⟨b, hd, hbt⟩ := drop_byte s i hlt
      rw [hd, idx_cons] at h
      by_cases hb : b = 58
      · rw [if_pos hb, if_neg (by omega)] at h
        refine Ev.step (f := fun _ => some false) (fun k => ?_) ?_
        · simp only [rubricref1_NCName.l0]
          rw [if_pos (by omega), if_pos (by omega), if_pos (by rw [hbt]; exact (bt58 b).2 hb)]
        · unfold ncB
          rw [decide_eq_false (by omega), Bool.and_false]
          exact Ev.now false
      · rw [if_neg hb] at h
        refine Ev.step (fun k => ?_) (ih (i + 1) (by omega) (by omega) ?_)
        · simp only [rubricref1_NCName.l0]
          rw [if_pos (by omega), if_pos (by omega), if_neg (by rw [hbt]; exact fun h => hb ((bt58 b).1 h)), w64 (by omega) (by omega)]
          rfl
        · rw [h]
          by_cases h2 : Lib.indexByte (s.data.toList.drop (i + 1)) 58 < 0
          · rw [if_pos h2, if_pos h2, if_pos (by omega)]
          · rw [if_neg h2, if_neg h2, if_neg (by omega)]
            omega
    · exact ih i hi (by omega) h
theorem rncname_ev (s : ByteArray) (hs : s.size < 4398046511104) : Ev (fun k => rubricref1_NCName.f k s) (ncB s) := by
  unfold rubricref1_NCName.f
  refine rncname_go s hs s.size 0 (by omega) (by omega) ?_
  rw [List.drop_zero]
  have hr := indexByte_range s.data.toList 58
  by_cases h2 : Lib.indexByte s.data.toList 58 < 0
  · rw [if_pos h2]; omega
  · rw [if_neg h2]; omega
theorem rqname_go (s : ByteArray) (hs : s.size < 4398046511104) (n : Nat) : ∀ i : Nat, i ≤ s.size → s.size - i ≤ n →
    Lib.indexByte s.data.toList 58 = (if Lib.indexByte (s.data.toList.drop i) 58 < 0 then -1 else i + Lib.indexByte (s.data.toList.drop i) 58) →
    Ev (fun k => rubricref1_QName.l0 k s i) (qnS s) := by
  induction n with
  | zero =>
    intro i hi hn h
    have e : s.data.toList.drop i = [] := List.drop_eq_nil_of_le (by rw [data_length]; omega)
    rw [e, idx_nil, if_pos (by omega)] at h
    refine Ev.step (f := fun k => (rubricref1_NCName.f k s).bind fun t => if t = true then some ((⟨#[]⟩ : ByteArray), s, true) else some ((⟨#[]⟩ : ByteArray), (⟨#[]⟩ : ByteArray), false)) (fun k => ?_) ?_
    · simp only [rubricref1_QName.l0]
      rw [if_neg (by omega)]
    · refine Ev.bind (rncname_ev s hs) ?_
      unfold qnS
      rw [if_pos (show Lib.indexByte s.data.toList 58 < 0 by omega)]
      cases ncB s with
      | false => exact Ev.congr (fun k => if_neg (by simp)) (Ev.now _)
      | true => exact Ev.congr (fun k => if_pos rfl) (Ev.now _)
  | succ n ih =>
    intro i hi hn h
    by_cases hlt : i < s.size
    · obtain ⟨b, hd, hbt⟩ := drop_byte s i hlt
      rw [hd, idx_cons] at h
      by_cases hb : b = 58
      · rw [if_pos hb, if_neg (by omega)] at h
        refine Ev.step (f := fun k => (rubricref1_NCName.f k (s.extract 0 i)).bind fun q => if q = true then (rubricref1_NCName.f k (s.extract (i + 1) s.size)).bind fun t => if t = true then some (s.extract 0 i, s.extract (i + 1) s.size, true) else some ((⟨#[]⟩ : ByteArray), (⟨#[]⟩ : ByteArray), false) else some ((⟨#[]⟩ : ByteArray), (⟨#[]⟩ : ByteArray), false)) (fun k => ?_) ?_
        · have e1 : ((i : Int) + 1).toNat = i + 1 := by omega
          simp only [rubricref1_QName.l0]
          rw [if_pos (by omega), if_pos (by omega), if_pos (by rw [hbt]; exact (bt58 b).2 hb), if_pos (by omega), w64 (by omega) (by omega), Int.toNat_natCast, e1, if_pos (by omega), if_pos (by omega)]
        · have e : (Lib.indexByte s.data.toList 58).toNat = i := by omega
          unfold qnS
          rw [if_neg (show ¬ Lib.indexByte s.data.toList 58 < 0 by omega), e]
          refine Ev.bind (rncname_ev _ (extract_small s _ _ hs)) ?_
          cases ncB (s.extract 0 i) with
          | false => exact Ev.congr (fun k => if_neg (by simp)) (Ev.now _)
          | true =>
            refine Ev.congr (fun k => if_pos rfl) (Ev.bind (rncname_ev _ (extract_small s _ _ hs)) ?_)
            cases ncB (s.extract (i + 1) s.size) with
            | false => exact Ev.congr (fun k => if_neg (by simp)) (Ev.now _)
            | true => exact Ev.congr (fun k => if_pos rfl) (Ev.now _)
      · rw [if_neg hb] at h
        refine Ev.step (fun k => ?_) (ih (i + 1) (by omega) (by omega) ?_)
        · simp only [rubricref1_QName.l0]
          rw [if_pos (by omega), if_pos (by omega), if_neg (by rw [hbt]; exact fun h => hb ((bt58 b).1 h)), w64 (by omega) (by omega)]
          rfl
        · rw [h]
          by_cases h2 : Lib.indexByte (s.data.toList.drop (i + 1)) 58 < 0
          · rw [if_pos h2, if_pos h2, if_pos (by omega)]
          · rw [if_neg h2, if_neg h2, if_neg (by omega)]
            omega
    · exact ih i hi (by omega) h
theorem rqname_ev (s : ByteArray) (hs : s.size < 4398046511104) : Ev (fun k => rubricref1_QName.f k s) (qnS s) := by
  unfold rubricref1_QName.f
  refine rqname_go s hs s.size 0 (by omega) (by omega) ?_
  rw [List.drop_zero]
  have hr := indexByte_range s.data.toList 58
  by_cases h2 : Lib.indexByte s.data.toList 58 < 0
  · rw [if_pos h2]; omega
  · rw [if_neg h2]; omega
/-! ### the document's words and blanks -/
theorem rwhite_byte (b : UInt8) : rubricref1_White.f (wrap64 (b.toNat : Int)) = some (isW b) := by
  have := b.toNat_lt
  rw [w64 (by omega) (by omega)]
  unfold rubricref1_White.f
  rw [← isW_int b]
  repeat' split
  all_goals (congr 1; rw [Bool.eq_iff_iff]; first | (simp; done) | (simp; omega))
theorem mkB_app (a b : List UInt8) : mkB a ++ mkB b = mkB (a ++ b) := ba_ext (by simp [mkB])
theorem rwords_go (s : ByteArray) (hs : s.size < 4398046511104) (n : Nat) : ∀ (i : Nat) (w : List UInt8) (out : List ByteArray), i ≤ s.size → s.size - i ≤ n → out.length ≤ i → w.length ≤ i →
    Ev (fun k => rubricref1_Words.l0 k s out (mkB w) i) (out ++ (wordsS (s.data.toList.drop i) w).map mkB) := by
  induction n with
  | zero =>
    intro i w out hi hn ho hw
    obtain rfl : i = s.size := by omega
    have hd : s.data.toList.drop s.size = [] := List.drop_eq_nil_of_le (by rw [data_length]; exact Nat.le_refl _)
    rw [hd]
    simp only [wordsS]
    have hfin : ∀ o : List ByteArray, ∀ z : ByteArray, Ev (fun k => rubricref1_Words.l0 k s o z ((s.size + 1 : Nat) : Int)) o := fun o z =>
      Ev.step (f := fun _ => some o) (fun k => by simp only [rubricref1_Words.l0]; rw [if_neg (by omega)]) (Ev.now o)
    refine Ev.step (f := fun k => rubricref1_Words.j1 k s out (mkB w) s.size false) (fun k => ?_) ?_
    · simp only [rubricref1_Words.l0]
      rw [if_pos (by omega), if_neg (by omega)]
    · by_cases h : w = []
      · rw [if_pos h]
        simp only [List.map_nil, List.append_nil]
        refine Ev.step (fun k => ?_) (hfin out (mkB []))
        simp only [rubricref1_Words.j1]
        rw [if_neg (by simp), if_pos (by rw [toL, mkB_data]; exact h), w64 (by omega) (by omega)]
        rfl
      · rw [if_neg h]
        simp only [List.map_cons, List.map_nil]
        refine Ev.step (fun k => ?_) (hfin (out ++ [mkB w]) (mkB []))
        simp only [rubricref1_Words.j1]
        rw [if_neg (by simp), if_neg (by rw [toL, mkB_data]; exact h), if_pos (by omega), w64 (by omega) (by omega)]
        rfl
  | succ n ih =>
    intro i w out hi hn ho hw
    by_cases hlt : i < s.size
    · obtain ⟨b, hd, hbt⟩ := drop_byte s i hlt
      rw [hd]
      simp only [wordsS]
      refine Ev.step (f := fun k => rubricref1_Words.j1 k s out (mkB w) i (!isW b)) (fun k => ?_) ?_
      · simp only [rubricref1_Words.l0]
        rw [if_pos (by omega), if_pos (by omega), if_pos (by omega), hbt, rwhite_byte]
        rfl
      · cases hwb : isW b with
        | false =>
          rw [if_neg (by simp)]
          have := ih (i + 1) (w ++ [b]) out (by omega) (by omega) (by omega) (by simp only [List.length_append, List.length_cons, List.length_nil]; omega)
          have e1 : ((i : Int) + 1).toNat = i + 1 := by omega
          have ex : s.extract i (i + 1) = mkB [b] := by
            rw [extract_mkB, hd, show i + 1 - i = 1 by omega]
            rfl
          refine Ev.step (fun k => ?_) this
          simp only [rubricref1_Words.j1]
          rw [if_pos (by simp), w64 (by omega) (by omega), Int.toNat_natCast, e1, ex, if_pos (by omega), if_pos (by omega), if_pos (by omega), if_pos (by rw [mkB_size, mkB_size]; simp only [List.length_cons, List.length_nil]; omega), mkB_app]
          rfl
        | true =>
          rw [if_pos rfl]
          by_cases h : w = []
          · rw [if_pos h]
            have := ih (i + 1) [] out (by omega) (by omega) (by omega) (by simp)
            refine Ev.step (fun k => ?_) this
            simp only [rubricref1_Words.j1]
            rw [if_neg (by simp), if_pos (by rw [toL, mkB_data]; exact h), w64 (by omega) (by omega)]
            rfl
          · rw [if_neg h]
            have := ih (i + 1) [] (out ++ [mkB w]) (by omega) (by omega) (by simp only [List.length_append, List.length_cons, List.length_nil]; omega) (by simp)
            rw [List.append_assoc] at this
            rw [List.map_cons]
            refine Ev.step (fun k => ?_) this
            simp only [rubricref1_Words.j1]
            rw [if_neg (by simp), if_neg (by rw [toL, mkB_data]; exact h), if_pos (by omega), w64 (by omega) (by omega)]
            rfl
    · obtain rfl : i = s.size := by omega
      exact ih s.size w out hi (by omega) ho hw
theorem rwords_ev (s : ByteArray) (hs : s.size < 4398046511104) : Ev (fun k => rubricref1_Words.f k s) ((wordsB s).map mkB) := by
  have := rwords_go s hs s.size 0 [] [] (by omega) (by omega) (by simp) (by simp)
  simp only [List.drop_zero, List.nil_append, Int.natCast_zero] at this
  exact this
def behind (ws : List (List UInt8)) : List UInt8 := (ws.map (32 :: ·)).flatten
theorem join_behind (x : List UInt8) (r : List (List UInt8)) : Lib.join (x :: r) [32] = x ++ behind r := by
  induction r generalizing x with
  | nil => rw [Lib.join_one]; simp [behind]
  | cons y r ih => rw [join_cons2, ih]; simp [behind]
theorem rjoin_go (ws : List (List UInt8)) (hw : ws.length < 4611686018427387904) (n : Nat) : ∀ (i : Nat) (acc : List UInt8), 1 ≤ i → i ≤ ws.length → ws.length - i ≤ n → acc.length + (behind (ws.drop i)).length < 4398046511104 →
    Ev (fun k => rubricref1_Space0.l1 k (ws.map mkB) (mkB acc) i) (mkB (acc ++ behind (ws.drop i))) := by
  induction n with
  | zero =>
    intro i acc h1 hi hn hl
    have e : ws.drop i = [] := List.drop_eq_nil_of_le (by omega)
    rw [e]
    refine Ev.step (f := fun _ => some (mkB acc)) (fun k => ?_) (by simpa [behind] using Ev.now (mkB acc))
    simp only [rubricref1_Space0.l1, List.length_map]
    rw [if_neg (by omega)]
  | succ n ih =>
    intro i acc h1 hi hn hl
    by_cases hlt : i < ws.length
    · have hd : ws.drop i = ws[i] :: ws.drop (i + 1) := List.drop_eq_getElem_cons hlt
      have hr : rdOf ByteArray.empty (ws.map mkB) i = mkB ws[i] := by
        unfold rdOf
        simp [List.getD_eq_getElem?_getD, hlt]
      generalize ws[i] = x at hd hr
      have hb : behind (ws.drop i) = 32 :: (x ++ behind (ws.drop (i + 1))) := by rw [hd]; simp [behind]
      rw [hb] at hl ⊢
      simp only [List.length_cons, List.length_append] at hl
      have := ih (i + 1) (acc ++ [32] ++ x) (by omega) (by omega) (by omega) (by simp only [List.length_cons, List.length_append, List.length_nil]; omega)
      have e : acc ++ [32] ++ x ++ behind (ws.drop (i + 1)) = acc ++ 32 :: (x ++ behind (ws.drop (i + 1))) := by simp
      rw [e] at this
      refine Ev.step (fun k => ?_) this
      have e32 : (⟨#[32]⟩ : ByteArray) = mkB [32] := rfl
      simp only [rubricref1_Space0.l1, List.length_map]
      rw [if_pos (by omega), if_pos (by omega), if_pos (by rw [mkB_size]; omega), if_pos (by omega), hr, e32, mkB_app, mkB_app, if_pos (by rw [mkB_size, mkB_size]; simp only [List.length_cons, List.length_append, List.length_nil]; omega), w64 (by omega) (by omega)]
      rfl
    · exact ih i acc h1 hi (by omega) hl
theorem rspace3 (s : ByteArray) (hs : s.size < 4398046511104) : Ev (fun k => rubricref1_Space.f k s 3) (colS s) := by
  unfold rubricref1_Space.f rubricref1_Space0.f
  refine Ev.congr (fun k => by rw [if_neg (by omega), if_neg (by omega), if_pos rfl]) (Ev.bind (rwords_ev s hs) ?_)
  have h1 := wordsS_many s.data.toList []
  have h2 := wordsS_len s.data.toList []
  rw [data_length] at h1 h2
  unfold colS
  generalize hws : wordsB s = ws
  have hws' : wordsS s.data.toList [] = ws := hws
  rw [hws'] at h1 h2
  simp only [List.length_nil] at h2
  cases ws with
  | nil =>
    refine Ev.step (f := fun _ => some (mkB [])) (fun k => ?_) (Ev.now _)
    simp only [rubricref1_Space0.l1]
    rw [if_neg (by simp)]
    rfl
  | cons x r =>
    rw [join_behind] at h2 ⊢
    rw [List.length_append] at h2
    have := rjoin_go (x :: r) (by omega) (x :: r).length 1 x (by omega) (by simp only [List.length_cons]; omega) (by omega) (by simp only [List.drop_succ_cons, List.drop_zero]; omega)
    simp only [List.drop_succ_cons, List.drop_zero] at this
    refine Ev.step (fun k => ?_) this
    have hr : rdOf ByteArray.empty ((x :: r).map mkB) 0 = mkB x := rfl
    have e0 : (⟨#[]⟩ : ByteArray) = mkB [] := rfl
    simp only [rubricref1_Space0.l1, List.length_map, List.length_cons]
    rw [if_pos (by omega), if_neg (by omega), if_pos (by omega), hr, e0, mkB_app, if_pos (by rw [mkB_size, mkB_size]; simp only [List.length_nil]; omega), w64 (by omega) (by omega), List.nil_append]
    rfl
theorem rspace2 (s : ByteArray) (hs : s.size < 4398046511104) (k : Nat) : rubricref1_Space.f k s 2 = some (mkB (s.data.toList.map repU)) := by
  unfold rubricref1_Space.f
  rw [if_pos rfl, if_pos (by omega), rep_str]
theorem rspaceK (s : ByteArray) (how : Int) (h2 : how ≠ 2) (h3 : how ≠ 3) (k : Nat) : rubricref1_Space.f k s how = some s := by
  unfold rubricref1_Space.f rubricref1_Space0.f
  rw [if_neg h2, if_neg h2, if_neg h3]
def spS (s : ByteArray) (how : Int) : ByteArray := if how = 2 then mkB (s.data.toList.map repU) else if how = 3 then colS s else s
theorem space_ev (s : ByteArray) (hs : s.size < 4398046511104) (how : Int) : Ev (fun k => char_Space.f k s how) (spS s how) := by
  unfold spS
  by_cases h2 : how = 2
  · subst h2
    rw [if_pos rfl]
    exact ⟨0, fun k _ => space2 s hs k⟩
  rw [if_neg h2]
  by_cases h3 : how = 3
  · subst h3
    rw [if_pos rfl]
    exact space3 s hs
  rw [if_neg h3]
  exact ⟨0, fun k _ => spaceK s how h2 h3 k⟩
theorem rspace_ev (s : ByteArray) (hs : s.size < 4398046511104) (how : Int) : Ev (fun k => rubricref1_Space.f k s how) (spS s how) := by
  unfold spS
  by_cases h2 : how = 2
  · subst h2
    rw [if_pos rfl]
    exact ⟨0, fun k _ => rspace2 s hs k⟩
  rw [if_neg h2]
  by_cases h3 : how = 3
  · subst h3
    rw [if_pos rfl]
    exact rspace3 s hs
  rw [if_neg h3]
  exact ⟨0, fun k _ => rspaceK s how h2 h3 k⟩
theorem known_some : rubriclaw1_known.f 40 = some true := by decide +kernel
theorem known_ev : Ev (fun k => rubriclaw1_known.f k) true := Ev.of rubriclaw1_known.mono known_some
theorem names_go (s : ByteArray) (hs : s.size < 4398046511104) (how : Int) (n : Nat) : ∀ i : Nat, i ≤ 5 → 5 - i ≤ n → Ev (fun k => rubriclaw1_CharNames.l0 k s how i) true := by
  induction n with
  | zero =>
    intro i hi hn
    have hm := wordsS_many s.data.toList []
    rw [data_length] at hm
    refine Ev.step (f := fun k => (char_Space.f k s how).bind fun t235 => ((rubricref1_Space.f k s how).bind fun t236 => (if t235.toList = t236.toList then ((char_Words.f k s).bind fun t237 => ((rubricref1_Words.f k s).bind fun t240 => ((rubriclaw1_texts.f k t237 t240).bind fun t243 => (some t243)))) else (some false)))) (fun k => ?_) ?_
    · simp only [rubriclaw1_CharNames.l0]
      rw [if_neg (by omega)]
    · refine Ev.bind (space_ev s hs how) (Ev.bind (rspace_ev s hs how) (Ev.congr (fun k => if_pos rfl) ?_))
      refine Ev.bind (words_eq s (by omega)) (Ev.bind (rwords_ev s hs) ?_)
      exact Ev.bind (texts_same ((wordsB s).map mkB) (by rw [List.length_map]; unfold wordsB; omega)) (Ev.now true)
  | succ n ih =>
    intro i hi hn
    by_cases hlt : i < 5
    · refine Ev.step (f := fun k => (char_Space.f k s i).bind fun t235 => ((rubricref1_Space.f k s i).bind fun t236 => (if t235.toList = t236.toList then rubriclaw1_CharNames.l0 k s how ((i + 1 : Nat) : Int) else some false))) (fun k => ?_) ?_
      · simp only [rubriclaw1_CharNames.l0]
        rw [if_pos (by omega), w64 (by omega) (by omega)]
        rfl
      · exact Ev.bind (space_ev s hs i) (Ev.bind (rspace_ev s hs i) (Ev.congr (fun k => if_pos rfl) (ih (i + 1) (by omega) (by omega))))
    · exact ih i hi (by omega)
theorem CharNames : rubriclaw1_CharNames.Pure := by
  intro s how hs _
  refine Ev.rounds ?_
  unfold rubriclaw1_CharNames.f
  refine Ev.bind known_ev (Ev.congr (fun k => if_pos rfl) ?_)
  by_cases h : (s.size : Int) > 4000
  · exact Ev.congr (fun k => if_pos h) (Ev.now true)
  refine Ev.congr (fun k => if_neg h) ?_
  have hz : s.size < 4398046511104 := by omega
  refine Ev.bind (qname_ev s hz) (Ev.bind (rqname_ev s hz) ?_)
  refine Ev.congr (fun k => if_pos rfl) (Ev.congr (fun k => if_pos rfl) (Ev.congr (fun k => if_neg (by simp)) ?_))
  refine Ev.bind (name_ev s hz) (Ev.bind (rname_ev s hz) (Ev.congr (fun k => if_neg (by simp)) ?_))
  refine Ev.bind (ncname_ev s hz) (Ev.bind (rncname_ev s hz) (Ev.congr (fun k => if_neg (by simp)) ?_))
  refine Ev.bind (token_ev s hz) (Ev.bind (rtoken_ev s hz) ?_)
  refine Ev.step (fun k => ?_) (names_go s hz how 5 0 (by omega) (by omega))
  simp only [rubriclaw1_CharNames.j0]
  rw [if_neg (by simp)]
  rfl
end Go.Proofs.Ytjogllgkdnomiaa.Pure
