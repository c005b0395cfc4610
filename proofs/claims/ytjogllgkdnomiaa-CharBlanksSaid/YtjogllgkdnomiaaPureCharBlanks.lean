/- What is proved: for every text the law CharBlanks of layer 1 answers true: blanks that Collapse has put stay as they are, Replace keeps the length, the words are the same. Conditions: none beyond the row's own. -/
import Derived.Test.YtjogllgkdnomiaaPCharBlanksx5
set_option linter.unusedVariables false
set_option linter.unusedSimpArgs false
namespace Go.Proofs.Ytjogllgkdnomiaa.Pure
open Go.RowKit Go.Proofs.Ytjogllgkdnomiaa.PCharBlanks Go.Proofs.YtjogllgkdnomiaaW.PrintWords Go.Proofs.YtjogllgkdnomiaaW.PrintLast Go.Proofs.YtjogllgkdnomiaaW.PrintMore
/-! ### bytes, letters, classes: plain -/
def Bytes (l : List Int) : Prop := ∀ x ∈ l, 0 ≤ x ∧ x < 256
theorem Bytes.tail {c : Int} {l : List Int} (h : Bytes (c :: l)) : Bytes l := fun x hx => h x (List.mem_cons_of_mem _ hx)
theorem Bytes.head {c : Int} {l : List Int} (h : Bytes (c :: l)) : 0 ≤ c ∧ c < 256 := h c List.mem_cons_self
theorem Bytes.drop {l : List Int} (h : Bytes l) (n : Nat) : Bytes (l.drop n) := fun x hx => h x (List.mem_of_mem_drop hx)
theorem Bytes.take {l : List Int} (h : Bytes l) (n : Nat) : Bytes (l.take n) := fun x hx => h x (List.mem_of_mem_take hx)
theorem Bytes.append {l m : List Int} (h : Bytes l) (h' : Bytes m) : Bytes (l ++ m) := fun x hx => (List.mem_append.1 hx).elim (h x) (h' x)
theorem bytes_of (s : ByteArray) : Bytes (bytesOf s) := by
  intro x hx
  obtain ⟨b, _, rfl⟩ := List.mem_map.1 hx
  have := b.toNat_lt
  omega
theorem bytes_wf {l : List Int} (h : ∀ x ∈ l, (Lit.int .u8 x).wf = true) : Bytes l := by
  intro x hx
  have h1 := h x hx
  have hmin : IntKind.u8.min = 0 := rfl
  have hmax : IntKind.u8.max = 255 := rfl
  simp only [Lit.wf, Bool.and_eq_true, decide_eq_true_eq] at h1
  omega
theorem decode_eq {l : List Int} (h : Bytes l) : char_Decode.f l = some (decS l) := by
  unfold char_Decode.f
  rw [if_pos]
  rw [List.all_eq_true]
  intro x hx
  have := h.take 4 x hx
  unfold isByte
  simp; omega
theorem decS_ok {l : List Int} (h : Bytes l) : decS l = (-1, 0) ∨ (1 ≤ (decS l).2 ∧ (decS l).2 ≤ l.length ∧ (decS l).2 ≤ 4 ∧ 0 ≤ (decS l).1 ∧ (decS l).1 ≤ 1114111) := by
  match l, h with
  | [], h => exact .inl rfl
  | c :: t, h =>
    have hc := h.head
    have ht := h.tail
    simp only [decS]
    split
    · exact .inr ⟨by simp, by simp only [List.length_cons]; omega, by simp, hc.1, by simp only []; omega⟩
    · split
      · match t, ht with
        | [], _ => exact .inl rfl
        | a :: t1, ht =>
          have ha := ht.head
          simp only []
          repeat' split
          all_goals first | exact .inl rfl | (refine .inr ⟨by simp, by simp only [List.length_cons]; omega, by simp, ?_, ?_⟩ <;> (simp only []; omega))
      · split
        · match t, ht with
          | [], _ => exact .inl rfl
          | [a], _ => exact .inl rfl
          | a :: b :: t1, ht =>
            have ha := ht.head
            have hb := ht.tail.head
            simp only []
            repeat' split
            all_goals first | exact .inl rfl | (refine .inr ⟨by simp, by simp only [List.length_cons]; omega, by simp, ?_, ?_⟩ <;> (simp only []; omega))
        · split
          · match t, ht with
            | [], _ => exact .inl rfl
            | [a], _ => exact .inl rfl
            | [a, b], _ => exact .inl rfl
            | a :: b :: d :: t1, ht =>
              have ha := ht.head
              have hb := ht.tail.head
              have hd := ht.tail.tail.head
              simp only []
              repeat' split
              all_goals first | exact .inl rfl | (refine .inr ⟨by simp, by simp only [List.length_cons]; omega, by simp, ?_, ?_⟩ <;> (simp only []; omega))
          · exact .inl rfl
def charB (r : Int) : Bool := decide (r = 9 ∨ r = 10 ∨ r = 13 ∨ (32 ≤ r ∧ r ≤ 55295) ∨ (57344 ≤ r ∧ r ≤ 65533) ∨ (65536 ≤ r ∧ r ≤ 1114111))
theorem char_eq (r : Int) : char_Char.f r = some (charB r) := by
  unfold char_Char.f charB
  repeat' split
  all_goals (congr 1; rw [Bool.eq_iff_iff]; first | (simp; done) | (simp; omega))
theorem w64 {x : Int} (h0 : 0 ≤ x) (h1 : x < 4611686018427387904) : wrap64 x = x := by unfold wrap64; omega
theorem w64' {x : Int} (h0 : -4611686018427387904 < x) (h1 : x < 4611686018427387904) : wrap64 x = x := by unfold wrap64; omega
/-! ### words and blanks -/
def isW (b : UInt8) : Bool := b == 32 || b == 9 || b == 10 || b == 13
def mkB (l : List UInt8) : ByteArray := ⟨l.toArray⟩
def wordsS : List UInt8 → List UInt8 → List (List UInt8)
  | [], w => if w = [] then [] else [w]
  | b :: t, w => if isW b then (if w = [] then wordsS t [] else w :: wordsS t []) else wordsS t (w ++ [b])
theorem isW_int (b : UInt8) : decide ((b.toNat : Int) = 32 ∨ (b.toNat : Int) = 9 ∨ (b.toNat : Int) = 10 ∨ (b.toNat : Int) = 13) = isW b := by
  have key : ∀ n : Fin 256, decide (((UInt8.ofNat n.val).toNat : Int) = 32 ∨ ((UInt8.ofNat n.val).toNat : Int) = 9 ∨ ((UInt8.ofNat n.val).toNat : Int) = 10 ∨ ((UInt8.ofNat n.val).toNat : Int) = 13) = isW (UInt8.ofNat n.val) := by decide +kernel
  have := key ⟨b.toNat, b.toNat_lt⟩
  simpa using this
theorem ba_ext {a b : ByteArray} (h : a.data.toList = b.data.toList) : a = b := by
  obtain ⟨⟨la⟩⟩ := a
  obtain ⟨⟨lb⟩⟩ := b
  simp only at h
  rw [h]
theorem mkB_data (l : List UInt8) : (mkB l).data.toList = l := rfl
theorem mkB_eta (s : ByteArray) : mkB s.data.toList = s := by obtain ⟨⟨l⟩⟩ := s; rfl
theorem mkB_inj {a b : List UInt8} (h : mkB a = mkB b) : a = b := by
  have := congrArg (fun s => s.data.toList) h
  exact this
theorem extract_mkB (s : ByteArray) (a b : Nat) : s.extract a b = mkB ((s.data.toList.drop a).take (b - a)) := ba_ext (Lib.extract_data s a b)
theorem mkB_size (l : List UInt8) : (mkB l).size = l.length := by rw [← data_length]; rfl
theorem drop_byte (s : ByteArray) (i : Nat) (hi : i < s.size) : ∃ b : UInt8, s.data.toList.drop i = b :: s.data.toList.drop (i + 1) ∧ bt s i = (b.toNat : Int) := by
  have hl : i < s.data.toList.length := by rw [data_length]; exact hi
  refine ⟨s.data.toList[i], List.drop_eq_getElem_cons hl, ?_⟩
  unfold bt
  rw [dif_pos (by simpa using hi)]
  rfl
theorem take_grow (l : List UInt8) (a i : Nat) (b : UInt8) (hai : a ≤ i) (hd : l.drop i = b :: l.drop (i + 1)) : (l.drop a).take (i + 1 - a) = (l.drop a).take (i - a) ++ [b] := by
  have h1 : (l.drop a).drop (i - a) = b :: l.drop (i + 1) := by rw [List.drop_drop, show a + (i - a) = i by omega, hd]
  have h2 : i - a < (l.drop a).length := by
    have := congrArg List.length h1
    rw [List.length_drop, List.length_cons] at this
    omega
  rw [show i + 1 - a = (i - a) + 1 by omega, List.take_succ_eq_append_getElem h2]
  rw [List.drop_eq_getElem_cons h2] at h1
  rw [(List.cons.inj h1).1]
theorem white_byte (b : UInt8) : char_White.f (wrap32 (b.toNat : Int)) = some (isW b) := by
  have := b.toNat_lt
  rw [white_some (b.toNat : Int) (by omega) (by omega)]
  congr 1
  exact isW_int b
theorem extract_mkB' (s : ByteArray) (a : Nat) : s.extract a s.size = mkB ((s.data.toList.drop a).take (s.size - a)) := extract_mkB s a s.size
theorem words_go (s : ByteArray) (hs : s.size < 8796093022208) (n : Nat) : ∀ (i a : Nat) (out : List ByteArray), a ≤ i → i ≤ s.size → s.size - i ≤ n → out.length ≤ a →
    Ev (fun k => char_Words.l0 k s out a i) (out ++ (wordsS (s.data.toList.drop i) ((s.data.toList.drop a).take (i - a))).map mkB) := by
  induction n with
  | zero =>
    intro i a out hai hi hn ho
    obtain rfl : i = s.size := by omega
    have hd : s.data.toList.drop s.size = [] := List.drop_eq_nil_of_le (by rw [data_length]; exact Nat.le_refl _)
    rw [hd]
    simp only [wordsS]
    have hfin : ∀ o : List ByteArray, ∀ z : Int, Ev (fun k => char_Words.l0 k s o z ((s.size + 1 : Nat) : Int)) o := fun o z =>
      Ev.step (f := fun _ => some o) (fun k => by simp only [char_Words.l0]; rw [if_neg (by omega)]) (Ev.now o)
    refine Ev.step (f := fun k => char_Words.j1 k s out a s.size false) (fun k => ?_) ?_
    · simp only [char_Words.l0]
      rw [if_pos (by omega), if_neg (by omega)]
    · by_cases h : a < s.size
      · have hne : (s.data.toList.drop a).take (s.size - a) ≠ [] := by
          intro e
          have := congrArg List.length e
          rw [List.length_take, List.length_drop, data_length, List.length_nil] at this
          omega
        rw [if_neg hne, List.map_cons, List.map_nil, ← extract_mkB' s a]
        refine Ev.step (fun k => ?_) (hfin (out ++ [s.extract a s.size]) ((s.size + 1 : Nat) : Int))
        simp only [char_Words.j1]
        rw [if_neg (by simp), if_pos (by omega), if_pos (by omega), if_pos (by omega), if_pos (by omega), if_pos (by omega), w64 (by omega) (by omega)]
        rfl
      · have he : (s.data.toList.drop a).take (s.size - a) = [] := by
          rw [show s.size - a = 0 by omega]; rfl
        rw [if_pos he]
        simp only [List.map_nil, List.append_nil]
        refine Ev.step (fun k => ?_) (hfin out ((s.size + 1 : Nat) : Int))
        simp only [char_Words.j1]
        rw [if_neg (by simp), if_neg (by omega), w64 (by omega) (by omega)]
        rfl
  | succ n ih =>
    intro i a out hai hi hn ho
    by_cases hlt : i < s.size
    · obtain ⟨b, hd, hbt⟩ := drop_byte s i hlt
      rw [hd]
      simp only [wordsS]
      refine Ev.step (f := fun k => char_Words.j1 k s out a i (!isW b)) (fun k => ?_) ?_
      · simp only [char_Words.l0]
        rw [if_pos (by omega), if_pos (by omega), if_pos (by omega), hbt, white_byte]
        rfl
      · cases hw : isW b with
        | false =>
          rw [if_neg (by simp)]
          have := ih (i + 1) a out (by omega) (by omega) (by omega) ho
          rw [take_grow _ a i b hai hd] at this
          refine Ev.step (fun k => ?_) this
          simp only [char_Words.j1]
          rw [if_pos (by simp), w64 (by omega) (by omega)]
          rfl
        | true =>
          rw [if_pos rfl]
          by_cases h : a < i
          · have hne : (s.data.toList.drop a).take (i - a) ≠ [] := by
              intro e
              have := congrArg List.length e
              rw [List.length_take, List.length_drop, data_length, List.length_nil] at this
              omega
            rw [if_neg hne]
            have := ih (i + 1) (i + 1) (out ++ [s.extract a i]) (by omega) (by omega) (by omega) (by rw [List.length_append]; simp; omega)
            rw [Nat.sub_self, List.take_zero, List.append_assoc] at this
            rw [List.map_cons, ← extract_mkB]
            refine Ev.step (fun k => ?_) this
            simp only [char_Words.j1]
            rw [if_neg (by simp), if_pos (by omega), if_pos (by omega), if_pos (by omega), if_pos (by omega), if_pos (by omega), w64 (by omega) (by omega)]
            rfl
          · have he : (s.data.toList.drop a).take (i - a) = [] := by
              rw [show i - a = 0 by omega]; rfl
            rw [if_pos he]
            have := ih (i + 1) (i + 1) out (by omega) (by omega) (by omega) (by omega)
            rw [Nat.sub_self, List.take_zero] at this
            refine Ev.step (fun k => ?_) this
            simp only [char_Words.j1]
            rw [if_neg (by simp), if_neg (by omega), w64 (by omega) (by omega)]
            rfl
    · obtain rfl : i = s.size := by omega
      exact ih s.size a out hai hi (by omega) ho
def wordsB (s : ByteArray) : List (List UInt8) := wordsS s.data.toList []
theorem words_eq (s : ByteArray) (hs : s.size < 8796093022208) : Ev (fun k => char_Words.f k s) ((wordsB s).map mkB) := by
  have := words_go s hs s.size 0 0 [] (by omega) (by omega) (by omega) (by simp)
  simp only [List.drop_zero, Nat.sub_self, List.take_zero, List.nil_append, Int.natCast_zero] at this
  exact this
/-! ### the laws of words -/
def NoW (x : List UInt8) : Prop := ∀ b ∈ x, isW b = false
theorem wordsS_app (x : List UInt8) (hx : NoW x) (t : List UInt8) : ∀ w, wordsS (x ++ t) w = wordsS t (w ++ x) := by
  induction x with
  | nil => intro w; simp
  | cons b x ih =>
    intro w
    rw [List.cons_append]
    simp only [wordsS]
    rw [hx b List.mem_cons_self, if_neg (by simp), ih (fun c hc => hx c (List.mem_cons_of_mem _ hc)), List.append_assoc]
    rfl
theorem wordsS_good (B : List UInt8) : ∀ w, NoW w → ∀ x ∈ wordsS B w, x ≠ [] ∧ NoW x := by
  induction B with
  | nil =>
    intro w hw x hx
    simp only [wordsS] at hx
    split at hx
    · simp at hx
    · rename_i h
      obtain rfl : x = w := by simpa using hx
      exact ⟨h, hw⟩
  | cons b t ih =>
    intro w hw x hx
    simp only [wordsS] at hx
    split at hx
    · split at hx
      · exact ih [] (fun _ h => by simp at h) x hx
      · rename_i h
        rcases List.mem_cons.1 hx with rfl | hx
        · exact ⟨h, hw⟩
        · exact ih [] (fun _ h => by simp at h) x hx
    · rename_i h
      refine ih (w ++ [b]) (fun c hc => ?_) x hx
      rcases List.mem_append.1 hc with hc | hc
      · exact hw c hc
      · obtain rfl : c = b := by simpa using hc
        simpa using h
theorem join_cons2 (x y : List UInt8) (r : List (List UInt8)) : Lib.join (x :: y :: r) [32] = x ++ (32 :: Lib.join (y :: r) [32]) := by
  unfold Lib.join
  simp [List.intercalate]
theorem wordsS_join (ws : List (List UInt8)) (h : ∀ x ∈ ws, x ≠ [] ∧ NoW x) : wordsS (Lib.join ws [32]) [] = ws := by
  induction ws with
  | nil => rfl
  | cons x r ih =>
    have hx := h x List.mem_cons_self
    cases r with
    | nil =>
      rw [Lib.join_one]
      have := wordsS_app x hx.2 [] []
      rw [List.append_nil, List.nil_append] at this
      rw [this]
      simp only [wordsS]
      rw [if_neg hx.1]
    | cons y r =>
      rw [join_cons2, wordsS_app x hx.2, List.nil_append]
      simp only [wordsS]
      rw [if_pos (by decide), if_neg hx.1, ih (fun z hz => h z (List.mem_cons_of_mem _ hz))]
theorem join_len_cons (x : List UInt8) (r : List (List UInt8)) : (Lib.join (x :: r) [32]).length ≤ x.length + 1 + (Lib.join r [32]).length := by
  cases r with
  | nil => rw [Lib.join_one]; omega
  | cons y r => rw [join_cons2, List.length_append, List.length_cons]; omega
theorem wordsS_len (B : List UInt8) : ∀ w, (Lib.join (wordsS B w) [32]).length ≤ B.length + w.length := by
  induction B with
  | nil =>
    intro w
    simp only [wordsS]
    split
    · simp [Lib.join_nil]
    · rw [Lib.join_one]; simp
  | cons b t ih =>
    intro w
    simp only [wordsS]
    split
    · split
      · rename_i h
        have := ih []
        simp only [List.length_nil, List.length_cons] at this ⊢
        omega
      · have h1 := join_len_cons w (wordsS t [])
        have := ih []
        simp only [List.length_nil, List.length_cons] at this ⊢
        omega
    · have := ih (w ++ [b])
      rw [List.length_append] at this
      simp only [List.length_cons, List.length_nil] at this ⊢
      omega
theorem wordsS_many (B : List UInt8) : ∀ w, (wordsS B w).length ≤ B.length + 1 := by
  induction B with
  | nil => intro w; simp only [wordsS]; split <;> simp
  | cons b t ih =>
    intro w
    simp only [wordsS]
    have h1 := ih []
    have h2 := ih (w ++ [b])
    split
    · split
      · simp only [List.length_cons]; omega
      · simp only [List.length_cons]; omega
    · simp only [List.length_cons]; omega
/-- What is put by Replace. -/
def repU (b : UInt8) : UInt8 := if isW b then 32 else b
theorem wordsS_rep (B : List UInt8) : ∀ w, wordsS (B.map repU) w = wordsS B w := by
  induction B with
  | nil => intro w; rfl
  | cons b t ih =>
    intro w
    rw [List.map_cons]
    simp only [wordsS]
    cases h : isW b with
    | true =>
      have e : repU b = 32 := by unfold repU; rw [if_pos h]
      rw [e, if_pos (by decide), if_pos rfl, ih]
    | false =>
      have e : repU b = b := by unfold repU; rw [if_neg (by rw [h]; simp)]
      rw [e, h, if_neg (by simp), if_neg (by simp), ih]
theorem rep_str (s : ByteArray) : strOfNums (repS (bytesOf s)) = mkB (s.data.toList.map repU) := by
  refine ba_ext ?_
  rw [strOfNums_data, mkB_data]
  unfold repS bytesOf
  rw [List.map_map, List.map_map]
  refine List.map_congr_left fun b _ => ?_
  have h := isW_int b
  simp only [Function.comp]
  unfold repU
  by_cases hw : isW b = true
  · rw [if_pos (by rw [hw] at h; simpa using h), if_pos hw]; rfl
  · rw [if_neg (by simp only [Bool.not_eq_true] at hw; rw [hw] at h; simpa using h), if_neg hw]
    simp
def colS (s : ByteArray) : ByteArray := mkB (Lib.join (wordsB s) [32])
theorem map_mkB (l : List (List UInt8)) : (l.map mkB).map (fun x => x.data.toList) = l := by
  rw [List.map_map]
  exact (List.map_congr_left fun x _ => rfl).trans (List.map_id l)
theorem space3 (s : ByteArray) (hs : s.size < 4398046511104) : Ev (fun k => char_Space.f k s 3) (colS s) := by
  unfold char_Space.f
  have hw := words_eq s (by omega)
  refine Ev.congr (fun k => by rw [if_neg (by omega), if_pos rfl]) (Ev.bind hw ?_)
  have h1 := wordsS_many s.data.toList []
  have h2 := wordsS_len s.data.toList []
  rw [data_length] at h1 h2
  have hm := map_mkB (wordsB s)
  refine Ev.congr (fun k => ?_) (Ev.now (colS s))
  rw [if_pos (by rw [List.length_map]; unfold wordsB; omega)]
  rw [hm, if_pos (by unfold wordsB; simp only [List.length_nil] at h2; omega)]
  rfl
theorem space2 (s : ByteArray) (hs : s.size < 4398046511104) (k : Nat) : char_Space.f k s 2 = some (mkB (s.data.toList.map repU)) := by
  unfold char_Space.f
  rw [if_pos rfl, if_pos (by omega), rep_str]
theorem spaceK (s : ByteArray) (how : Int) (h2 : how ≠ 2) (h3 : how ≠ 3) (k : Nat) : char_Space.f k s how = some s := by
  unfold char_Space.f
  rw [if_neg h2, if_neg h3]
theorem colS_size (s : ByteArray) : (colS s).size ≤ s.size := by
  unfold colS wordsB
  rw [mkB_size]
  have h2 := wordsS_len s.data.toList []
  rw [data_length] at h2
  simpa using h2
theorem words_col (s : ByteArray) : wordsB (colS s) = wordsB s := by
  unfold colS
  show wordsS (mkB _).data.toList [] = _
  rw [mkB_data]
  exact wordsS_join _ (wordsS_good _ _ (fun _ h => by simp at h))
theorem words_rep (s : ByteArray) : wordsB (mkB (s.data.toList.map repU)) = wordsB s := by
  show wordsS (mkB _).data.toList [] = _
  rw [mkB_data]
  exact wordsS_rep _ _
theorem texts_go (l : List ByteArray) (hl : l.length < 4611686018427387904) (n : Nat) : ∀ i : Nat, i ≤ l.length → l.length - i ≤ n → Ev (fun k => rubriclaw1_texts.l0 k l l i) true := by
  induction n with
  | zero =>
    intro i hi hn
    refine Ev.step (f := fun _ => some true) (fun k => ?_) (Ev.now true)
    simp only [rubriclaw1_texts.l0]
    rw [if_neg (by omega)]
  | succ n ih =>
    intro i hi hn
    by_cases hlt : i < l.length
    · refine Ev.step (fun k => ?_) (ih (i + 1) (by omega) (by omega))
      simp only [rubriclaw1_texts.l0]
      rw [if_pos (by omega), if_pos (by omega), if_pos (by omega), if_pos trivial, w64 (by omega) (by omega)]
      rfl
    · refine Ev.step (f := fun _ => some true) (fun k => ?_) (Ev.now true)
      simp only [rubriclaw1_texts.l0]
      rw [if_neg (by omega)]
theorem texts_same (l : List ByteArray) (hl : l.length < 4611686018427387904) : Ev (fun k => rubriclaw1_texts.f k l l) true := by
  unfold rubriclaw1_texts.f
  refine Ev.congr (fun k => by rw [if_pos rfl]; rfl) (texts_go l hl l.length 0 (by omega) (by omega))
theorem known_some : rubriclaw1_known.f 40 = some true := by decide +kernel
theorem known_ev : Ev (fun k => rubriclaw1_known.f k) true := Ev.of rubriclaw1_known.mono known_some
theorem colS_col (s : ByteArray) : colS (colS s) = colS s := by
  show mkB (Lib.join (wordsB (colS s)) [32]) = _
  rw [words_col]
  rfl
theorem colS_rep (s : ByteArray) : colS (mkB (s.data.toList.map repU)) = colS s := by
  show mkB (Lib.join (wordsB (mkB (s.data.toList.map repU))) [32]) = _
  rw [words_rep]
  rfl
theorem CharBlanks : rubriclaw1_CharBlanks.Pure := by
  intro s hs
  refine Ev.rounds ?_
  unfold rubriclaw1_CharBlanks.f
  refine Ev.bind known_ev (Ev.congr (fun k => if_pos rfl) ?_)
  by_cases h : (s.size : Int) > 4000
  · exact Ev.congr (fun k => if_pos h) (Ev.now true)
  refine Ev.congr (fun k => if_neg h) ?_
  have hz : s.size < 4398046511104 := by omega
  have hc := colS_size s
  have hr : (mkB (s.data.toList.map repU)).size = s.size := by rw [mkB_size, List.length_map, data_length]
  refine Ev.bind (space3 s hz) (Ev.bind ⟨0, fun k _ => space2 s hz k⟩ (Ev.bind (space3 (colS s) (by omega)) ?_))
  refine Ev.congr (fun k => if_pos (by rw [colS_col])) ?_
  refine Ev.bind (space3 (mkB (s.data.toList.map repU)) (by omega)) ?_
  refine Ev.congr (fun k => if_pos (by rw [colS_rep])) ?_
  refine Ev.congr (fun k => if_pos (by rw [hr])) ?_
  refine Ev.bind (words_eq (colS s) (by omega)) (Ev.bind (words_eq s (by omega)) ?_)
  rw [words_col]
  have hm := wordsS_many s.data.toList []
  rw [data_length] at hm
  refine Ev.bind (texts_same ((wordsB s).map mkB) (by rw [List.length_map]; unfold wordsB; omega)) ?_
  refine Ev.congr (fun k => if_pos rfl) ?_
  refine Ev.bind ⟨0, fun k _ => spaceK s 1 (by decide) (by decide) k⟩ ?_
  have e : (s.toList == s.toList) = true := by simp
  rw [e]
  exact Ev.now true
end Go.Proofs.Ytjogllgkdnomiaa.Pure
