/- What is proved: for every number the law CharLetters of layer 1 answers true: its bytes are the reference's and are read as it, its classes are the reference's. Conditions: none beyond the row's own. -/
import Derived.Test.YtjogllgkdnomiaaPCharLettersx7
set_option linter.unusedVariables false
set_option linter.unusedSimpArgs false
namespace Go.Proofs.Ytjogllgkdnomiaa.Pure
open Go.RowKit Go.Proofs.Ytjogllgkdnomiaa.PCharLetters Go.Proofs.YtjogllgkdnomiaaW.PrintWords Go.Proofs.YtjogllgkdnomiaaW.PrintLast Go.Proofs.YtjogllgkdnomiaaW.PrintMore
/-! ### bytes, letters, classes: plain -/
def Bytes (l : List Int) : Prop := ∀ x ∈ l, 0 ≤ x ∧ x < 256
theorem Bytes.tail {c : Int} {l : List Int} (h : Bytes (c :: l)) : Bytes l := fun x hx => h x (List.mem_cons_of_mem _ hx)
theorem Bytes.head {c : Int} {l : List Int} (h : Bytes (c :: l)) : 0 ≤ c ∧ c < 256 := h c List.mem_cons_self
theorem Bytes.drop {l : List Int} (h : Bytes l) (n : Nat) : Bytes (l.drop n) := fun x hx => h x (List.mem_of_mem_drop hx)
theorem Bytes.take {l : List Int} (h : Bytes l) (n : Nat) : Bytes (l.take n) := fun x hx => h x (List.mem_of_mem_take hx)
theorem Bytes.append {l m : List Int} (h : Bytes l) (h' : Bytes m) : Bytes (l ++ m) := fun x hx => (List.mem_append.1 hx).elim (h x) (h' x)
theorem bytes_of (s : ByteArray) : Bytes (bytesOf s) := by
  intro x hx
  obtain ⟨b, _, rfl⟩ := List.mem_map.1 hx
  have := b.toNat_lt
  omega
theorem bytes_wf {l : List Int} (h : ∀ x ∈ l, (Lit.int .u8 x).wf = true) : Bytes l := by
  intro x hx
  have h1 := h x hx
  have hmin : IntKind.u8.min = 0 := rfl
  have hmax : IntKind.u8.max = 255 := rfl
  simp only [Lit.wf, Bool.and_eq_true, decide_eq_true_eq] at h1
  omega
theorem decode_eq {l : List Int} (h : Bytes l) : char_Decode.f l = some (decS l) := by
  unfold char_Decode.f
  rw [if_pos]
  rw [List.all_eq_true]
  intro x hx
  have := h.take 4 x hx
  unfold isByte
  simp; omega
theorem decS_ok {l : List Int} (h : Bytes l) : decS l = (-1, 0) ∨ (1 ≤ (decS l).2 ∧ (decS l).2 ≤ l.length ∧ (decS l).2 ≤ 4 ∧ 0 ≤ (decS l).1 ∧ (decS l).1 ≤ 1114111) := by
  match l, h with
  | [], h => exact .inl rfl
  | c :: t, h =>
    have hc := h.head
    have ht := h.tail
    simp only [decS]
    split
    · exact .inr ⟨by simp, by simp only [List.length_cons]; omega, by simp, hc.1, by simp only []; omega⟩
    · split
      · match t, ht with
        | [], _ => exact .inl rfl
        | a :: t1, ht =>
          have ha := ht.head
          simp only []
          repeat' split
          all_goals first | exact .inl rfl | (refine .inr ⟨by simp, by simp only [List.length_cons]; omega, by simp, ?_, ?_⟩ <;> (simp only []; omega))
      · split
        · match t, ht with
          | [], _ => exact .inl rfl
          | [a], _ => exact .inl rfl
          | a :: b :: t1, ht =>
            have ha := ht.head
            have hb := ht.tail.head
            simp only []
            repeat' split
            all_goals first | exact .inl rfl | (refine .inr ⟨by simp, by simp only [List.length_cons]; omega, by simp, ?_, ?_⟩ <;> (simp only []; omega))
        · split
          · match t, ht with
            | [], _ => exact .inl rfl
            | [a], _ => exact .inl rfl
            | [a, b], _ => exact .inl rfl
            | a :: b :: d :: t1, ht =>
              have ha := ht.head
              have hb := ht.tail.head
              have hd := ht.tail.tail.head
              simp only []
              repeat' split
              all_goals first | exact .inl rfl | (refine .inr ⟨by simp, by simp only [List.length_cons]; omega, by simp, ?_, ?_⟩ <;> (simp only []; omega))
          · exact .inl rfl
def charB (r : Int) : Bool := decide (r = 9 ∨ r = 10 ∨ r = 13 ∨ (32 ≤ r ∧ r ≤ 55295) ∨ (57344 ≤ r ∧ r ≤ 65533) ∨ (65536 ≤ r ∧ r ≤ 1114111))
theorem char_eq (r : Int) : char_Char.f r = some (charB r) := by
  unfold char_Char.f charB
  repeat' split
  all_goals (congr 1; rw [Bool.eq_iff_iff]; first | (simp; done) | (simp; omega))
theorem w64 {x : Int} (h0 : 0 ≤ x) (h1 : x < 4611686018427387904) : wrap64 x = x := by unfold wrap64; omega
theorem w64' {x : Int} (h0 : -4611686018427387904 < x) (h1 : x < 4611686018427387904) : wrap64 x = x := by unfold wrap64; omega
theorem rchar_eq (r : Int) : rubricref1_Char.f r = some (charB r) := by
  unfold rubricref1_Char.f charB
  repeat' split
  all_goals (congr 1; rw [Bool.eq_iff_iff]; first | (simp; done) | (simp; omega))
/-! ### classes -/
def startB (r : Int) : Bool := decide ((65 ≤ r ∧ r ≤ 90) ∨ (97 ≤ r ∧ r ≤ 122) ∨ r = 95 ∨ r = 58 ∨ (192 ≤ r ∧ r ≠ 215 ∧ r ≠ 247 ∧ charB r = true))
def partB (r : Int) : Bool := decide (startB r = true ∨ (48 ≤ r ∧ r ≤ 57) ∨ r = 45 ∨ r = 46 ∨ r = 183)
theorem start_eq (k : Nat) (r : Int) : char_Start.f (k + 2) r = some (startB r) := by
  unfold char_Start.f startB
  simp only [char_Start.j0, char_Start.j1, char_eq, Option.bind_some, decide_eq_true_eq]
  cases hc : charB r
  all_goals
    repeat' split
    all_goals first | contradiction | rfl | (congr 1; rw [Bool.eq_iff_iff]; simp only [decide_eq_true_eq, beq_iff_eq, reduceCtorEq, true_iff, false_iff, and_true, and_false, or_false, false_or, true_or, or_true, not_true, not_false_iff, ne_eq]; omega) | (congr 1; rw [Bool.eq_iff_iff]; simp only [decide_eq_true_eq, beq_iff_eq, reduceCtorEq, true_iff, false_iff, and_true, and_false, or_false, false_or, true_or, or_true, not_true, not_false_iff, ne_eq]; done) | (congr 1; rw [Bool.eq_iff_iff]; omega) | (congr 1; simp; done)
theorem start_ev (r : Int) : Ev (fun k => char_Start.f k r) (startB r) := ⟨2, fun k hk => by obtain ⟨j, rfl⟩ : ∃ j, k = j + 2 := ⟨k - 2, by omega⟩; exact start_eq j r⟩
theorem part_eq (k : Nat) (r : Int) : char_Part.f (k + 2) r = some (partB r) := by
  unfold char_Part.f partB
  rw [start_eq]
  simp only [Option.bind_some]
  cases hc : startB r
  all_goals
    repeat' split
    all_goals first | contradiction | rfl | (congr 1; rw [Bool.eq_iff_iff]; simp only [decide_eq_true_eq, beq_iff_eq, reduceCtorEq, true_iff, false_iff, and_true, and_false, or_false, false_or, true_or, or_true, not_true, not_false_iff, ne_eq]; omega) | (congr 1; rw [Bool.eq_iff_iff]; simp only [decide_eq_true_eq, beq_iff_eq, reduceCtorEq, true_iff, false_iff, and_true, and_false, or_false, false_or, true_or, or_true, not_true, not_false_iff, ne_eq]; done) | (congr 1; rw [Bool.eq_iff_iff]; omega) | (congr 1; simp; done)
theorem part_ev (r : Int) : Ev (fun k => char_Part.f k r) (partB r) := ⟨2, fun k hk => by obtain ⟨j, rfl⟩ : ∃ j, k = j + 2 := ⟨k - 2, by omega⟩; exact part_eq j r⟩
theorem rstart_eq (r : Int) : rubricref1_Start.f r = some (startB r) := by
  unfold rubricref1_Start.f startB
  simp only [rchar_eq, Option.bind_some]
  cases hc : charB r
  all_goals
    repeat' split
    all_goals first | contradiction | rfl | (congr 1; rw [Bool.eq_iff_iff]; simp only [decide_eq_true_eq, beq_iff_eq, reduceCtorEq, true_iff, false_iff, and_true, and_false, or_false, false_or, true_or, or_true, not_true, not_false_iff, ne_eq]; omega) | (congr 1; rw [Bool.eq_iff_iff]; simp only [decide_eq_true_eq, beq_iff_eq, reduceCtorEq, true_iff, false_iff, and_true, and_false, or_false, false_or, true_or, or_true, not_true, not_false_iff, ne_eq]; done) | (congr 1; rw [Bool.eq_iff_iff]; omega) | (congr 1; simp; done)
theorem rpart_eq (r : Int) : rubricref1_Part.f r = some (partB r) := by
  unfold rubricref1_Part.f partB
  rw [rstart_eq]
  simp only [Option.bind_some]
  cases hc : startB r
  all_goals
    repeat' split
    all_goals first | contradiction | rfl | (congr 1; rw [Bool.eq_iff_iff]; simp only [decide_eq_true_eq, beq_iff_eq, reduceCtorEq, true_iff, false_iff, and_true, and_false, or_false, false_or, true_or, or_true, not_true, not_false_iff, ne_eq]; omega) | (congr 1; rw [Bool.eq_iff_iff]; simp only [decide_eq_true_eq, beq_iff_eq, reduceCtorEq, true_iff, false_iff, and_true, and_false, or_false, false_or, true_or, or_true, not_true, not_false_iff, ne_eq]; done) | (congr 1; rw [Bool.eq_iff_iff]; omega) | (congr 1; simp; done)
/-! ### Encode, and Decode behind it -/
theorem encS_bytes (r : Int) : Bytes (encS r) := by
  intro x hx
  unfold encS at hx
  split at hx
  · simp at hx
  · split at hx
    · simp at hx; omega
    · split at hx
      · simp at hx; omega
      · split at hx
        · simp at hx; omega
        · simp at hx; omega
theorem decS_enc (r : Int) (t : List Int) (hne : encS r ≠ []) : decS (encS r ++ t) = (r, ((encS r).length : Int)) := by
  unfold encS at *
  split
  · rename_i h; rw [if_pos h] at hne; exact absurd rfl hne
  · split
    · simp only [List.cons_append, List.nil_append, decS]
      rw [if_pos (by omega)]
      rfl
    · split
      · simp only [List.cons_append, List.nil_append, decS]
        rw [if_neg (by omega), if_pos (by omega), if_pos (by omega), if_neg (by omega)]
        exact Prod.ext (by simp only []; omega) rfl
      · split
        · simp only [List.cons_append, List.nil_append, decS]
          rw [if_neg (by omega), if_neg (by omega), if_pos (by omega), if_pos (by omega), if_pos (by omega), if_neg (by omega), if_neg (by omega)]
          exact Prod.ext (by simp only []; omega) rfl
        · simp only [List.cons_append, List.nil_append, decS]
          rw [if_neg (by omega), if_neg (by omega), if_neg (by omega), if_pos (by omega), if_pos (by omega), if_pos (by omega), if_pos (by omega), if_neg (by omega), if_neg (by omega)]
          exact Prod.ext (by simp only []; omega) rfl
theorem bits64_and63 (x : Int) (h0 : 0 ≤ x) (h1 : x < 4611686018427387904) : Go.bits .and .i64 x 63 = x % 64 := bits_mask .i64 63 (by decide) (fun n h h' => IntWalk.i64_in n (by omega)) 6 (by decide) x h0 (by omega)
theorem bits64_or (c x : Int) (i : Nat) (hc : 0 ≤ c) (hc1 : c < 1024) (hm : c % 2 ^ i = 0) (h0 : 0 ≤ x) (h1 : x < 2 ^ i) (hx : x < 1024) : Go.bits .or .i64 c x = c + x :=
  bits_join .i64 63 (by decide) (fun n h h' => IntWalk.i64_in n (by omega)) i c x hc hm (by omega) h0 h1 (by omega)
theorem renc_eq (k : Nat) (r : Int) : rubricref1_Encode.f (k + 1) r = some (encS r) := by
  have key : ∀ b : Bool, (b = true ↔ r < 0 ∨ 1114111 < r ∨ (55296 ≤ r ∧ r ≤ 57343)) → rubricref1_Encode.j0 (k + 1) r b = some (encS r) := by
    intro b hb
    simp only [rubricref1_Encode.j0]
    unfold encS
    by_cases h : r < 0 ∨ 1114111 < r ∨ (55296 ≤ r ∧ r ≤ 57343)
    · rw [if_pos (hb.2 h), if_pos h]
    · rw [if_neg (fun e => h (hb.1 e)), if_neg h]
      by_cases h1 : r < 128
      · rw [if_pos h1, if_pos h1]
        have : r % 256 = r := by omega
        rw [this]
      rw [if_neg h1, if_neg h1]
      by_cases h2 : r < 2048
      · rw [if_pos h2, if_pos h2, bits64_or 192 (r / 64) 5 (by omega) (by omega) (by decide) (by omega) (by omega) (by omega), bits64_and63 r (by omega) (by omega), bits64_or 128 (r % 64) 6 (by omega) (by omega) (by decide) (by omega) (by omega) (by omega)]
        congr 1
        simp only [List.cons.injEq, and_true]
        omega
      rw [if_neg h2, if_neg h2]
      by_cases h3 : r < 65536
      · rw [if_pos h3, if_pos h3, bits64_or 224 (r / 4096) 4 (by omega) (by omega) (by decide) (by omega) (by omega) (by omega), bits64_and63 r (by omega) (by omega), bits64_and63 (r / 64) (by omega) (by omega), bits64_or 128 (r % 64) 6 (by omega) (by omega) (by decide) (by omega) (by omega) (by omega), bits64_or 128 (r / 64 % 64) 6 (by omega) (by omega) (by decide) (by omega) (by omega) (by omega)]
        congr 1
        simp only [List.cons.injEq, and_true]
        omega
      rw [if_neg h3, if_neg h3, bits64_or 240 (r / 262144) 3 (by omega) (by omega) (by decide) (by omega) (by omega) (by omega), bits64_and63 r (by omega) (by omega), bits64_and63 (r / 64) (by omega) (by omega), bits64_and63 (r / 4096) (by omega) (by omega), bits64_or 128 (r % 64) 6 (by omega) (by omega) (by decide) (by omega) (by omega) (by omega), bits64_or 128 (r / 64 % 64) 6 (by omega) (by omega) (by decide) (by omega) (by omega) (by omega), bits64_or 128 (r / 4096 % 64) 6 (by omega) (by omega) (by decide) (by omega) (by omega) (by omega)]
      congr 1
      simp only [List.cons.injEq, and_true]
      omega
  unfold rubricref1_Encode.f
  by_cases h1 : r < 0
  · rw [if_pos h1]; exact key true (by simp; omega)
  · rw [if_neg h1]
    by_cases h2 : r > 1114111
    · rw [if_pos h2]; exact key true (by simp; omega)
    · rw [if_neg h2]
      by_cases h3 : r ≥ 55296
      · rw [if_pos h3]; exact key _ (by simp; omega)
      · rw [if_neg h3]; exact key false (by simp; omega)
theorem renc_ev (r : Int) : Ev (fun k => rubricref1_Encode.f k r) (encS r) := ⟨1, fun k hk => by obtain ⟨j, rfl⟩ : ∃ j, k = j + 1 := ⟨k - 1, by omega⟩; exact renc_eq j r⟩
theorem known_some : rubriclaw1_known.f 40 = some true := by decide +kernel
theorem known_ev : Ev (fun k => rubriclaw1_known.f k) true := Ev.of rubriclaw1_known.mono known_some
theorem white_all (r : Int) : char_White.f r = some (decide (r = 32 ∨ r = 9 ∨ r = 10 ∨ r = 13)) := by
  unfold char_White.f
  repeat' split
  all_goals (congr 1; rw [Bool.eq_iff_iff]; first | (simp; done) | (simp; omega))
theorem rwhite_all (r : Int) : rubricref1_White.f r = some (decide (r = 32 ∨ r = 9 ∨ r = 10 ∨ r = 13)) := by
  unfold rubricref1_White.f
  repeat' split
  all_goals (congr 1; rw [Bool.eq_iff_iff]; first | (simp; done) | (simp; omega))
theorem CharLetters : rubriclaw1_CharLetters.Pure := by
  intro r hwf
  have hr : -2147483648 ≤ r ∧ r ≤ 2147483647 := by
    have hmin : IntKind.i32.min = -2147483648 := rfl
    have hmax : IntKind.i32.max = 2147483647 := rfl
    simp only [Lit.wf, Bool.and_eq_true, decide_eq_true_eq] at hwf
    omega
  refine Ev.rounds ?_
  unfold rubriclaw1_CharLetters.f
  have hw : wrap64 r = r := w64' (by omega) (by omega)
  rw [hw]
  refine Ev.bind known_ev (Ev.congr (fun k => if_pos rfl) ?_)
  refine Ev.bind ⟨0, fun k _ => rfl⟩ (Ev.bind (renc_ev r) (Ev.congr (fun k => if_pos rfl) ?_))
  refine Ev.bind ⟨0, fun k _ => char_eq r⟩ (Ev.bind ⟨0, fun k _ => rchar_eq r⟩ (Ev.congr (fun k => if_neg (by simp)) ?_))
  refine Ev.bind (start_ev r) (Ev.bind ⟨0, fun k _ => rstart_eq r⟩ (Ev.congr (fun k => if_neg (by simp)) ?_))
  refine Ev.bind (part_ev r) (Ev.bind ⟨0, fun k _ => rpart_eq r⟩ (Ev.congr (fun k => if_neg (by simp)) ?_))
  refine Ev.bind ⟨0, fun k _ => white_all r⟩ (Ev.bind ⟨0, fun k _ => rwhite_all r⟩ ?_)
  have e : (decide (r = 32 ∨ r = 9 ∨ r = 10 ∨ r = 13) != decide (r = 32 ∨ r = 9 ∨ r = 10 ∨ r = 13)) = false := by simp
  rw [e]
  have hlen : (encS r).length ≤ 4 := by
    unfold encS
    repeat' split
    all_goals simp
  by_cases hn : (encS r).length = 0
  · refine Ev.step (f := fun _ => some true) (fun k => ?_) (Ev.now true)
    simp only [rubriclaw1_CharLetters.j0]
    rw [if_neg (by simp), if_pos (by omega)]
  · refine Ev.step (f := fun _ => some true) (fun k => ?_) (Ev.now true)
    simp only [rubriclaw1_CharLetters.j0]
    rw [if_neg (by simp), if_neg (by omega)]
    simp only [Option.bind_some, List.nil_append, List.length_nil]
    rw [if_pos (by omega), if_pos (by omega), decode_eq ((encS_bytes r).append (by intro x hx; simp at hx; omega))]
    simp only [Option.bind_some]
    have hne : encS r ≠ [] := fun h => hn (by rw [h]; rfl)
    rw [decS_enc r [122] hne, if_pos rfl]
    simp
end Go.Proofs.Ytjogllgkdnomiaa.Pure
