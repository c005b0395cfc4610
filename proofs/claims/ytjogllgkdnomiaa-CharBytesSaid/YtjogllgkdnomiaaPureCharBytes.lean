/- What is proved: for every row of bytes the law CharBytes of layer 1 answers true: the program's Decode, Right and Count agree with the reference's. Conditions: none beyond the row's own. -/
import Derived.Test.YtjogllgkdnomiaaPCharBytesx7
set_option linter.unusedVariables false
set_option linter.unusedSimpArgs false
namespace Go.Proofs.Ytjogllgkdnomiaa.Pure
open Go.RowKit Go.Proofs.Ytjogllgkdnomiaa.PCharBytes Go.Proofs.YtjogllgkdnomiaaW.PrintWords Go.Proofs.YtjogllgkdnomiaaW.PrintLast Go.Proofs.YtjogllgkdnomiaaW.PrintMore
/-! ### bytes, letters, classes: plain -/
def Bytes (l : List Int) : Prop := ∀ x ∈ l, 0 ≤ x ∧ x < 256
theorem Bytes.tail {c : Int} {l : List Int} (h : Bytes (c :: l)) : Bytes l := fun x hx => h x (List.mem_cons_of_mem _ hx)
theorem Bytes.head {c : Int} {l : List Int} (h : Bytes (c :: l)) : 0 ≤ c ∧ c < 256 := h c List.mem_cons_self
theorem Bytes.drop {l : List Int} (h : Bytes l) (n : Nat) : Bytes (l.drop n) := fun x hx => h x (List.mem_of_mem_drop hx)
theorem Bytes.take {l : List Int} (h : Bytes l) (n : Nat) : Bytes (l.take n) := fun x hx => h x (List.mem_of_mem_take hx)
theorem Bytes.append {l m : List Int} (h : Bytes l) (h' : Bytes m) : Bytes (l ++ m) := fun x hx => (List.mem_append.1 hx).elim (h x) (h' x)
theorem bytes_of (s : ByteArray) : Bytes (bytesOf s) := by
  intro x hx
  obtain ⟨b, _, rfl⟩ := List.mem_map.1 hx
  have := b.toNat_lt
  omega
theorem bytes_wf {l : List Int} (h : ∀ x ∈ l, (Lit.int .u8 x).wf = true) : Bytes l := by
  intro x hx
  have h1 := h x hx
  have hmin : IntKind.u8.min = 0 := rfl
  have hmax : IntKind.u8.max = 255 := rfl
  simp only [Lit.wf, Bool.and_eq_true, decide_eq_true_eq] at h1
  omega
theorem decode_eq {l : List Int} (h : Bytes l) : char_Decode.f l = some (decS l) := by
  unfold char_Decode.f
  rw [if_pos]
  rw [List.all_eq_true]
  intro x hx
  have := h.take 4 x hx
  unfold isByte
  simp; omega
theorem decS_ok {l : List Int} (h : Bytes l) : decS l = (-1, 0) ∨ (1 ≤ (decS l).2 ∧ (decS l).2 ≤ l.length ∧ (decS l).2 ≤ 4 ∧ 0 ≤ (decS l).1 ∧ (decS l).1 ≤ 1114111) := by
  match l, h with
  | [], h => exact .inl rfl
  | c :: t, h =>
    have hc := h.head
    have ht := h.tail
    simp only [decS]
    split
    · exact .inr ⟨by simp, by simp only [List.length_cons]; omega, by simp, hc.1, by simp only []; omega⟩
    · split
      · match t, ht with
        | [], _ => exact .inl rfl
        | a :: t1, ht =>
          have ha := ht.head
          simp only []
          repeat' split
          all_goals first | exact .inl rfl | (refine .inr ⟨by simp, by simp only [List.length_cons]; omega, by simp, ?_, ?_⟩ <;> (simp only []; omega))
      · split
        · match t, ht with
          | [], _ => exact .inl rfl
          | [a], _ => exact .inl rfl
          | a :: b :: t1, ht =>
            have ha := ht.head
            have hb := ht.tail.head
            simp only []
            repeat' split
            all_goals first | exact .inl rfl | (refine .inr ⟨by simp, by simp only [List.length_cons]; omega, by simp, ?_, ?_⟩ <;> (simp only []; omega))
        · split
          · match t, ht with
            | [], _ => exact .inl rfl
            | [a], _ => exact .inl rfl
            | [a, b], _ => exact .inl rfl
            | a :: b :: d :: t1, ht =>
              have ha := ht.head
              have hb := ht.tail.head
              have hd := ht.tail.tail.head
              simp only []
              repeat' split
              all_goals first | exact .inl rfl | (refine .inr ⟨by simp, by simp only [List.length_cons]; omega, by simp, ?_, ?_⟩ <;> (simp only []; omega))
          · exact .inl rfl
def charB (r : Int) : Bool := decide (r = 9 ∨ r = 10 ∨ r = 13 ∨ (32 ≤ r ∧ r ≤ 55295) ∨ (57344 ≤ r ∧ r ≤ 65533) ∨ (65536 ≤ r ∧ r ≤ 1114111))
theorem char_eq (r : Int) : char_Char.f r = some (charB r) := by
  unfold char_Char.f charB
  repeat' split
  all_goals (congr 1; rw [Bool.eq_iff_iff]; first | (simp; done) | (simp; omega))
theorem w64 {x : Int} (h0 : 0 ≤ x) (h1 : x < 4611686018427387904) : wrap64 x = x := by unfold wrap64; omega
theorem w64' {x : Int} (h0 : -4611686018427387904 < x) (h1 : x < 4611686018427387904) : wrap64 x = x := by unfold wrap64; omega
/-! ### the reference's Decode -/
theorem bits_tab (c : Int) (h0 : 0 ≤ c) (h1 : c < 256) : Go.bits .and .i64 c 224 = c / 32 * 32 ∧ Go.bits .and .i64 c 240 = c / 16 * 16 ∧ Go.bits .and .i64 c 248 = c / 8 * 8 ∧ Go.bits .and .i64 c 31 = c % 32 ∧ Go.bits .and .i64 c 15 = c % 16 ∧ Go.bits .and .i64 c 7 = c % 8 ∧ Go.bits .and .u8 c 192 = c / 64 * 64 ∧ Go.bits .and .u8 c 63 = c % 64 := by
  obtain ⟨n, rfl⟩ := Int.eq_ofNat_of_zero_le h0
  have hn : n < 256 := by omega
  have key : ∀ m : Fin 256, Go.bits .and .i64 (m.val : Int) 224 = (m.val : Int) / 32 * 32 ∧ Go.bits .and .i64 (m.val : Int) 240 = (m.val : Int) / 16 * 16 ∧ Go.bits .and .i64 (m.val : Int) 248 = (m.val : Int) / 8 * 8 ∧ Go.bits .and .i64 (m.val : Int) 31 = (m.val : Int) % 32 ∧ Go.bits .and .i64 (m.val : Int) 15 = (m.val : Int) % 16 ∧ Go.bits .and .i64 (m.val : Int) 7 = (m.val : Int) % 8 ∧ Go.bits .and .u8 (m.val : Int) 192 = (m.val : Int) / 64 * 64 ∧ Go.bits .and .u8 (m.val : Int) 63 = (m.val : Int) % 64 := by decide +kernel
  exact key ⟨n, hn⟩
theorem or_join (x t : Int) (hx : 0 ≤ x) (hx1 : x < 33554432) (ht : 0 ≤ t) (ht1 : t < 64) : Go.bits .or .i64 (wrap64 (x * 64)) t = x * 64 + t := by
  rw [w64 (by omega) (by omega)]
  exact bits_join .i64 63 (by decide) (fun n h h' => IntWalk.i64_in n (by omega)) 6 (x * 64) t (by omega) (by omega) (by omega) ht (by omega) (by omega)
theorem rtail_at (l : List Int) (h : Bytes l) (i : Nat) (x : Int) (hx : l[i]? = some x) : rubricref1_tail.f l i = some (if x / 64 = 2 then x % 64 else -1) := by
  have hi := (List.getElem?_eq_some_iff.1 hx).1
  have hb := h x (List.mem_of_getElem? hx)
  have hr : rd l (i : Int) = x := by simp [rd, hx]
  obtain ⟨_, _, _, _, _, _, h7, h8⟩ := bits_tab x hb.1 hb.2
  unfold rubricref1_tail.f
  rw [if_neg (by omega), if_pos (by omega), if_pos (by omega), hr, h7, h8]
  by_cases h2 : x / 64 = 2
  · rw [if_pos (by omega), if_pos h2, w64 (by omega) (by omega)]
  · rw [if_neg (by omega), if_neg h2]
theorem rtail_out (l : List Int) (i : Nat) (hi : l.length ≤ i) : rubricref1_tail.f l i = some (-1) := by
  unfold rubricref1_tail.f
  rw [if_pos (by omega)]
theorem rdec_end (k : Nat) (l : List Int) (n x least : Int) : rubricref1_Decode.l0 (k + 1) l n x least n = some (if x < least then (-1, 0) else if x > 1114111 then (-1, 0) else if 55296 ≤ x ∧ x ≤ 57343 then (-1, 0) else (x, n)) := by
  simp only [rubricref1_Decode.l0]
  rw [if_neg (by omega)]
  by_cases h1 : x < least
  · rw [if_pos h1, if_pos h1]
  · rw [if_neg h1, if_neg h1]
    by_cases h2 : x > 1114111
    · rw [if_pos h2, if_pos h2]
    · rw [if_neg h2, if_neg h2]
      by_cases h3 : x ≥ 55296
      · rw [if_pos h3]
        by_cases h4 : x ≤ 57343
        · rw [if_pos h4, if_pos (by omega)]
        · rw [if_neg h4, if_neg (by omega)]
      · rw [if_neg h3, if_neg (by omega)]
theorem rdec_go (k : Nat) (l : List Int) (h : Bytes l) (n x least : Int) (i : Nat) (y : Int) (hi : (i : Int) < n) (hi' : i < 4) (hx : 0 ≤ x) (hx1 : x < 33554432) (hy : l[i]? = some y) (h2 : y / 64 = 2) :
    rubricref1_Decode.l0 (k + 1) l n x least i = rubricref1_Decode.l0 k l n (x * 64 + y % 64) least ((i + 1 : Nat) : Int) := by
  have hb := h y (List.mem_of_getElem? hy)
  simp only [rubricref1_Decode.l0]
  rw [if_pos hi, rtail_at l h i y hy]
  simp only [Option.bind_some]
  rw [if_pos h2, if_neg (by omega), or_join x (y % 64) hx hx1 (by omega) (by omega), w64 (by omega) (by omega)]
  rfl
theorem rdec_bad (k : Nat) (l : List Int) (h : Bytes l) (n x least : Int) (i : Nat) (hi : (i : Int) < n) (hy : ∀ y, l[i]? = some y → ¬ y / 64 = 2) :
    rubricref1_Decode.l0 (k + 1) l n x least i = some (-1, 0) := by
  simp only [rubricref1_Decode.l0]
  rw [if_pos hi]
  rcases hg : l[i]? with _ | y
  · rw [rtail_out l i (by rw [List.getElem?_eq_none_iff] at hg; exact hg)]
    simp
  · rw [rtail_at l h i y hg]
    simp only [Option.bind_some]
    rw [if_neg (hy y hg), if_pos (by omega)]
theorem rdec_eq (k : Nat) (l : List Int) (h : Bytes l) : rubricref1_Decode.f (k + 6) l = some (decS l) := by
  match l, h with
  | [], h => simp [rubricref1_Decode.f, decS]
  | c :: t, h =>
    have hc := h.head
    have ht := h.tail
    obtain ⟨h1, h2, h3, h4, h5, h6, _, _⟩ := bits_tab c hc.1 hc.2
    have hr : rd (c :: t) 0 = c := rfl
    unfold rubricref1_Decode.f
    rw [if_neg (by simp only [List.length_cons]; omega), if_pos (by simp only [List.length_cons]; omega), hr, w64 hc.1 (by omega), h1, h2, h3, h4, h5, h6]
    simp only [decS]
    by_cases g1 : c < 128
    · rw [if_pos g1, if_pos g1]
    rw [if_neg g1, if_neg g1]
    by_cases g2 : c / 32 = 6
    · rw [if_pos (by omega), if_pos g2]
      simp only [rubricref1_Decode.j0]
      match t, h, ht with
      | [], h, ht => exact rdec_bad _ _ h 2 _ _ 1 (by omega) (fun y hy => by simp at hy)
      | a :: t1, h, ht =>
        simp only []
        by_cases e1 : a / 64 = 2
        · rw [if_pos e1]
          have := rdec_go (k + 4) (c :: a :: t1) h 2 (c % 32) 128 1 a (by omega) (by omega) (by omega) (by omega) rfl e1
          refine this.trans ((rdec_end (k + 3) _ 2 _ _).trans ?_)
          have ha := ht.head
          congr 1
          by_cases f1 : c % 32 * 64 + a % 64 < 128
          · rw [if_pos f1, if_pos f1]
          · rw [if_neg f1, if_neg f1, if_neg (by omega), if_neg (by omega)]
        · rw [if_neg e1]
          exact rdec_bad _ _ h 2 _ _ 1 (by omega) (fun y hy => by simp at hy; subst hy; exact e1)
    rw [if_neg (by omega), if_neg g2]
    by_cases g3 : c / 16 = 14
    · rw [if_pos (by omega), if_pos g3]
      simp only [rubricref1_Decode.j0]
      match t, h, ht with
      | [], h, ht => exact rdec_bad _ _ h 3 _ _ 1 (by omega) (fun y hy => by simp at hy)
      | a :: t1, h, ht =>
        have ha := ht.head
        by_cases e1 : a / 64 = 2
        · refine (rdec_go (k + 4) (c :: a :: t1) h 3 (c % 16) 2048 1 a (by omega) (by omega) (by omega) (by omega) rfl e1).trans ?_
          match t1, h, ht with
          | [], h, ht => exact rdec_bad _ _ h 3 _ _ 2 (by omega) (fun y hy => by simp at hy)
          | b :: t2, h, ht =>
            have hb := ht.tail.head
            simp only []
            rw [if_pos e1]
            by_cases e2 : b / 64 = 2
            · rw [if_pos e2]
              refine (rdec_go (k + 3) (c :: a :: b :: t2) h 3 (c % 16 * 64 + a % 64) 2048 2 b (by omega) (by omega) (by omega) (by omega) rfl e2).trans ((rdec_end (k + 2) _ 3 _ _).trans ?_)
              congr 1
              by_cases f1 : (c % 16 * 64 + a % 64) * 64 + b % 64 < 2048
              · rw [if_pos f1, if_pos f1]
              · rw [if_neg f1, if_neg f1, if_neg (by omega)]
            · rw [if_neg e2]
              exact rdec_bad _ _ h 3 _ _ 2 (by omega) (fun y hy => by simp at hy; subst hy; exact e2)
        · refine (rdec_bad _ _ h 3 _ _ 1 (by omega) (fun y hy => by simp at hy; subst hy; exact e1)).trans ?_
          match t1 with
          | [] => rfl
          | b :: t2 => simp only []; rw [if_neg e1]
    rw [if_neg (by omega), if_neg g3]
    by_cases g4 : c / 8 = 30
    · rw [if_pos (by omega), if_pos g4]
      simp only [rubricref1_Decode.j0]
      match t, h, ht with
      | [], h, ht => exact rdec_bad _ _ h 4 _ _ 1 (by omega) (fun y hy => by simp at hy)
      | a :: t1, h, ht =>
        have ha := ht.head
        by_cases e1 : a / 64 = 2
        · refine (rdec_go (k + 4) (c :: a :: t1) h 4 (c % 8) 65536 1 a (by omega) (by omega) (by omega) (by omega) rfl e1).trans ?_
          match t1, h, ht with
          | [], h, ht => exact rdec_bad _ _ h 4 _ _ 2 (by omega) (fun y hy => by simp at hy)
          | b :: t2, h, ht =>
            have hb := ht.tail.head
            by_cases e2 : b / 64 = 2
            · refine (rdec_go (k + 3) (c :: a :: b :: t2) h 4 (c % 8 * 64 + a % 64) 65536 2 b (by omega) (by omega) (by omega) (by omega) rfl e2).trans ?_
              match t2, h, ht with
              | [], h, ht => exact rdec_bad _ _ h 4 _ _ 3 (by omega) (fun y hy => by simp at hy)
              | d :: t3, h, ht =>
                have hd := ht.tail.tail.head
                simp only []
                rw [if_pos e1, if_pos e2]
                by_cases e3 : d / 64 = 2
                · rw [if_pos e3]
                  refine (rdec_go (k + 2) (c :: a :: b :: d :: t3) h 4 ((c % 8 * 64 + a % 64) * 64 + b % 64) 65536 3 d (by omega) (by omega) (by omega) (by omega) rfl e3).trans ((rdec_end (k + 1) _ 4 _ _).trans ?_)
                  congr 1
                  by_cases f1 : ((c % 8 * 64 + a % 64) * 64 + b % 64) * 64 + d % 64 < 65536
                  · rw [if_pos f1, if_pos f1]
                  · rw [if_neg f1, if_neg f1]
                    by_cases f2 : 1114111 < ((c % 8 * 64 + a % 64) * 64 + b % 64) * 64 + d % 64
                    · rw [if_pos f2, if_pos f2]
                    · rw [if_neg f2, if_neg f2, if_neg (by omega)]
                · rw [if_neg e3]
                  exact rdec_bad _ _ h 4 _ _ 3 (by omega) (fun y hy => by simp at hy; subst hy; exact e3)
            · refine (rdec_bad _ _ h 4 _ _ 2 (by omega) (fun y hy => by simp at hy; subst hy; exact e2)).trans ?_
              match t2 with
              | [] => rfl
              | d :: t3 => simp only []; rw [if_pos e1, if_neg e2]
        · refine (rdec_bad _ _ h 4 _ _ 1 (by omega) (fun y hy => by simp at hy; subst hy; exact e1)).trans ?_
          match t1 with
          | [] => rfl
          | [b] => rfl
          | b :: d :: t2 => simp only []; rw [if_neg e1]
    rw [if_neg (by omega), if_neg g4]
theorem rchar_eq (r : Int) : rubricref1_Char.f r = some (charB r) := by
  unfold rubricref1_Char.f charB
  repeat' split
  all_goals (congr 1; rw [Bool.eq_iff_iff]; first | (simp; done) | (simp; omega))
/-! ### Right -/
/-- The relative place of the first byte that begins no Char. -/
def rightS : Nat → List Int → Int × Bool
  | 0, _ => (0, true)
  | n + 1, l => if l = [] then (0, true) else if charB (decS l).1 then ((decS l).2 + (rightS n (l.drop (decS l).2.toNat)).1, (rightS n (l.drop (decS l).2.toNat)).2) else (0, false)
theorem charB_dec {l : List Int} (h : Bytes l) (hc : charB (decS l).1 = true) : 1 ≤ (decS l).2 ∧ (decS l).2 ≤ l.length ∧ (decS l).2 ≤ 4 := by
  rcases decS_ok h with e | ⟨a, b, c, _⟩
  · rw [e] at hc
    simp [charB] at hc
  · exact ⟨a, b, c⟩
theorem rightS_range (n : Nat) : ∀ l : List Int, Bytes l → 0 ≤ (rightS n l).1 ∧ (rightS n l).1 ≤ l.length := by
  induction n with
  | zero => intro l _; simp [rightS]
  | succ n ih =>
    intro l h
    simp only [rightS]
    split
    · simp
    · split
      · rename_i hc
        have := charB_dec h hc
        have h2 := ih (l.drop (decS l).2.toNat) (h.drop _)
        rw [List.length_drop] at h2
        simp only []
        omega
      · simp
theorem drop_ne {L : List Int} {i : Nat} (h : i < L.length) : L.drop i ≠ [] := by
  intro e
  have := congrArg List.length e
  rw [List.length_drop, List.length_nil] at this
  omega
theorem right_go (L : List Int) (hb : Bytes L) (hL : L.length ≤ 140737488355328) (n : Nat) : ∀ i : Nat, i ≤ L.length → L.length - i ≤ n →
    Ev (fun k => char_Right.l0 k L i) ((i : Int) + (rightS n (L.drop i)).1, (rightS n (L.drop i)).2) := by
  induction n with
  | zero =>
    intro i hi hn
    refine Ev.step (f := fun _ => some ((i : Int), true)) (fun k => ?_) (by simpa [rightS] using Ev.now ((i : Int), true))
    simp only [char_Right.l0]
    rw [if_neg (by omega)]
  | succ n ih =>
    intro i hi hn
    by_cases hlt : i < L.length
    · have hne := drop_ne hlt
      have hbd := hb.drop i
      simp only [rightS]
      rw [if_neg hne]
      by_cases hc : charB (decS (L.drop i)).1 = true
      · have hd := charB_dec hbd hc
        rw [List.length_drop] at hd
        rw [if_pos hc]
        obtain ⟨m, hm⟩ : ∃ m : Nat, (decS (L.drop i)).2 = m := ⟨(decS (L.drop i)).2.toNat, by omega⟩
        have := ih (i + m) (by omega) (by omega)
        rw [hm, Int.toNat_natCast, List.drop_drop]
        simp only []
        have e1 : (i : Int) + ((m : Int) + (rightS n (L.drop (i + m))).1) = ((i + m : Nat) : Int) + (rightS n (L.drop (i + m))).1 := by omega
        rw [e1]
        refine Ev.step (fun k => ?_) this
        simp only [char_Right.l0]
        rw [if_pos (by omega), if_pos (by omega), if_pos (by omega), Int.toNat_natCast, decode_eq hbd]
        simp only [Option.bind_some, char_eq, hc, if_true, hm]
        rw [w64 (by omega) (by omega)]
        rfl
      · rw [if_neg hc]
        refine Ev.step (f := fun _ => some ((i : Int), false)) (fun k => ?_) (by simpa using Ev.now ((i : Int), false))
        simp only [char_Right.l0]
        rw [if_pos (by omega), if_pos (by omega), if_pos (by omega), Int.toNat_natCast, decode_eq hbd]
        simp only [Option.bind_some, char_eq]
        rw [if_neg hc]
    · have e : L.drop i = [] := List.drop_eq_nil_of_le (by omega)
      refine Ev.step (f := fun _ => some ((i : Int), true)) (fun k => ?_) (by rw [e]; simpa [rightS] using Ev.now ((i : Int), true))
      simp only [char_Right.l0]
      rw [if_neg (by omega)]
theorem right_eq (L : List Int) (hb : Bytes L) (hL : L.length ≤ 140737488355328) : Ev (fun k => char_Right.f k L) (rightS L.length L) := by
  have := right_go L hb hL L.length 0 (by omega) (by omega)
  simp only [List.drop_zero, Int.natCast_zero, Int.zero_add] at this
  exact this
theorem rright_go (L : List Int) (hb : Bytes L) (hL : L.length ≤ 140737488355328) (n : Nat) : ∀ i : Nat, i ≤ L.length → L.length - i ≤ n →
    Ev (fun k => rubricref1_Right.l0 k L i) ((i : Int) + (rightS n (L.drop i)).1, (rightS n (L.drop i)).2) := by
  induction n with
  | zero =>
    intro i hi hn
    refine Ev.step (f := fun _ => some ((i : Int), true)) (fun k => ?_) (by simpa [rightS] using Ev.now ((i : Int), true))
    simp only [rubricref1_Right.l0]
    rw [if_neg (by omega)]
  | succ n ih =>
    intro i hi hn
    by_cases hlt : i < L.length
    · have hne := drop_ne hlt
      have hbd := hb.drop i
      have hdec : Ev (fun k => rubricref1_Decode.f k (L.drop i)) (decS (L.drop i)) := ⟨6, fun k hk => by obtain ⟨j, rfl⟩ : ∃ j, k = j + 6 := ⟨k - 6, by omega⟩; exact rdec_eq j _ hbd⟩
      simp only [rightS]
      rw [if_neg hne]
      by_cases hc : charB (decS (L.drop i)).1 = true
      · have hd := charB_dec hbd hc
        rw [List.length_drop] at hd
        rw [if_pos hc]
        obtain ⟨m, hm⟩ : ∃ m : Nat, (decS (L.drop i)).2 = m := ⟨(decS (L.drop i)).2.toNat, by omega⟩
        have := ih (i + m) (by omega) (by omega)
        rw [hm, Int.toNat_natCast, List.drop_drop]
        simp only []
        have e1 : (i : Int) + ((m : Int) + (rightS n (L.drop (i + m))).1) = ((i + m : Nat) : Int) + (rightS n (L.drop (i + m))).1 := by omega
        rw [e1]
        refine Ev.step (f := fun k => (rubricref1_Decode.f k (L.drop i)).bind fun t => if t.2 = 0 then some ((i : Int), false) else (rubricref1_Char.f t.1).bind fun q => if q = true then rubricref1_Right.l0 k L (wrap64 ((i : Int) + t.2)) else some ((i : Int), false)) (fun k => ?_) ?_
        · simp only [rubricref1_Right.l0]
          rw [if_pos (by omega), if_pos (by omega), if_pos (by omega), Int.toNat_natCast]
        · refine Ev.bind hdec ?_
          rw [hm]
          refine Ev.congr (fun k => ?_) this
          rw [if_neg (by omega), rchar_eq]
          simp only [Option.bind_some, hc, if_true]
          rw [w64 (by omega) (by omega)]
          rfl
      · rw [if_neg hc]
        refine Ev.step (f := fun k => (rubricref1_Decode.f k (L.drop i)).bind fun t => if t.2 = 0 then some ((i : Int), false) else (rubricref1_Char.f t.1).bind fun q => if q = true then rubricref1_Right.l0 k L (wrap64 ((i : Int) + t.2)) else some ((i : Int), false)) (fun k => ?_) ?_
        · simp only [rubricref1_Right.l0]
          rw [if_pos (by omega), if_pos (by omega), if_pos (by omega), Int.toNat_natCast]
        · refine Ev.bind hdec ?_
          have h1 := Ev.now ((i : Int), false)
          refine Ev.congr (fun k => ?_) (by simpa using h1)
          by_cases h0 : (decS (L.drop i)).2 = 0
          · rw [if_pos h0]
          · rw [if_neg h0, rchar_eq]
            simp only [Option.bind_some]
            rw [if_neg hc]
    · have e : L.drop i = [] := List.drop_eq_nil_of_le (by omega)
      refine Ev.step (f := fun _ => some ((i : Int), true)) (fun k => ?_) (by rw [e]; simpa [rightS] using Ev.now ((i : Int), true))
      simp only [rubricref1_Right.l0]
      rw [if_neg (by omega)]
theorem rright_eq (L : List Int) (hb : Bytes L) (hL : L.length ≤ 140737488355328) : Ev (fun k => rubricref1_Right.f k L) (rightS L.length L) := by
  have := rright_go L hb hL L.length 0 (by omega) (by omega)
  simp only [List.drop_zero, Int.natCast_zero, Int.zero_add] at this
  exact this
/-! ### Count -/
def stepS (l : List Int) : Int := if (decS l).2 < 1 then 1 else (decS l).2
def countS : Nat → List Int → Int
  | 0, _ => 0
  | n + 1, l => if l = [] then 0 else 1 + countS n (l.drop (stepS l).toNat)
theorem stepS_range {l : List Int} (h : Bytes l) (hl : l ≠ []) : 1 ≤ stepS l ∧ stepS l ≤ l.length ∧ stepS l ≤ 4 := by
  have hp := List.length_pos_iff.2 hl
  unfold stepS
  rcases decS_ok h with e | ⟨a, b, c, _⟩
  · rw [e]; simp; omega
  · rw [if_neg (by omega)]; omega
theorem count_go (L : List Int) (hb : Bytes L) (hL : L.length ≤ 140737488355328) (n : Nat) : ∀ (i : Nat) (c : Int), 0 ≤ c → c ≤ i → i ≤ L.length → L.length - i ≤ n →
    Ev (fun k => char_Count.l0 k L c i) (c + countS n (L.drop i)) := by
  induction n with
  | zero =>
    intro i c hc hci hi hn
    refine Ev.step (f := fun _ => some c) (fun k => ?_) (by simpa [countS] using Ev.now c)
    simp only [char_Count.l0]
    rw [if_neg (by omega)]
  | succ n ih =>
    intro i c hc hci hi hn
    by_cases hlt : i < L.length
    · have hne := drop_ne hlt
      have hbd := hb.drop i
      have hd := stepS_range hbd hne
      rw [List.length_drop] at hd
      simp only [countS]
      rw [if_neg hne]
      obtain ⟨m, hm⟩ : ∃ m : Nat, stepS (L.drop i) = m := ⟨(stepS (L.drop i)).toNat, by omega⟩
      have := ih (i + m) (c + 1) (by omega) (by omega) (by omega) (by omega)
      rw [hm, Int.toNat_natCast, List.drop_drop, ← Int.add_assoc]
      refine Ev.step (fun k => ?_) this
      simp only [char_Count.l0]
      rw [if_pos (by omega), if_pos (by omega), if_pos (by omega), Int.toNat_natCast, decode_eq hbd]
      simp only [Option.bind_some]
      have hmx : mx (decS (L.drop i)).2 1 = m := by rw [← hm]; unfold mx stepS; rfl
      rw [hmx, w64 (by omega) (by omega), w64 (by omega) (by omega)]
      rfl
    · have e : L.drop i = [] := List.drop_eq_nil_of_le (by omega)
      refine Ev.step (f := fun _ => some c) (fun k => ?_) (by rw [e]; simpa [countS] using Ev.now c)
      simp only [char_Count.l0]
      rw [if_neg (by omega)]
theorem conv_eq {s : ByteArray} (h : s.size < 140737488355328) : conv_bytes.f s = some (bytesOf s) := by unfold conv_bytes.f; rw [if_pos h]
theorem count_eq (s : ByteArray) (hs : s.size < 140737488355328) : Ev (fun k => char_Count.f k s) (countS s.size (bytesOf s)) := by
  have hl := bytesOf_length s
  have := count_go (bytesOf s) (bytes_of s) (by omega) s.size 0 0 (by omega) (by omega) (by omega) (by omega)
  simp only [List.drop_zero, Int.natCast_zero, Int.zero_add] at this
  refine Ev.congr (fun k => ?_) this
  unfold char_Count.f
  rw [conv_eq hs]
  rfl
theorem rdec_ev {l : List Int} (h : Bytes l) : Ev (fun k => rubricref1_Decode.f k l) (decS l) := ⟨6, fun k hk => by obtain ⟨j, rfl⟩ : ∃ j, k = j + 6 := ⟨k - 6, by omega⟩; exact rdec_eq j _ h⟩
theorem rcount_go (L : List Int) (hb : Bytes L) (hL : L.length ≤ 140737488355328) (n : Nat) : ∀ (i : Nat) (c : Int), 0 ≤ c → c ≤ i → i ≤ L.length → L.length - i ≤ n →
    Ev (fun k => rubricref1_Count.l0 k c L i) (c + countS n (L.drop i)) := by
  induction n with
  | zero =>
    intro i c hc hci hi hn
    refine Ev.step (f := fun _ => some c) (fun k => ?_) (by simpa [countS] using Ev.now c)
    simp only [rubricref1_Count.l0]
    rw [if_neg (by omega)]
  | succ n ih =>
    intro i c hc hci hi hn
    by_cases hlt : i < L.length
    · have hne := drop_ne hlt
      have hbd := hb.drop i
      have hd := stepS_range hbd hne
      rw [List.length_drop] at hd
      simp only [countS]
      rw [if_neg hne]
      obtain ⟨m, hm⟩ : ∃ m : Nat, stepS (L.drop i) = m := ⟨(stepS (L.drop i)).toNat, by omega⟩
      have := ih (i + m) (c + 1) (by omega) (by omega) (by omega) (by omega)
      rw [hm, Int.toNat_natCast, List.drop_drop, ← Int.add_assoc]
      refine Ev.step (f := fun k => (rubricref1_Decode.f k (L.drop i)).bind fun t => if t.2 = 0 then rubricref1_Count.l0 k (wrap64 (c + 1)) L (wrap64 ((i : Int) + 1)) else rubricref1_Count.l0 k (wrap64 (c + 1)) L (wrap64 ((i : Int) + t.2))) (fun k => ?_) ?_
      · simp only [rubricref1_Count.l0]
        rw [if_pos (by omega), if_pos (by omega), if_pos (by omega), Int.toNat_natCast]
      · refine Ev.bind (rdec_ev hbd) ?_
        refine Ev.congr (fun k => ?_) this
        have hs : stepS (L.drop i) = if (decS (L.drop i)).2 < 1 then 1 else (decS (L.drop i)).2 := rfl
        rcases decS_ok hbd with e | ⟨a, b, c', _⟩
        · rw [e] at hs ⊢
          rw [if_pos rfl]
          rw [if_pos (by simp)] at hs
          rw [w64 (by omega) (by omega), w64 (by omega) (by omega)]
          have : m = 1 := by omega
          subst this
          rfl
        · rw [if_neg (by omega)] at hs ⊢
          rw [← hs, hm, w64 (by omega) (by omega), w64 (by omega) (by omega)]
          rfl
    · have e : L.drop i = [] := List.drop_eq_nil_of_le (by omega)
      refine Ev.step (f := fun _ => some c) (fun k => ?_) (by rw [e]; simpa [countS] using Ev.now c)
      simp only [rubricref1_Count.l0]
      rw [if_neg (by omega)]
theorem rcount_eq (s : ByteArray) (hs : s.size < 140737488355328) : Ev (fun k => rubricref1_Count.f k s) (countS s.size (bytesOf s)) := by
  have hl := bytesOf_length s
  have := rcount_go (bytesOf s) (bytes_of s) (by omega) s.size 0 0 (by omega) (by omega) (by omega) (by omega)
  simp only [List.drop_zero, Int.natCast_zero, Int.zero_add] at this
  refine Ev.congr (fun k => ?_) this
  unfold rubricref1_Count.f
  rw [conv_eq hs]
  rfl
theorem known_some : rubriclaw1_known.f 40 = some true := by decide +kernel
theorem known_ev : Ev (fun k => rubriclaw1_known.f k) true := Ev.of rubriclaw1_known.mono known_some
theorem CharBytes : rubriclaw1_CharBytes.Pure := by
  intro l hm hs hwf
  have hb := bytes_wf hwf
  refine Ev.rounds ?_
  unfold rubriclaw1_CharBytes.f
  refine Ev.bind known_ev (Ev.congr (fun k => if_pos rfl) ?_)
  by_cases h : (l.length : Int) > 4000
  · exact Ev.congr (fun k => if_pos h) (Ev.now true)
  refine Ev.congr (fun k => if_neg h) ?_
  refine Ev.bind ⟨0, fun k _ => decode_eq hb⟩ (Ev.bind (rdec_ev hb) (Ev.bind (right_eq l hb (by omega)) (Ev.bind (rright_eq l hb (by omega)) ?_)))
  have hw : wrap64 (decS l).1 = (decS l).1 := by
    rcases decS_ok hb with e | ⟨_, _, _, h1, h2⟩
    · rw [e]; exact w64' (by simp) (by simp)
    · exact w64' (by omega) (by omega)
  refine Ev.congr (fun k => if_pos hw) (Ev.congr (fun k => if_pos rfl) (Ev.congr (fun k => if_pos rfl) (Ev.congr (fun k => if_pos (by simp)) ?_)))
  have hz : (strOfNums l).size < 140737488355328 := by rw [strOfNums_size]; omega
  refine Ev.bind (count_eq (strOfNums l) hz) (Ev.bind (rcount_eq (strOfNums l) hz) ?_)
  have e : (countS (strOfNums l).size (bytesOf (strOfNums l)) == countS (strOfNums l).size (bytesOf (strOfNums l))) = true := by simp
  rw [e]
  exact Ev.now true
end Go.Proofs.Ytjogllgkdnomiaa.Pure
