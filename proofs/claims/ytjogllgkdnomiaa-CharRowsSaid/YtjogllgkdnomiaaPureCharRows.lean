/- What is proved: for every row of numbers the law CharRows of layer 1 answers true: letters put one behind the other are each read where they stand, and counted. Conditions: none beyond the row's own. -/
import Derived.Test.YtjogllgkdnomiaaPCharRowsx6
set_option linter.unusedVariables false
set_option linter.unusedSimpArgs false
namespace Go.Proofs.Ytjogllgkdnomiaa.Pure
open Go.RowKit Go.Proofs.Ytjogllgkdnomiaa.PCharRows Go.Proofs.YtjogllgkdnomiaaW.PrintWords Go.Proofs.YtjogllgkdnomiaaW.PrintLast Go.Proofs.YtjogllgkdnomiaaW.PrintMore
/-! ### bytes, letters, classes: plain -/
def Bytes (l : List Int) : Prop := ∀ x ∈ l, 0 ≤ x ∧ x < 256
theorem Bytes.tail {c : Int} {l : List Int} (h : Bytes (c :: l)) : Bytes l := fun x hx => h x (List.mem_cons_of_mem _ hx)
theorem Bytes.head {c : Int} {l : List Int} (h : Bytes (c :: l)) : 0 ≤ c ∧ c < 256 := h c List.mem_cons_self
theorem Bytes.drop {l : List Int} (h : Bytes l) (n : Nat) : Bytes (l.drop n) := fun x hx => h x (List.mem_of_mem_drop hx)
theorem Bytes.take {l : List Int} (h : Bytes l) (n : Nat) : Bytes (l.take n) := fun x hx => h x (List.mem_of_mem_take hx)
theorem Bytes.append {l m : List Int} (h : Bytes l) (h' : Bytes m) : Bytes (l ++ m) := fun x hx => (List.mem_append.1 hx).elim (h x) (h' x)
theorem bytes_of (s : ByteArray) : Bytes (bytesOf s) := by
  intro x hx
  obtain ⟨b, _, rfl⟩ := List.mem_map.1 hx
  have := b.toNat_lt
  omega
theorem bytes_wf {l : List Int} (h : ∀ x ∈ l, (Lit.int .u8 x).wf = true) : Bytes l := by
  intro x hx
  have h1 := h x hx
  have hmin : IntKind.u8.min = 0 := rfl
  have hmax : IntKind.u8.max = 255 := rfl
  simp only [Lit.wf, Bool.and_eq_true, decide_eq_true_eq] at h1
  omega
theorem decode_eq {l : List Int} (h : Bytes l) : char_Decode.f l = some (decS l) := by
  unfold char_Decode.f
  rw [if_pos]
  rw [List.all_eq_true]
  intro x hx
  have := h.take 4 x hx
  unfold isByte
  simp; omega
theorem decS_ok {l : List Int} (h : Bytes l) : decS l = (-1, 0) ∨ (1 ≤ (decS l).2 ∧ (decS l).2 ≤ l.length ∧ (decS l).2 ≤ 4 ∧ 0 ≤ (decS l).1 ∧ (decS l).1 ≤ 1114111) := by
  match l, h with
  | [], h => exact .inl rfl
  | c :: t, h =>
    have hc := h.head
    have ht := h.tail
    simp only [decS]
    split
    · exact .inr ⟨by simp, by simp only [List.length_cons]; omega, by simp, hc.1, by simp only []; omega⟩
    · split
      · match t, ht with
        | [], _ => exact .inl rfl
        | a :: t1, ht =>
          have ha := ht.head
          simp only []
          repeat' split
          all_goals first | exact .inl rfl | (refine .inr ⟨by simp, by simp only [List.length_cons]; omega, by simp, ?_, ?_⟩ <;> (simp only []; omega))
      · split
        · match t, ht with
          | [], _ => exact .inl rfl
          | [a], _ => exact .inl rfl
          | a :: b :: t1, ht =>
            have ha := ht.head
            have hb := ht.tail.head
            simp only []
            repeat' split
            all_goals first | exact .inl rfl | (refine .inr ⟨by simp, by simp only [List.length_cons]; omega, by simp, ?_, ?_⟩ <;> (simp only []; omega))
        · split
          · match t, ht with
            | [], _ => exact .inl rfl
            | [a], _ => exact .inl rfl
            | [a, b], _ => exact .inl rfl
            | a :: b :: d :: t1, ht =>
              have ha := ht.head
              have hb := ht.tail.head
              have hd := ht.tail.tail.head
              simp only []
              repeat' split
              all_goals first | exact .inl rfl | (refine .inr ⟨by simp, by simp only [List.length_cons]; omega, by simp, ?_, ?_⟩ <;> (simp only []; omega))
          · exact .inl rfl
def charB (r : Int) : Bool := decide (r = 9 ∨ r = 10 ∨ r = 13 ∨ (32 ≤ r ∧ r ≤ 55295) ∨ (57344 ≤ r ∧ r ≤ 65533) ∨ (65536 ≤ r ∧ r ≤ 1114111))
theorem char_eq (r : Int) : char_Char.f r = some (charB r) := by
  unfold char_Char.f charB
  repeat' split
  all_goals (congr 1; rw [Bool.eq_iff_iff]; first | (simp; done) | (simp; omega))
theorem w64 {x : Int} (h0 : 0 ≤ x) (h1 : x < 4611686018427387904) : wrap64 x = x := by unfold wrap64; omega
theorem w64' {x : Int} (h0 : -4611686018427387904 < x) (h1 : x < 4611686018427387904) : wrap64 x = x := by unfold wrap64; omega
/-! ### Right -/
/-- The relative place of the first byte that begins no Char. -/
def rightS : Nat → List Int → Int × Bool
  | 0, _ => (0, true)
  | n + 1, l => if l = [] then (0, true) else if charB (decS l).1 then ((decS l).2 + (rightS n (l.drop (decS l).2.toNat)).1, (rightS n (l.drop (decS l).2.toNat)).2) else (0, false)
theorem charB_dec {l : List Int} (h : Bytes l) (hc : charB (decS l).1 = true) : 1 ≤ (decS l).2 ∧ (decS l).2 ≤ l.length ∧ (decS l).2 ≤ 4 := by
  rcases decS_ok h with e | ⟨a, b, c, _⟩
  · rw [e] at hc
    simp [charB] at hc
  · exact ⟨a, b, c⟩
theorem rightS_range (n : Nat) : ∀ l : List Int, Bytes l → 0 ≤ (rightS n l).1 ∧ (rightS n l).1 ≤ l.length := by
  induction n with
  | zero => intro l _; simp [rightS]
  | succ n ih =>
    intro l h
    simp only [rightS]
    split
    · simp
    · split
      · rename_i hc
        have := charB_dec h hc
        have h2 := ih (l.drop (decS l).2.toNat) (h.drop _)
        rw [List.length_drop] at h2
        simp only []
        omega
      · simp
theorem drop_ne {L : List Int} {i : Nat} (h : i < L.length) : L.drop i ≠ [] := by
  intro e
  have := congrArg List.length e
  rw [List.length_drop, List.length_nil] at this
  omega
theorem right_go (L : List Int) (hb : Bytes L) (hL : L.length ≤ 140737488355328) (n : Nat) : ∀ i : Nat, i ≤ L.length → L.length - i ≤ n →
    Ev (fun k => char_Right.l0 k L i) ((i : Int) + (rightS n (L.drop i)).1, (rightS n (L.drop i)).2) := by
  induction n with
  | zero =>
    intro i hi hn
    refine Ev.step (f := fun _ => some ((i : Int), true)) (fun k => ?_) (by simpa [rightS] using Ev.now ((i : Int), true))
    simp only [char_Right.l0]
    rw [if_neg (by omega)]
  | succ n ih =>
    intro i hi hn
    by_cases hlt : i < L.length
    · have hne := drop_ne hlt
      have hbd := hb.drop i
      simp only [rightS]
      rw [if_neg hne]
      by_cases hc : charB (decS (L.drop i)).1 = true
      · have hd := charB_dec hbd hc
        rw [List.length_drop] at hd
        rw [if_pos hc]
        obtain ⟨m, hm⟩ : ∃ m : Nat, (decS (L.drop i)).2 = m := ⟨(decS (L.drop i)).2.toNat, by omega⟩
        have := ih (i + m) (by omega) (by omega)
        rw [hm, Int.toNat_natCast, List.drop_drop]
        simp only []
        have e1 : (i : Int) + ((m : Int) + (rightS n (L.drop (i + m))).1) = ((i + m : Nat) : Int) + (rightS n (L.drop (i + m))).1 := by omega
        rw [e1]
        refine Ev.step (fun k => ?_) this
        simp only [char_Right.l0]
        rw [if_pos (by omega), if_pos (by omega), if_pos (by omega), Int.toNat_natCast, decode_eq hbd]
        simp only [Option.bind_some, char_eq, hc, if_true, hm]
        rw [w64 (by omega) (by omega)]
        rfl
      · rw [if_neg hc]
        refine Ev.step (f := fun _ => some ((i : Int), false)) (fun k => ?_) (by simpa using Ev.now ((i : Int), false))
        simp only [char_Right.l0]
        rw [if_pos (by omega), if_pos (by omega), if_pos (by omega), Int.toNat_natCast, decode_eq hbd]
        simp only [Option.bind_some, char_eq]
        rw [if_neg hc]
    · have e : L.drop i = [] := List.drop_eq_nil_of_le (by omega)
      refine Ev.step (f := fun _ => some ((i : Int), true)) (fun k => ?_) (by rw [e]; simpa [rightS] using Ev.now ((i : Int), true))
      simp only [char_Right.l0]
      rw [if_neg (by omega)]
theorem right_eq (L : List Int) (hb : Bytes L) (hL : L.length ≤ 140737488355328) : Ev (fun k => char_Right.f k L) (rightS L.length L) := by
  have := right_go L hb hL L.length 0 (by omega) (by omega)
  simp only [List.drop_zero, Int.natCast_zero, Int.zero_add] at this
  exact this
/-! ### Count -/
def stepS (l : List Int) : Int := if (decS l).2 < 1 then 1 else (decS l).2
def countS : Nat → List Int → Int
  | 0, _ => 0
  | n + 1, l => if l = [] then 0 else 1 + countS n (l.drop (stepS l).toNat)
theorem stepS_range {l : List Int} (h : Bytes l) (hl : l ≠ []) : 1 ≤ stepS l ∧ stepS l ≤ l.length ∧ stepS l ≤ 4 := by
  have hp := List.length_pos_iff.2 hl
  unfold stepS
  rcases decS_ok h with e | ⟨a, b, c, _⟩
  · rw [e]; simp; omega
  · rw [if_neg (by omega)]; omega
theorem count_go (L : List Int) (hb : Bytes L) (hL : L.length ≤ 140737488355328) (n : Nat) : ∀ (i : Nat) (c : Int), 0 ≤ c → c ≤ i → i ≤ L.length → L.length - i ≤ n →
    Ev (fun k => char_Count.l0 k L c i) (c + countS n (L.drop i)) := by
  induction n with
  | zero =>
    intro i c hc hci hi hn
    refine Ev.step (f := fun _ => some c) (fun k => ?_) (by simpa [countS] using Ev.now c)
    simp only [char_Count.l0]
    rw [if_neg (by omega)]
  | succ n ih =>
    intro i c hc hci hi hn
    by_cases hlt : i < L.length
    · have hne := drop_ne hlt
      have hbd := hb.drop i
      have hd := stepS_range hbd hne
      rw [List.length_drop] at hd
      simp only [countS]
      rw [if_neg hne]
      obtain ⟨m, hm⟩ : ∃ m : Nat, stepS (L.drop i) = m := ⟨(stepS (L.drop i)).toNat, by omega⟩
      have := ih (i + m) (c + 1) (by omega) (by omega) (by omega) (by omega)
      rw [hm, Int.toNat_natCast, List.drop_drop, ← Int.add_assoc]
      refine Ev.step (fun k => ?_) this
      simp only [char_Count.l0]
      rw [if_pos (by omega), if_pos (by omega), if_pos (by omega), Int.toNat_natCast, decode_eq hbd]
      simp only [Option.bind_some]
      have hmx : mx (decS (L.drop i)).2 1 = m := by rw [← hm]; unfold mx stepS; rfl
      rw [hmx, w64 (by omega) (by omega), w64 (by omega) (by omega)]
      rfl
    · have e : L.drop i = [] := List.drop_eq_nil_of_le (by omega)
      refine Ev.step (f := fun _ => some c) (fun k => ?_) (by rw [e]; simpa [countS] using Ev.now c)
      simp only [char_Count.l0]
      rw [if_neg (by omega)]
theorem conv_eq {s : ByteArray} (h : s.size < 140737488355328) : conv_bytes.f s = some (bytesOf s) := by unfold conv_bytes.f; rw [if_pos h]
theorem count_eq (s : ByteArray) (hs : s.size < 140737488355328) : Ev (fun k => char_Count.f k s) (countS s.size (bytesOf s)) := by
  have hl := bytesOf_length s
  have := count_go (bytesOf s) (bytes_of s) (by omega) s.size 0 0 (by omega) (by omega) (by omega) (by omega)
  simp only [List.drop_zero, Int.natCast_zero, Int.zero_add] at this
  refine Ev.congr (fun k => ?_) this
  unfold char_Count.f
  rw [conv_eq hs]
  rfl
/-! ### Encode, and Decode behind it -/
theorem encS_bytes (r : Int) : Bytes (encS r) := by
  intro x hx
  unfold encS at hx
  split at hx
  · simp at hx
  · split at hx
    · simp at hx; omega
    · split at hx
      · simp at hx; omega
      · split at hx
        · simp at hx; omega
        · simp at hx; omega
theorem decS_enc (r : Int) (t : List Int) (hne : encS r ≠ []) : decS (encS r ++ t) = (r, ((encS r).length : Int)) := by
  unfold encS at *
  split
  · rename_i h; rw [if_pos h] at hne; exact absurd rfl hne
  · split
    · simp only [List.cons_append, List.nil_append, decS]
      rw [if_pos (by omega)]
      rfl
    · split
      · simp only [List.cons_append, List.nil_append, decS]
        rw [if_neg (by omega), if_pos (by omega), if_pos (by omega), if_neg (by omega)]
        exact Prod.ext (by simp only []; omega) rfl
      · split
        · simp only [List.cons_append, List.nil_append, decS]
          rw [if_neg (by omega), if_neg (by omega), if_pos (by omega), if_pos (by omega), if_pos (by omega), if_neg (by omega), if_neg (by omega)]
          exact Prod.ext (by simp only []; omega) rfl
        · simp only [List.cons_append, List.nil_append, decS]
          rw [if_neg (by omega), if_neg (by omega), if_neg (by omega), if_pos (by omega), if_pos (by omega), if_pos (by omega), if_pos (by omega), if_neg (by omega), if_neg (by omega)]
          exact Prod.ext (by simp only []; omega) rfl
theorem known_some : rubriclaw1_known.f 40 = some true := by decide +kernel
theorem known_ev : Ev (fun k => rubriclaw1_known.f k) true := Ev.of rubriclaw1_known.mono known_some
/-- The letters of a row that have bytes. -/
def goodS : List Int → List Int
  | [] => []
  | r :: t => if encS r = [] then goodS t else r :: goodS t
def encAll : List Int → List Int
  | [] => []
  | r :: t => encS r ++ encAll t
theorem encAll_bytes (l : List Int) : Bytes (encAll l) := by
  induction l with
  | nil => intro x hx; simp [encAll] at hx
  | cons r t ih => exact (encS_bytes r).append ih
theorem encS_len (r : Int) : (encS r).length ≤ 4 := by
  unfold encS
  repeat' split
  all_goals simp
theorem encAll_len (l : List Int) : (encAll l).length ≤ 4 * l.length := by
  induction l with
  | nil => simp [encAll]
  | cons r t ih =>
    have := encS_len r
    simp only [encAll, List.length_append, List.length_cons]
    omega
theorem goodS_len (l : List Int) : (goodS l).length ≤ l.length := by
  induction l with
  | nil => simp [goodS]
  | cons r t ih =>
    simp only [goodS]
    split
    · simp only [List.length_cons]; omega
    · simp only [List.length_cons]; omega
theorem goodS_ok (l : List Int) : ∀ r ∈ goodS l, encS r ≠ [] := by
  induction l with
  | nil => intro r hr; simp [goodS] at hr
  | cons x t ih =>
    intro r hr
    simp only [goodS] at hr
    split at hr
    · exact ih r hr
    · rename_i h
      rcases List.mem_cons.1 hr with rfl | hr
      · exact h
      · exact ih r hr
theorem encAll_good (l : List Int) : encAll (goodS l) = encAll l := by
  induction l with
  | nil => rfl
  | cons x t ih =>
    simp only [goodS]
    split
    · rename_i h
      simp only [encAll]
      rw [h, ih]
      rfl
    · simp only [encAll]
      rw [ih]
theorem encAll_app (a b : List Int) : encAll (a ++ b) = encAll a ++ encAll b := by
  induction a with
  | nil => rfl
  | cons x t ih => simp only [List.cons_append, encAll]; rw [ih, List.append_assoc]
theorem goodS_app (a b : List Int) : goodS (a ++ b) = goodS a ++ goodS b := by
  induction a with
  | nil => rfl
  | cons x t ih =>
    simp only [List.cons_append, goodS]
    split
    · exact ih
    · rw [ih]; rfl
theorem dec_front (r : Int) (h : encS r ≠ []) (t : List Int) : decS (encS r ++ t) = (r, ((encS r).length : Int)) := decS_enc r t h
/-- Count of letters put behind each other. -/
theorem count_all (g : List Int) (hg : ∀ r ∈ g, encS r ≠ []) : ∀ n, (encAll g).length ≤ n → countS n (encAll g) = g.length := by
  induction g with
  | nil =>
    intro n _
    cases n with
    | zero => rfl
    | succ n => simp [countS, encAll]
  | cons r t ih =>
    intro n hn
    have hr := hg r List.mem_cons_self
    have hp := List.length_pos_iff.2 hr
    simp only [encAll, List.length_append] at hn
    obtain ⟨m, rfl⟩ : ∃ m, n = m + 1 := ⟨n - 1, by omega⟩
    have hne : encS r ++ encAll t ≠ [] := by
      intro e
      exact hr (List.append_eq_nil_iff.1 e).1
    rw [show encAll (r :: t) = encS r ++ encAll t from rfl]
    simp only [countS]
    rw [if_neg hne]
    have hs : stepS (encS r ++ encAll t) = ((encS r).length : Int) := by
      unfold stepS
      rw [dec_front r hr]
      simp only []
      rw [if_neg (by omega)]
    rw [hs, Int.toNat_natCast, List.drop_left, ih (fun x hx => hg x (List.mem_cons_of_mem _ hx)) m (by omega)]
    simp only [List.length_cons]
    omega
theorem right_all (g : List Int) (hg : ∀ r ∈ g, encS r ≠ []) : ∀ n, (encAll g).length ≤ n → (rightS n (encAll g)).2 = g.all charB := by
  induction g with
  | nil =>
    intro n _
    cases n with
    | zero => rfl
    | succ n => simp [rightS, encAll]
  | cons r t ih =>
    intro n hn
    have hr := hg r List.mem_cons_self
    have hp := List.length_pos_iff.2 hr
    simp only [encAll, List.length_append] at hn
    obtain ⟨m, rfl⟩ : ∃ m, n = m + 1 := ⟨n - 1, by omega⟩
    have hne : encS r ++ encAll t ≠ [] := by
      intro e
      exact hr (List.append_eq_nil_iff.1 e).1
    rw [show encAll (r :: t) = encS r ++ encAll t from rfl]
    simp only [rightS]
    rw [if_neg hne, dec_front r hr]
    simp only [List.all_cons]
    cases hc : charB r with
    | true =>
      rw [if_pos rfl]
      simp only [Int.toNat_natCast, List.drop_left, Bool.true_and]
      exact ih (fun x hx => hg x (List.mem_cons_of_mem _ hx)) m (by omega)
    | false =>
      rw [if_neg (by simp)]
      rfl
theorem decode_at (g : List Int) (hg : ∀ r ∈ g, encS r ≠ []) (i : Nat) (r : Int) (hi : g[i]? = some r) : (encAll g).drop (encAll (g.take i)).length = encS r ++ encAll (g.drop (i + 1)) := by
  have hl := (List.getElem?_eq_some_iff.1 hi).1
  have e : g = g.take i ++ (r :: g.drop (i + 1)) := by
    have h1 := List.take_append_drop i g
    rw [List.drop_eq_getElem_cons hl, (List.getElem?_eq_some_iff.1 hi).2] at h1
    exact h1.symm
  have h2 : encAll g = encAll (g.take i) ++ (encS r ++ encAll (g.drop (i + 1))) := by
    conv => lhs; rw [e]
    rw [encAll_app]
    rfl
  rw [h2, List.drop_left]
theorem rd_at {l : List Int} {i : Nat} {r : Int} (h : l[i]? = some r) : rd l (i : Int) = r := by simp [rd, h]
theorem rows_l1 (g : List Int) (hg : ∀ r ∈ g, encS r ≠ []) (hlen : (encAll g).length ≤ 4000) (hgl : g.length ≤ 4000) (n : Nat) : ∀ i : Nat, i ≤ g.length → g.length - i ≤ n →
    Ev (fun k => rubriclaw1_CharRows.l1 k (encAll g) g ((encAll (g.take i)).length : Int) ((g.take i).all charB) i) true := by
  have hend : Ev (fun k => rubriclaw1_CharRows.l1 k (encAll g) g ((encAll g).length : Int) (g.all charB) (g.length : Nat)) true := by
    refine Ev.step (f := fun k => (char_Right.f k (encAll g)).bind fun t => if ((encAll g).length : Int) = ((encAll g).length : Int) then some (t.2 == g.all charB) else some false) (fun k => ?_) ?_
    · simp only [rubriclaw1_CharRows.l1]
      rw [if_neg (by omega)]
    · refine Ev.bind (right_eq (encAll g) (encAll_bytes g) (by omega)) ?_
      have e : ((rightS (encAll g).length (encAll g)).2 == g.all charB) = true := by rw [right_all g hg _ (Nat.le_refl _)]; simp
      rw [e]
      exact Ev.congr (fun k => if_pos rfl) (Ev.now true)
  have hfull : ∀ i : Nat, i = g.length → Ev (fun k => rubriclaw1_CharRows.l1 k (encAll g) g ((encAll (g.take i)).length : Int) ((g.take i).all charB) i) true := by
    intro i hi
    subst hi
    rw [List.take_length]
    exact hend
  induction n with
  | zero =>
    intro i hi hn
    exact hfull i (by omega)
  | succ n ih =>
    intro i hi hn
    by_cases hlt : i < g.length
    · have hgi : g[i]? = some g[i] := List.getElem?_eq_getElem hlt
      have hr := hg g[i] (List.getElem_mem hlt)
      have hp := List.length_pos_iff.2 hr
      have h4 := encS_len g[i]
      have hd := decode_at g hg i g[i] hgi
      have hdl : (encAll (g.take i)).length + (encS g[i]).length ≤ (encAll g).length := by
        have := congrArg List.length hd
        rw [List.length_drop, List.length_append] at this
        omega
      have ht : encAll (g.take (i + 1)) = encAll (g.take i) ++ encS g[i] := by
        rw [List.take_succ_eq_append_getElem hlt, encAll_app]
        simp [encAll]
      have ha : (g.take (i + 1)).all charB = ((g.take i).all charB && charB g[i]) := by
        rw [List.take_succ_eq_append_getElem hlt, List.all_append]
        simp
      have hih := ih (i + 1) (by omega) (by omega)
      rw [ht, ha, List.length_append] at hih
      have e1 : (((encAll (g.take i)).length + (encS g[i]).length : Nat) : Int) = ((encAll (g.take i)).length : Int) + ((encS g[i]).length : Int) := by omega
      refine Ev.step (f := fun k => rubriclaw1_CharRows.l1 k (encAll g) g (((encAll (g.take i)).length + (encS g[i]).length : Nat) : Int) ((g.take i).all charB && charB g[i]) ((i + 1 : Nat) : Int)) (fun k => ?_) hih
      simp only [rubriclaw1_CharRows.l1]
      rw [if_pos (by omega), if_pos (by omega), if_pos (by omega), Int.toNat_natCast, decode_eq ((encAll_bytes g).drop _), hd]
      simp only [Option.bind_some]
      rw [dec_front _ hr]
      simp only []
      rw [if_pos (by omega), if_pos (rd_at hgi).symm, if_neg (by omega), if_neg (by omega), w64 (by omega) (by omega), w64 (by omega) (by omega), ← e1]
      cases hall : (g.take i).all charB with
      | true =>
        rw [if_pos rfl, char_eq]
        simp only [Option.bind_some, Bool.true_and]
        rfl
      | false =>
        rw [if_neg (by simp)]
        simp only [Bool.false_and]
        rfl
    · exact hfull i (by omega)
theorem rows_l0 (l : List Int) (hl : l.length ≤ 300) (n : Nat) : ∀ i : Nat, i ≤ l.length → l.length - i ≤ n →
    Ev (fun k => rubriclaw1_CharRows.l0 k l (encAll (l.take i)) ((goodS (l.take i)).length : Int) (goodS (l.take i)) i) true := by
  have hfull : ∀ i : Nat, i = l.length → Ev (fun k => rubriclaw1_CharRows.l0 k l (encAll (l.take i)) ((goodS (l.take i)).length : Int) (goodS (l.take i)) i) true := by
    intro i hi
    subst hi
    rw [List.take_length]
    have h1 := encAll_len l
    have h2 := goodS_len l
    refine Ev.step (f := fun k => (char_Count.f k (strOfNums (encAll l))).bind fun t => if t = ((goodS l).length : Int) then rubriclaw1_CharRows.l1 k (encAll l) (goodS l) 0 true 0 else some false) (fun k => ?_) ?_
    · simp only [rubriclaw1_CharRows.l0]
      rw [if_neg (by omega)]
    · refine Ev.bind (count_eq (strOfNums (encAll l)) (by rw [strOfNums_size]; omega)) ?_
      have hb : bytesOf (strOfNums (encAll l)) = encAll l := by
        unfold bytesOf
        rw [strOfNums_data, List.map_map]
        refine (List.map_congr_left fun x hx => ?_).trans (List.map_id _)
        have := encAll_bytes l x hx
        simp only [Function.comp, id_eq]
        rw [UInt8.toNat_ofNat']
        omega
      have hc : countS (strOfNums (encAll l)).size (bytesOf (strOfNums (encAll l))) = ((goodS l).length : Int) := by
        rw [hb, strOfNums_size, ← encAll_good l]
        exact count_all _ (goodS_ok l) _ (Nat.le_refl _)
      refine Ev.congr (fun k => if_pos hc) ?_
      have := rows_l1 (goodS l) (goodS_ok l) (by rw [encAll_good]; omega) (by omega) (goodS l).length 0 (by omega) (by omega)
      rw [encAll_good] at this
      exact this
  induction n with
  | zero =>
    intro i hi hn
    exact hfull i (by omega)
  | succ n ih =>
    intro i hi hn
    by_cases hlt : i < l.length
    · have hgi : l[i]? = some l[i] := List.getElem?_eq_getElem hlt
      have ht : encAll (l.take (i + 1)) = encAll (l.take i) ++ encS l[i] := by
        rw [List.take_succ_eq_append_getElem hlt, encAll_app]
        simp [encAll]
      have h1 := encAll_len (l.take i)
      have h2 := goodS_len (l.take i)
      have h3 := encS_len l[i]
      rw [List.length_take] at h1 h2
      have hih := ih (i + 1) (by omega) (by omega)
      by_cases hne : encS l[i] = []
      · have hg : goodS (l.take (i + 1)) = goodS (l.take i) := by
          rw [List.take_succ_eq_append_getElem hlt, goodS_app]
          simp [goodS, hne]
        rw [hg, ht] at hih
        refine Ev.step (fun k => ?_) hih
        simp only [rubriclaw1_CharRows.l0]
        rw [if_pos (by omega), if_pos (by omega), rd_at hgi]
        simp only [char_Encode.f, Option.bind_some]
        rw [if_pos (by omega), hne]
        simp only [List.length_nil]
        rw [if_neg (by omega), w64 (by omega) (by omega)]
        rfl
      · have hp := List.length_pos_iff.2 hne
        have hg : goodS (l.take (i + 1)) = goodS (l.take i) ++ [l[i]] := by
          rw [List.take_succ_eq_append_getElem hlt, goodS_app]
          simp [goodS, hne]
        rw [hg, ht, List.length_append] at hih
        refine Ev.step (fun k => ?_) hih
        simp only [rubriclaw1_CharRows.l0]
        rw [if_pos (by omega), if_pos (by omega), rd_at hgi]
        simp only [char_Encode.f, Option.bind_some]
        rw [if_pos (by omega), if_pos (by omega), if_pos (by omega), w64 (by omega) (by omega), w64 (by omega) (by omega)]
        rfl
    · exact hfull i (by omega)
theorem CharRows : rubriclaw1_CharRows.Pure := by
  intro l hm hs hwf
  refine Ev.rounds ?_
  unfold rubriclaw1_CharRows.f
  refine Ev.bind known_ev (Ev.congr (fun k => if_pos rfl) ?_)
  by_cases h : (l.length : Int) > 300
  · exact Ev.congr (fun k => if_pos h) (Ev.now true)
  refine Ev.congr (fun k => if_neg h) ?_
  exact rows_l0 l (by omega) l.length 0 (by omega) (by omega)
end Go.Proofs.Ytjogllgkdnomiaa.Pure
