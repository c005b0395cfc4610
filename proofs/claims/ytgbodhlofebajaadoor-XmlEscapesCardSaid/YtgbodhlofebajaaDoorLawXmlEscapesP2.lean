/- What is proved: what this claim alone wants, part 2: a program of ours merged it out of our own texts, the print's words and the laid shelf. Conditions: those of each. -/
import Derived.Test.YtgbodhlofebajaaDoorLawXmlEscapesP1
set_option linter.unusedVariables false
set_option linter.unusedSimpArgs false
section
set_option linter.unusedVariables false
namespace Go.Proofs.YtgbodhlofebajaaDoorX
open Go.RowKit Go.Shelf Go.Proofs.YtgbodhlofebajaaDoor.PXmlBase Go.Proofs.YtgbodhlofebajaaDoorW.PrintWords
def encAll (rs : List Int) : List Int := rs.flatMap encS
def Chars (rs : List Int) : Prop := ∀ r ∈ rs, charB r = true
theorem dec_split {l : List Int} {r n : Int} (hb : Bytes l) (h : decS l = (r, n)) (hr : r ≠ -1) : l = encS r ++ l.drop (encS r).length ∧ n = (encS r).length := by
  match l, hb, h with
  | [], hb, h =>
    simp only [decS] at h
    exact absurd (Prod.mk.inj h).1.symm hr
  | c :: t, hb, h =>
    have hc := hb.head
    simp only [decS] at h
    by_cases h1 : c < 128
    · rw [if_pos h1] at h
      obtain ⟨rfl, rfl⟩ := Prod.mk.inj h
      rw [enc_ascii (by omega)]
      exact ⟨rfl, rfl⟩
    rw [if_neg h1] at h
    by_cases h2 : c / 32 = 6
    · rw [if_pos h2] at h
      match t, hb, h with
      | [], _, h => exact absurd (Prod.mk.inj h).1.symm hr
      | a :: t1, hb, h =>
        have ha := hb.tail.head
        simp only at h
        repeat' split at h
        all_goals first
          | exact absurd (Prod.mk.inj h).1.symm hr
          | skip
        obtain ⟨rfl, rfl⟩ := Prod.mk.inj h
        have e : encS (c % 32 * 64 + a % 64) = [c, a] := by
          unfold encS
          rw [if_neg (by omega), if_neg (by omega), if_pos (by omega)]
          congr 1
          · omega
          · congr 1
            omega
        rw [e]
        exact ⟨rfl, rfl⟩
    rw [if_neg h2] at h
    by_cases h3 : c / 16 = 14
    · rw [if_pos h3] at h
      match t, hb, h with
      | [], _, h => exact absurd (Prod.mk.inj h).1.symm hr
      | [a], _, h => exact absurd (Prod.mk.inj h).1.symm hr
      | a :: b :: t1, hb, h =>
        have ha := hb.tail.head
        have hbb := hb.tail.tail.head
        simp only at h
        repeat' split at h
        all_goals first
          | exact absurd (Prod.mk.inj h).1.symm hr
          | skip
        obtain ⟨rfl, rfl⟩ := Prod.mk.inj h
        have e : encS ((c % 16 * 64 + a % 64) * 64 + b % 64) = [c, a, b] := by
          unfold encS
          rw [if_neg (by omega), if_neg (by omega), if_neg (by omega), if_pos (by omega)]
          congr 1
          · omega
          · congr 1
            · omega
            · congr 1
              omega
        rw [e]
        exact ⟨rfl, rfl⟩
    rw [if_neg h3] at h
    by_cases h4 : c / 8 = 30
    · rw [if_pos h4] at h
      match t, hb, h with
      | [], _, h => exact absurd (Prod.mk.inj h).1.symm hr
      | [a], _, h => exact absurd (Prod.mk.inj h).1.symm hr
      | [a, b], _, h => exact absurd (Prod.mk.inj h).1.symm hr
      | a :: b :: d :: t1, hb, h =>
        have ha := hb.tail.head
        have hbb := hb.tail.tail.head
        have hd := hb.tail.tail.tail.head
        simp only at h
        repeat' split at h
        all_goals first
          | exact absurd (Prod.mk.inj h).1.symm hr
          | skip
        obtain ⟨rfl, rfl⟩ := Prod.mk.inj h
        have e : encS (((c % 8 * 64 + a % 64) * 64 + b % 64) * 64 + d % 64) = [c, a, b, d] := by
          unfold encS
          rw [if_neg (by omega), if_neg (by omega), if_neg (by omega), if_neg (by omega)]
          congr 1
          · omega
          · congr 1
            · omega
            · congr 1
              · omega
              · congr 1
                omega
        rw [e]
        exact ⟨rfl, rfl⟩
    · rw [if_neg h4] at h
      exact absurd (Prod.mk.inj h).1.symm hr
/-- The relative place of the first byte that begins no letter. -/
def rightS : Nat → List Int → Int × Bool
  | 0, _ => (0, true)
  | n + 1, l => if l = [] then (0, true) else if charB (decS l).1 then ((decS l).2 + (rightS n (l.drop (decS l).2.toNat)).1, (rightS n (l.drop (decS l).2.toNat)).2) else (0, false)
theorem charB_dec {l : List Int} (h : Bytes l) (hc : charB (decS l).1 = true) : 1 ≤ (decS l).2 ∧ (decS l).2 ≤ l.length ∧ (decS l).2 ≤ 4 := by
  rcases decS_ok h with e | ⟨a, b, c, _⟩
  · rw [e] at hc
    simp [charB] at hc
  · exact ⟨a, b, c⟩
theorem right_enc : ∀ (n : Nat) (l : List Int), Bytes l → l.length ≤ n → (rightS n l).2 = true → ∃ rs, Chars rs ∧ l = encAll rs
  | 0, l, hb, hl, h => ⟨[], fun r hr => (by cases hr), List.eq_nil_of_length_eq_zero (by omega)⟩
  | n + 1, l, hb, hl, h => by
    unfold rightS at h
    split at h
    · rename_i e
      exact ⟨[], fun r hr => (by cases hr), e⟩
    · rename_i hne
      split at h
      · rename_i hc
        have hd := charB_dec hb hc
        obtain ⟨e1, e2⟩ := dec_split (r := (decS l).1) (n := (decS l).2) hb rfl (fun e => by rw [e] at hc; cases hc)
        simp only at h
        rw [e2, Int.toNat_natCast] at h
        obtain ⟨rs, h1, h2⟩ := right_enc n (l.drop (encS (decS l).1).length) (hb.drop _) (by rw [List.length_drop]; omega) h
        refine ⟨(decS l).1 :: rs, fun r hr => ?_, ?_⟩
        · rcases List.mem_cons.1 hr with rfl | hr
          · exact hc
          · exact h1 r hr
        · show l = encS (decS l).1 ++ encAll rs
          rw [← h2]
          exact e1
      · cases h
theorem encAll_bytes (rs : List Int) : Bytes (encAll rs) := by
  intro x hx
  obtain ⟨r, _, hx⟩ := List.mem_flatMap.1 hx
  exact encS_bytes r x hx
theorem esc_cons (attr : Bool) (r : Int) (rs : List Int) : escS attr (encAll (r :: rs)) = escS attr (encS r) ++ escS attr (encAll rs) := by
  unfold escS encAll
  rw [List.flatMap_cons, List.flatMap_append]
theorem esc_high {attr : Bool} {l : List Int} (h : ∀ x ∈ l, 128 ≤ x) : escS attr l = l := by
  unfold escS
  induction l with
  | nil => rfl
  | cons c t ih =>
    rw [List.flatMap_cons, ih (fun x hx => h x (List.mem_cons_of_mem _ hx))]
    have hc := h c List.mem_cons_self
    have : escB attr c = [c] := by
      unfold escB
      rw [if_neg (by omega), if_neg (by omega), if_neg (by omega), if_neg (by omega), if_neg (by omega), if_neg (by omega), if_neg (by omega)]
    rw [this]
    rfl
theorem enc_all_high {r : Int} (h : 128 ≤ r) : ∀ x ∈ encS r, 128 ≤ x := by
  intro x hx
  unfold encS at hx
  split at hx
  · cases hx
  · rw [if_neg (by omega)] at hx
    split at hx
    · simp at hx; omega
    · split at hx
      · simp at hx; omega
      · simp at hx; omega
/-- A letter that is written as itself. -/
def plainB (attr : Bool) (r : Int) : Bool := !(decide (r = 38 ∨ r = 60 ∨ r = 62 ∨ r = 13) || (attr && decide (r = 34 ∨ r = 9 ∨ r = 10)))
theorem esc_plain {attr : Bool} {r : Int} (hr : charB r = true) (h : plainB attr r = true) : escS attr (encS r) = encS r := by
  by_cases h1 : 128 ≤ r
  · exact esc_high (enc_all_high h1)
  · have h0 : 0 ≤ r := by
      unfold charB at hr
      rw [decide_eq_true_eq] at hr
      omega
    rw [enc_ascii ⟨h0, by omega⟩]
    unfold escS
    simp only [List.flatMap_cons, List.flatMap_nil, List.append_nil]
    unfold plainB at h
    unfold escB
    cases attr with
    | true =>
      simp at h
      rw [if_neg (by omega), if_neg (by omega), if_neg (by omega), if_neg (by omega), if_neg (by omega), if_neg (by omega), if_neg (by omega)]
    | false =>
      simp at h
      rw [if_neg (by omega), if_neg (by omega), if_neg (by omega), if_neg (by omega), if_neg (by simp), if_neg (by simp), if_neg (by simp)]
theorem enc_nil {r : Int} (h : charB r = true) : encS r ≠ [] := by
  have := enc_pos h
  intro e
  rw [e] at this
  cases this
section
variable {bs : List Int} {a : Nat} {t : List Int} {r : Int}
theorem peek_enc (hr : charB r = true) (hd : bs.drop a = encS r ++ t) : peekS bs a = .ok r ∧ a < bs.length := by
  have hne := enc_nil hr
  have hlt : a < bs.length := by
    rcases Nat.lt_or_ge a bs.length with h1 | h1
    · exact h1
    · rw [List.drop_eq_nil_of_le h1] at hd
      exact absurd (List.append_eq_nil_iff.1 hd.symm).1 hne
  refine ⟨?_, hlt⟩
  unfold peekS
  have hl4 : (encS r).length ≤ 4 := by
    unfold encS
    repeat' split
    all_goals (simp only [List.length_cons, List.length_nil]; omega)
  have e : ((bs.drop a).take 4) = encS r ++ t.take (4 - (encS r).length) := by
    rw [hd, List.take_append, List.take_of_length_le hl4]
  rw [if_neg (by omega), e, decS_enc r _ hne]
  simp only
  rw [if_pos hr]
theorem must_enc (hr : charB r = true) (hd : bs.drop a = encS r ++ t) : mustS bs a = .ok r := by
  obtain ⟨h1, h2⟩ := peek_enc hr hd
  unfold mustS
  rw [if_neg (by omega)]
  exact h1
theorem has_at {w : List Int} (hw : w ≠ []) (hd : bs.drop a = w ++ t) : (hasS bs w a).1 = true := by
  unfold hasS
  have e : (bs.drop a).take w.length = w := by rw [hd]; simp
  rw [e, if_pos (by simp)]
  simp
theorem ref_amp (at_ : Nat) (hd : bs.drop a = [97, 109, 112, 59] ++ t) : refS bs at_ a = .ok (38, a + 4) := by
  have hd2 : bs.drop a = 97 :: 109 :: (112 :: 59 :: t) := hd
  unfold refS
  simp only [refWords, List.find?_cons]
  rw [has_no1 hd2 (by decide), has_no1 hd2 (by decide), has_at (w := [97, 109, 112, 59]) (by simp) hd]
  rfl
theorem ref_lt (at_ : Nat) (hd : bs.drop a = [108, 116, 59] ++ t) : refS bs at_ a = .ok (60, a + 3) := by
  unfold refS
  simp only [refWords, List.find?_cons]
  rw [has_at (w := [108, 116, 59]) (by simp) hd]
  rfl
theorem ref_gt (at_ : Nat) (hd : bs.drop a = [103, 116, 59] ++ t) : refS bs at_ a = .ok (62, a + 3) := by
  have hd2 : bs.drop a = 103 :: (116 :: 59 :: t) := hd
  unfold refS
  simp only [refWords, List.find?_cons]
  rw [has_no1 hd2 (by decide), has_at (w := [103, 116, 59]) (by simp) hd]
  rfl
theorem ref_quot (at_ : Nat) (hd : bs.drop a = [113, 117, 111, 116, 59] ++ t) : refS bs at_ a = .ok (34, a + 5) := by
  have hd2 : bs.drop a = 113 :: (117 :: 111 :: 116 :: 59 :: t) := hd
  unfold refS
  simp only [refWords, List.find?_cons]
  rw [has_no1 hd2 (by decide), has_no1 hd2 (by decide), has_no1 hd2 (by decide), has_at (w := [113, 117, 111, 116, 59]) (by simp) hd]
  rfl
theorem number_hex (at_ : Nat) {c v : Int} (hc : 32 ≤ c ∧ c < 128) (hv : digitS c 16 = v) (hv0 : 0 ≤ v ∧ v < 16) (hch : charB v = true) (hd : bs.drop a = 120 :: c :: 59 :: t) : numberS bs at_ a = .ok (v, a + 3) := by
  have hlt := at_lt hd
  have hd1 := drop_next hd
  have hd2 := drop_next hd1
  have hlen : a + 3 ≤ bs.length := by
    have := congrArg List.length hd
    simp at this
    omega
  unfold numberS
  rw [must_at hd (by omega)]
  simp only
  rw [if_pos trivial, step_at (by omega)]
  unfold numberB
  obtain ⟨k, hk⟩ : ∃ k, bs.length + 1 = k + 2 := ⟨bs.length - 1, by omega⟩
  rw [hk]
  have e1 : numberL bs 16 (k + 2) 0 (a + 1) = .ok (v, a + 1 + 1) := by
    unfold numberL
    rw [peek_at hd1 hc]
    simp only
    rw [hv, if_pos (by omega), step_at (by omega)]
    unfold numberL
    rw [peek_at hd2 (by omega)]
    simp only
    have h59 : digitS 59 16 = -1 := rfl
    rw [h59, if_neg (by omega)]
    congr 2
    omega
  rw [e1]
  simp only
  unfold numberE
  rw [must_at hd2 (by omega)]
  simp only
  rw [if_neg, step_at (by omega)]
  rintro (h | h | h)
  · exact h rfl
  · omega
  · rw [hch] at h
    cases h
theorem reference_amp (w : List Int) (v : Int) (hd : bs.drop a = 38 :: (w ++ t)) (hw : ∀ x, w.head? = some x → 97 ≤ x ∧ x < 128) (hne : w ≠ []) (h : refS bs a (a + 1) = .ok (v, a + 1 + w.length)) : referenceS bs a = .ok (v, a + (38 :: w).length) := by
  match w, hne with
  | x :: u, _ =>
    have hx := hw x rfl
    have hd1 := drop_next hd
    unfold referenceS
    rw [next_at hd (by omega)]
    simp only
    rw [must_at (t := u ++ t) hd1 (by omega)]
    simp only
    rw [if_neg (by omega), h]
    congr 2
    simp only [List.length_cons]
    omega
theorem reference_hex {c v : Int} (hc : 32 ≤ c ∧ c < 128) (hv : digitS c 16 = v) (hv0 : 0 ≤ v ∧ v < 16) (hch : charB v = true) (hd : bs.drop a = 38 :: 35 :: 120 :: c :: 59 :: t) : referenceS bs a = .ok (v, a + 5) := by
  have hd1 := drop_next hd
  have hd2 := drop_next hd1
  unfold referenceS
  rw [next_at hd (by omega)]
  simp only
  rw [must_at hd1 (by omega)]
  simp only
  rw [if_pos trivial, step_at (by omega), number_hex a hc hv hv0 hch hd2]
/-- A letter that is escaped: the reference that it is written as. -/
theorem esc_ref {attr : Bool} (hr : charB r = true) (hp : plainB attr r = false) (hd : bs.drop a = escS attr (encS r) ++ t) : referenceS bs a = .ok (r, a + (escS attr (encS r)).length) ∧ ∃ u, bs.drop a = 38 :: u := by
  have hone : ∀ c, 0 ≤ c ∧ c < 128 → escS attr (encS c) = escB attr c := fun c hc => by
    rw [enc_ascii hc]
    unfold escS
    simp
  unfold plainB at hp
  simp only [Bool.not_eq_false', Bool.or_eq_true, Bool.and_eq_true, decide_eq_true_eq] at hp
  rcases hp with (rfl | rfl | rfl | rfl) | ⟨rfl, rfl | rfl | rfl⟩
  · rw [hone _ (by omega)] at hd ⊢
    have e : escB attr 38 = [38, 97, 109, 112, 59] := by unfold escB; rw [if_pos rfl]
    rw [e] at hd ⊢
    exact ⟨reference_amp [97, 109, 112, 59] 38 hd (fun x hx => by cases hx; omega) (by simp) (ref_amp _ (drop_next hd)), _, hd⟩
  · rw [hone _ (by omega)] at hd ⊢
    have e : escB attr 60 = [38, 108, 116, 59] := by unfold escB; rw [if_neg (by decide), if_pos rfl]
    rw [e] at hd ⊢
    exact ⟨reference_amp [108, 116, 59] 60 hd (fun x hx => by cases hx; omega) (by simp) (ref_lt _ (drop_next hd)), _, hd⟩
  · rw [hone _ (by omega)] at hd ⊢
    have e : escB attr 62 = [38, 103, 116, 59] := by unfold escB; rw [if_neg (by decide), if_neg (by decide), if_pos rfl]
    rw [e] at hd ⊢
    exact ⟨reference_amp [103, 116, 59] 62 hd (fun x hx => by cases hx; omega) (by simp) (ref_gt _ (drop_next hd)), _, hd⟩
  · rw [hone _ (by omega)] at hd ⊢
    have e : escB attr 13 = [38, 35, 120, 68, 59] := by unfold escB; rw [if_neg (by decide), if_neg (by decide), if_neg (by decide), if_pos rfl]
    rw [e] at hd ⊢
    exact ⟨reference_hex (c := 68) (by omega) rfl (by omega) rfl hd, _, hd⟩
  · rw [hone _ (by omega)] at hd ⊢
    have e : escB true 34 = [38, 113, 117, 111, 116, 59] := rfl
    rw [e] at hd ⊢
    exact ⟨reference_amp [113, 117, 111, 116, 59] 34 hd (fun x hx => by cases hx; omega) (by simp) (ref_quot _ (drop_next hd)), _, hd⟩
  · rw [hone _ (by omega)] at hd ⊢
    have e : escB true 9 = [38, 35, 120, 57, 59] := rfl
    rw [e] at hd ⊢
    exact ⟨reference_hex (c := 57) (by omega) rfl (by omega) rfl hd, _, hd⟩
  · rw [hone _ (by omega)] at hd ⊢
    have e : escB true 10 = [38, 35, 120, 65, 59] := rfl
    rw [e] at hd ⊢
    exact ⟨reference_hex (c := 65) (by omega) rfl (by omega) rfl hd, _, hd⟩
theorem value_step (hr : charB r = true) (hd : bs.drop a = escS true (encS r) ++ t) : valueStep bs 34 a = .ok (some r, a + (escS true (encS r)).length) := by
  cases hp : plainB true r with
  | false =>
    obtain ⟨h1, u, h2⟩ := esc_ref hr hp hd
    unfold valueStep
    rw [must_at h2 (by omega)]
    simp only
    rw [if_neg (by decide), if_neg (by decide), if_pos trivial, h1]
  | true =>
    rw [esc_plain hr hp] at hd ⊢
    unfold plainB at hp
    simp at hp
    unfold valueStep
    rw [must_enc hr hd]
    simp only
    rw [if_neg (by omega), if_neg (by omega), if_neg (by omega)]
    unfold crS
    rw [if_neg (by omega)]
    simp only
    have hw : (if whiteB r = true then 32 else r) = r := by
      split
      · rename_i hw
        unfold whiteB at hw
        rw [decide_eq_true_eq] at hw
        omega
      · rfl
    rw [hw]
    rfl
theorem value_all {tk a0 : Nat} : ∀ (rs : List Int) (k : Nat) (out : List Int) (a : Nat), Chars rs → rs.length < k → (out ++ encAll rs).length ≤ tk → bs.drop a = escS true (encAll rs) ++ 34 :: t → valueL bs tk a0 34 k out a = .ok (out ++ encAll rs, a + (escS true (encAll rs)).length + 1)
  | [], k + 1, out, a, hc, hk, htk, hd => by
    have hd1 : bs.drop a = 34 :: t := hd
    unfold valueL valueStep
    rw [must_at hd1 (by omega)]
    simp only
    rw [if_pos trivial, step_at (by omega)]
    simp [encAll, escS]
  | r :: rs, k + 1, out, a, hc, hk, htk, hd => by
    have hr := hc r List.mem_cons_self
    rw [esc_cons, List.append_assoc] at hd
    have e : out ++ encAll (r :: rs) = (out ++ encS r) ++ encAll rs := by
      unfold encAll
      rw [List.flatMap_cons, List.append_assoc]
    unfold valueL
    rw [value_step hr hd]
    simp only
    rw [e] at htk ⊢
    rw [if_neg (by rw [List.length_append] at htk; omega), value_all rs k (out ++ encS r) _ (fun x hx => hc x (List.mem_cons_of_mem _ hx)) (by simp only [List.length_cons] at hk; omega) htk (drop_add hd)]
    rw [esc_cons, List.length_append]
    congr 2
    omega
theorem no62 (l : List Int) : ∀ x ∈ escS false l, x ≠ 62 := by
  intro x hx
  obtain ⟨c, _, hx⟩ := List.mem_flatMap.1 hx
  unfold escB at hx
  repeat' split at hx
  all_goals
    simp at hx
    omega
/-- No end of a data section within an escaped text. -/
theorem no_ends {l : List Int} (hd : bs.drop a = escS false l ++ 60 :: t) : (hasS bs [93, 93, 62] a).1 ≠ true := by
  intro h
  have p : [93, 93, 62] <+: bs.drop a := by
    unfold hasS at h
    split at h
    · rename_i hp
      rw [List.isPrefixOf_iff_prefix] at hp
      simp only [decide_eq_true_eq] at h
      rw [← hp.eq_of_length h]
      exact List.take_prefix _ _
    · cases h
  rw [hd] at p
  have hn := no62 l
  generalize escS false l = x at *
  match x, hn, p with
  | [], _, p =>
    simp [List.cons_prefix_cons] at p
  | [u], _, p =>
    simp [List.cons_prefix_cons] at p
  | [u, v], _, p =>
    simp [List.cons_prefix_cons] at p
  | u :: v :: w :: y, hn, p =>
    simp [List.cons_prefix_cons] at p
    exact hn w (by simp) p.2.2.symm
/-- One letter of a text. -/
theorem text_step {L : Lim} {s : St} {l : List Int} (hr : charB r = true) (htk : (s.text ++ encS r).length ≤ L.token) (hd : bs.drop s.at_ = escS false (encS r) ++ (escS false l ++ 60 :: t)) :
    contentT bs L s = .ok { s with at_ := s.at_ + (escS false (encS r)).length, textAt := if s.text = [] then s.at_ else s.textAt, text := s.text ++ encS r } := by
  cases hp : plainB false r with
  | false =>
    obtain ⟨h1, u, h2⟩ := esc_ref hr hp hd
    unfold contentT
    rw [must_at h2 (by omega)]
    simp only
    rw [if_neg (by decide), if_pos trivial, h1]
    simp only
    unfold putS
    rw [if_neg (by simp only; omega)]
  | true =>
    have hno := no_ends (bs := bs) (a := s.at_) (l := encS r ++ l) (t := t) (by
      rw [hd]
      unfold escS
      rw [List.flatMap_append, List.append_assoc])
    rw [esc_plain hr hp] at hd ⊢
    unfold plainB at hp
    simp at hp
    unfold contentT
    rw [must_enc hr hd]
    simp only
    rw [if_neg (by omega), if_neg (by omega), if_neg hno]
    unfold lineS crS
    rw [if_neg (by omega)]
    simp only
    rw [show (if r = 13 then (10 : Int) else r) = r from if_neg (by omega)]
    unfold putS
    rw [if_neg (by simp only; omega)]
    rfl
/-- A text, letter by letter. -/
theorem text_all {L : Lim} : ∀ (rs : List Int) (k : Nat) (s : St), s.ready = [] → Chars rs → (s.text ++ encAll rs).length ≤ L.token → bs.drop s.at_ = escS false (encAll rs) ++ 60 :: t →
    ∃ ta, contentL bs L (rs.length + k) s = contentL bs L k { s with at_ := s.at_ + (escS false (encAll rs)).length, textAt := ta, text := s.text ++ encAll rs }
  | [], k, s, hr, hc, htk, hd => ⟨s.textAt, by simp [encAll, escS]⟩
  | r :: rs, k, s, hr, hc, htk, hd => by
    have hcr := hc r List.mem_cons_self
    rw [esc_cons, List.append_assoc] at hd
    have e : s.text ++ encAll (r :: rs) = (s.text ++ encS r) ++ encAll rs := by
      unfold encAll
      rw [List.flatMap_cons, List.append_assoc]
    rw [e] at htk ⊢
    have h1 := text_step (L := L) hcr (by rw [List.length_append] at htk; omega) hd
    obtain ⟨ta, h2⟩ := text_all rs k { s with at_ := s.at_ + (escS false (encS r)).length, textAt := if s.text = [] then s.at_ else s.textAt, text := s.text ++ encS r } hr (fun x hx => hc x (List.mem_cons_of_mem _ hx)) htk (drop_add hd)
    refine ⟨ta, ?_⟩
    rw [show (r :: rs).length + k = (rs.length + k) + 1 from by simp; omega, content_more hr h1, h2]
    simp only
    rw [esc_cons, List.length_append, Nat.add_assoc]
end
end Go.Proofs.YtgbodhlofebajaaDoorX
end
section
set_option linter.unusedVariables false
namespace Go.Proofs.YtgbodhlofebajaaDoorX
open Go.RowKit Go.Shelf Go.Proofs.YtgbodhlofebajaaDoor.PXmlBase Go.Proofs.YtgbodhlofebajaaDoorW.PrintWords
section
variable {bs : List Int} {a : Nat} {t : List Int}
theorem white_one {c : Int} (hd : bs.drop a = 32 :: c :: t) (hc : 32 < c ∧ c < 128) : whiteS bs a = .ok (a + 1) := by
  have hl := at_lt hd
  have hd1 := drop_next hd
  unfold whiteS
  obtain ⟨k, hk⟩ : ∃ k, bs.length + 1 = k + 2 := ⟨bs.length - 1, by omega⟩
  rw [hk]
  unfold whiteL
  rw [peek_at hd (by omega)]
  simp only
  rw [if_pos (show whiteB 32 = true from rfl), step_at (by omega)]
  unfold whiteL
  rw [peek_at hd1 (by omega)]
  simp only
  rw [if_neg]
  unfold whiteB
  rw [decide_eq_true_eq]
  omega
/-- One attribute, v, and the tag's end. -/
theorem attrs_one {tk na : Nat} {rs : List Int} (hc : Chars rs) (htk : (encAll rs).length ≤ tk) (h1 : 1 ≤ tk) (hna : 1 ≤ na) (hd : bs.drop a = [32, 118, 61, 34] ++ (escS true (encAll rs) ++ 34 :: 62 :: t)) :
    attrsS bs tk na a = .ok ([⟨[118], encAll rs, a + 1⟩], a + 4 + (escS true (encAll rs)).length + 1) := by
  have hd0 : bs.drop a = 32 :: 118 :: (61 :: 34 :: (escS true (encAll rs) ++ 34 :: 62 :: t)) := hd
  have hd1 := drop_next hd0
  have hd1' : bs.drop (a + 1) = [118] ++ 61 :: (34 :: (escS true (encAll rs) ++ 34 :: 62 :: t)) := hd1
  have hd2 := drop_next hd1
  have hd3 := drop_next hd2
  have hd4 := drop_next hd3
  have hd5 := drop_add hd4
  have hd6 := drop_next hd5
  have hlt := at_lt hd0
  have hrl : rs.length < bs.length + 1 := by
    have h2 := congrArg List.length hd4
    rw [List.length_drop, List.length_append] at h2
    have h3 : rs.length ≤ (escS true (encAll rs)).length := by
      clear hd hd0 hd1 hd1' hd2 hd3 hd4 hd5 hd6 h2 htk
      induction rs with
      | nil => exact Nat.zero_le _
      | cons r rs ih =>
        rw [esc_cons, List.length_append]
        have h5 := ih (fun x hx => hc x (List.mem_cons_of_mem _ hx))
        have h4 : 0 < (escS true (encS r)).length := by
          have h6 := enc_pos (hc r List.mem_cons_self)
          cases hq : encS r with
          | nil => rw [hq] at h6; cases h6
          | cons x y =>
            unfold escS
            rw [List.flatMap_cons, List.length_append]
            have : 0 < (escB true x).length := by
              unfold escB
              repeat' split
              all_goals simp
            omega
        simp only [List.length_cons]
        omega
    omega
  have hv : valueS bs tk (a + 3) = .ok (encAll rs, a + 4 + (escS true (encAll rs)).length + 1) := by
    unfold valueS quoteS
    rw [peek_at hd3 (by omega)]
    simp only
    rw [if_neg (by omega), step_at (by omega)]
    simp only
    have := value_all (bs := bs) (tk := tk) (a0 := a + 3) (t := 62 :: t) rs (bs.length + 1) [] (a + 4) hc hrl (by simpa using htk) hd4
    simpa using this
  unfold attrsS
  obtain ⟨k, hk⟩ : ∃ k, bs.length + 1 = k + 2 := ⟨bs.length - 1, by omega⟩
  rw [hk]
  unfold attrsL
  rw [white_one hd0 (by omega)]
  simp only
  rw [must_at hd1 (by omega)]
  simp only
  rw [if_neg (by omega), if_neg (by omega), if_neg (by simp; omega)]
  rw [name_at (c := 61) (by unfold Stop; omega) (fun y hy => by simp at hy; omega) (by simp) (by simpa using h1) hd1']
  simp only
  rw [if_neg (by simp)]
  have he : eqS bs (a + 1 + ([118] : List Int).length) = .ok (a + 3) := by
    show eqS bs (a + 2) = _
    unfold eqS
    rw [white_no hd2 (by omega)]
    simp only
    rw [must_at hd2 (by omega)]
    simp only
    rw [if_neg (by decide), step_at (by omega), white_no hd3 (by omega)]
  rw [he]
  simp only
  rw [must_at hd3 (by omega)]
  simp only
  rw [hv]
  simp only
  unfold attrsL
  rw [white_no hd6 (by omega)]
  simp only
  rw [must_at hd6 (by omega)]
  simp only
  rw [if_pos (.inr trivial)]
  rfl
end
def escDoc (vs rs : List Int) : List Int := [60, 97] ++ ([32, 118, 61, 34] ++ (escS true (encAll vs) ++ 34 :: 62 :: (escS false (encAll rs) ++ [60, 47, 97, 62])))
def escEv (vs rs : List Int) (p ta q : Nat) : List XE := ⟨1, 0, [97], [], [⟨[118], encAll vs, p⟩]⟩ :: ((if encAll rs = [] then [] else [⟨3, ta, [], encAll rs, []⟩]) ++ [⟨2, q, [97], [], []⟩])
theorem esc_doc {vs rs : List Int} (hv : Chars vs) (hr : Chars rs) (h1 : (encAll vs).length ≤ 600) (h2 : (encAll rs).length ≤ 600) : ∃ p ta q u, allE (escDoc vs rs) (limOf 0 0 0 0) = (escEv vs rs p ta q, u) ∧ u.ferr = 0 := by
  generalize hL : limOf 0 0 0 0 = L
  have hLd : L.depth = 64 := by rw [← hL]; rfl
  have hLn : L.nodes = 4096 := by rw [← hL]; rfl
  have hLa : L.attrs = 64 := by rw [← hL]; rfl
  have hLt : L.token = 4096 := by rw [← hL]; rfl
  generalize hbs : escDoc vs rs = bs
  have hlen : bs.length ≤ 65536 := by
    have e1 := escS_len true (encAll vs)
    have e2 := escS_len false (encAll rs)
    rw [← hbs]
    unfold escDoc
    simp only [List.length_append, List.length_cons, List.length_nil]
    omega
  have hd0 : bs.drop 0 = 60 :: 97 :: ([32, 118, 61, 34] ++ (escS true (encAll vs) ++ 34 :: 62 :: (escS false (encAll rs) ++ [60, 47, 97, 62]))) := by rw [List.drop_zero, ← hbs]; rfl
  have hd1 := drop_next hd0
  have hd1' : bs.drop 1 = [97] ++ 32 :: (118 :: 61 :: 34 :: (escS true (encAll vs) ++ 34 :: 62 :: (escS false (encAll rs) ++ [60, 47, 97, 62]))) := hd1
  have hd2 := drop_next hd1
  have hat := attrs_one (tk := L.token) (na := L.attrs) hv (by omega) (by omega) (by omega) hd2
  have hd6 := drop_add (l := [32, 118, 61, 34]) hd2
  have hd7 := drop_add hd6
  have hd8 := drop_next hd7
  have hd9 := drop_next hd8
  generalize hB : 2 + [32, 118, 61, 34].length + (escS true (encAll vs)).length + 1 + 1 = B at hd9
  have htag : tagS bs L { st0 with at_ := 1 } 0 = .ok (tellS { st0 with at_ := B, nodes := 1, most := 1, state := 1, opn := [[97]] } [⟨1, 0, [97], [], [⟨[118], encAll vs, 3⟩]⟩]) := by
    unfold tagS
    rw [if_neg (by show ¬(0 = L.depth ∨ 0 = L.nodes); omega), name_at (c := 32) (by unfold Stop; omega) (fun y hy => by simp at hy; omega) (by simp) (by show 1 ≤ _; omega) hd1']
    simp only
    have hat2 : attrsS bs L.token L.attrs (1 + ([97] : List Int).length) = .ok ([⟨[118], encAll vs, 3⟩], 2 + 4 + (escS true (encAll vs)).length + 1) := hat
    rw [hat2]
    simp only
    have hp : peekS bs (2 + 4 + (escS true (encAll vs)).length + 1) = .ok 62 := peek_at hd8 (by omega)
    rw [hp]
    simp only
    rw [if_neg (by decide), step_at (by omega)]
    unfold tagE
    rw [if_neg (by decide)]
    have hB' : 2 + 4 + (escS true (encAll vs)).length + 1 + 1 = B := hB
    rw [hB']
    rfl
  have hbody := begin_at (L := L) (x := 97) (by omega) hlen hd0
  rw [htag, tell_no rfl rfl] at hbody
  have n1 := nx_ok (L := L) (s := st0) rfl (by decide) hbody rfl
  -- the text, and the end
  generalize hs1 : ({ at_ := B, state := 1, opn := [[97]], nodes := 1, most := 1, depth := depthE 1 0, text := [], textAt := 0, ready := [], fat := 0, ferr := 0 } : St) = s1
  have n1' : nextE bs L st0 = (some ⟨1, 0, [97], [], [⟨[118], encAll vs, 3⟩]⟩, s1) := by rw [n1, ← hs1]; rfl
  have hs1a : s1.at_ = B := by rw [← hs1]
  have hs1r : s1.ready = [] := by rw [← hs1]
  have hs1t : s1.text = [] := by rw [← hs1]
  have hs1o : s1.opn = [[97]] := by rw [← hs1]
  have hs1s : s1.state = 1 := by rw [← hs1]
  have hs1f : s1.ferr = 0 := by rw [← hs1]
  have hrl : rs.length + 2 ≤ bs.length + 2 := by
    have h3 := congrArg List.length hd9
    rw [List.length_drop, List.length_append] at h3
    have h4 : rs.length ≤ (escS false (encAll rs)).length := by
      clear h3 hd9 hd8 hd7 hd6 hd2 hd1 hd1' hd0 hbs h2
      induction rs with
      | nil => exact Nat.zero_le _
      | cons r rs ih =>
        rw [esc_cons, List.length_append]
        have h5 := ih (fun x hx => hr x (List.mem_cons_of_mem _ hx))
        have h4 : 0 < (escS false (encS r)).length := by
          have h6 := enc_pos (hr r List.mem_cons_self)
          cases hq : encS r with
          | nil => rw [hq] at h6; cases h6
          | cons x y =>
            unfold escS
            rw [List.flatMap_cons, List.length_append]
            have : 0 < (escB false x).length := by
              unfold escB
              repeat' split
              all_goals simp
            omega
        simp only [List.length_cons]
        omega
    omega
  obtain ⟨kf, hkf⟩ : ∃ kf, bs.length + 2 = rs.length + (kf + 2) := ⟨bs.length - rs.length, by omega⟩
  obtain ⟨ta, htx⟩ := text_all (bs := bs) (L := L) (t := [47, 97, 62]) rs (kf + 2) s1 hs1r hr (by rw [hs1t]; show (encAll rs).length ≤ _; omega) (by rw [hs1a]; exact hd9)
  have hd10 := drop_add hd9
  generalize hs2 : ({ s1 with at_ := s1.at_ + (escS false (encAll rs)).length, textAt := ta, text := s1.text ++ encAll rs } : St) = s2 at htx
  have hs2a : s2.at_ = B + (escS false (encAll rs)).length := by rw [← hs2, hs1a]
  have hs2t : s2.text = encAll rs := by rw [← hs2, hs1t]; rfl
  have hs2ta : s2.textAt = ta := by rw [← hs2]
  have hs2r : s2.ready = [] := by rw [← hs2]; exact hs1r
  have hs2o : s2.opn = [[97]] := by rw [← hs2]; exact hs1o
  have hs2s : s2.state = 1 := by rw [← hs2]; exact hs1s
  have hs2f : s2.ferr = 0 := by rw [← hs2]; exact hs1f
  have hd11 : bs.drop s2.at_ = 60 :: 47 :: [97, 62] := by rw [hs2a]; exact hd10
  have hd12 : bs.drop (s2.at_ + 2) = [97] ++ 62 :: [] := drop_next (a := s2.at_ + 1) (drop_next hd11)
  have hc2 := mark_close (L := L) hd11
  rw [end_at (s := { s2 with at_ := s2.at_ + 2 }) (fun y hy => by simp at hy; omega) (by simp) (by show 1 ≤ _; omega) hd12] at hc2
  rw [if_neg (by show ¬([97] ≠ s2.opn.getLastD []); rw [hs2o]; simp)] at hc2
  have hlast : s2.at_ + 2 + ([97] : List Int).length + 1 = bs.length := by
    have h3 := congrArg List.length hd11
    rw [List.length_drop] at h3
    simp only [List.length_cons, List.length_nil] at h3 ⊢
    omega
  generalize hs3 : leftS (tellS { s2 with at_ := s2.at_ + 2 + ([97] : List Int).length + 1, opn := s2.opn.dropLast } [⟨2, s2.at_, [97], [], []⟩]) = s3
  have hc3 : contentT bs L s2 = .ok s3 := hc2.trans (congrArg Except.ok hs3)
  have hs3r : s3.ready = (if encAll rs = [] then [] else [⟨3, ta, [], encAll rs, []⟩]) ++ [⟨2, s2.at_, [97], [], []⟩] := by
    rw [← hs3, (left_same _).2.2.2.2.1]
    unfold tellS textE
    rw [hs2t, hs2r, hs2ta]
    simp
  have hs3x : s3.state = 2 ∧ s3.at_ = bs.length ∧ s3.ferr = 0 := by
    rw [← hs3]
    unfold leftS
    rw [if_pos (by show s2.opn.dropLast = []; rw [hs2o]; rfl)]
    exact ⟨rfl, hlast, hs2f⟩
  have hbody2 : bodyS bs L s1 = .ok s3 := by
    rw [body_content hs1s, hkf, htx]
    exact content_ok hs2r hc3 (by rw [hs3r]; simp)
  have hm : ∃ k, muS bs.length st0 + 1 = k + 4 := by
    refine ⟨20 * bs.length - 2, ?_⟩
    show 1 + 20 * (bs.length - 0) + 0 + 1 = _
    omega
  obtain ⟨k, hk⟩ := hm
  unfold allE
  rw [hk, allL_some n1']
  by_cases he : encAll rs = []
  · rw [if_pos he] at hs3r
    have n2 := nx_ok (L := L) hs1r (by omega) hbody2 hs3r
    have n3 := next_over (bs := bs) (L := L) (s := { s3 with ready := [], depth := depthE 2 s3.depth }) hs3x.1 rfl hs3x.2.1
    refine ⟨3, ta, s2.at_, { s3 with ready := [], depth := depthE 2 s3.depth, state := 3 }, ?_, hs3x.2.2⟩
    rw [allL_some n2, allL_none n3]
    unfold escEv
    rw [if_pos he]
    rfl
  · rw [if_neg he] at hs3r
    have hs3r2 : s3.ready = ⟨3, ta, [], encAll rs, []⟩ :: [⟨2, s2.at_, [97], [], []⟩] := hs3r
    have n2 : nextE bs L s1 = (some ⟨3, ta, [], encAll rs, []⟩, { s3 with ready := [⟨2, s2.at_, [97], [], []⟩], depth := depthE 3 s3.depth }) := nx_ok (L := L) hs1r (by omega) hbody2 hs3r2
    have n3 : nextE bs L { s3 with ready := [⟨2, s2.at_, [97], [], []⟩], depth := depthE 3 s3.depth } = (some ⟨2, s2.at_, [97], [], []⟩, { s3 with ready := [], depth := depthE 2 (depthE 3 s3.depth) }) := nx_more rfl
    have n4 := next_over (bs := bs) (L := L) (s := { s3 with ready := [], depth := depthE 2 (depthE 3 s3.depth) }) hs3x.1 rfl hs3x.2.1
    refine ⟨3, ta, s2.at_, { s3 with ready := [], depth := depthE 2 (depthE 3 s3.depth), state := 3 }, ?_, hs3x.2.2⟩
    rw [allL_some n2, allL_some n3, allL_none n4]
    unfold escEv
    rw [if_neg he]
    rfl
end Go.Proofs.YtgbodhlofebajaaDoorX
end
section
set_option linter.unusedVariables false
set_option linter.unusedSimpArgs false
namespace Go.Proofs.YtgbodhlofebajaaDoorX
open Go.RowKit Go.Proofs.YtgbodhlofebajaaDoor.PXmlBase Go.Proofs.YtgbodhlofebajaaDoorW.PrintWords Go.Proofs.YtgbodhlofebajaaDoorW.PrintLast Go.Proofs.YtgbodhlofebajaaDoorW.PrintMore
open Go.Proofs.YtgbodhlofebajaaDoor.PXmlRef (rubricref1_tail.f rubricref1_Decode.l0 rubricref1_Decode.j0 rubricref1_Decode.f rubricref1_Char.f rubricref1_Right.l0 rubricref1_Right.f rubricref1_Right.calls rubricref2_Escape.l0 rubricref2_Escape.j1 rubricref2_Escape.j2 rubricref2_Escape.f rubricref2_Escape.calls)
theorem rchar_eq (r : Int) : rubricref1_Char.f r = some (charB r) := by
  unfold rubricref1_Char.f charB
  repeat' split
  all_goals (congr 1; rw [Bool.eq_iff_iff]; first | (simp; done) | (simp; omega))
theorem bits_tab (c : Int) (h0 : 0 ≤ c) (h1 : c < 256) : Go.bits .and .i64 c 224 = c / 32 * 32 ∧ Go.bits .and .i64 c 240 = c / 16 * 16 ∧ Go.bits .and .i64 c 248 = c / 8 * 8 ∧ Go.bits .and .i64 c 31 = c % 32 ∧ Go.bits .and .i64 c 15 = c % 16 ∧ Go.bits .and .i64 c 7 = c % 8 ∧ Go.bits .and .u8 c 192 = c / 64 * 64 ∧ Go.bits .and .u8 c 63 = c % 64 := by
  obtain ⟨n, rfl⟩ := Int.eq_ofNat_of_zero_le h0
  have hn : n < 256 := by omega
  have key : ∀ m : Fin 256, Go.bits .and .i64 (m.val : Int) 224 = (m.val : Int) / 32 * 32 ∧ Go.bits .and .i64 (m.val : Int) 240 = (m.val : Int) / 16 * 16 ∧ Go.bits .and .i64 (m.val : Int) 248 = (m.val : Int) / 8 * 8 ∧ Go.bits .and .i64 (m.val : Int) 31 = (m.val : Int) % 32 ∧ Go.bits .and .i64 (m.val : Int) 15 = (m.val : Int) % 16 ∧ Go.bits .and .i64 (m.val : Int) 7 = (m.val : Int) % 8 ∧ Go.bits .and .u8 (m.val : Int) 192 = (m.val : Int) / 64 * 64 ∧ Go.bits .and .u8 (m.val : Int) 63 = (m.val : Int) % 64 := by decide +kernel
  exact key ⟨n, hn⟩
theorem or_join (x t : Int) (hx : 0 ≤ x) (hx1 : x < 33554432) (ht : 0 ≤ t) (ht1 : t < 64) : Go.bits .or .i64 (wrap64 (x * 64)) t = x * 64 + t := by
  rw [w64 (by omega) (by omega)]
  exact bits_join .i64 63 (by decide) (fun n h h' => IntWalk.i64_in n (by omega)) 6 (x * 64) t (by omega) (by omega) (by omega) ht (by omega) (by omega)
theorem rtail_at (l : List Int) (h : Bytes l) (i : Nat) (x : Int) (hx : l[i]? = some x) : rubricref1_tail.f l i = some (if x / 64 = 2 then x % 64 else -1) := by
  have hi := (List.getElem?_eq_some_iff.1 hx).1
  have hb := h x (List.mem_of_getElem? hx)
  have hr : rd l (i : Int) = x := by simp [rd, hx]
  obtain ⟨_, _, _, _, _, _, h7, h8⟩ := bits_tab x hb.1 hb.2
  unfold rubricref1_tail.f
  rw [if_neg (by omega), if_pos (by omega), if_pos (by omega), hr, h7, h8]
  by_cases h2 : x / 64 = 2
  · rw [if_pos (by omega), if_pos h2, w64 (by omega) (by omega)]
  · rw [if_neg (by omega), if_neg h2]
theorem rtail_out (l : List Int) (i : Nat) (hi : l.length ≤ i) : rubricref1_tail.f l i = some (-1) := by
  unfold rubricref1_tail.f
  rw [if_pos (by omega)]
theorem rdec_end (k : Nat) (l : List Int) (n x least : Int) : rubricref1_Decode.l0 (k + 1) l n x least n = some (if x < least then (-1, 0) else if x > 1114111 then (-1, 0) else if 55296 ≤ x ∧ x ≤ 57343 then (-1, 0) else (x, n)) := by
  simp only [rubricref1_Decode.l0]
  rw [if_neg (by omega)]
  by_cases h1 : x < least
  · rw [if_pos h1, if_pos h1]
  · rw [if_neg h1, if_neg h1]
    by_cases h2 : x > 1114111
    · rw [if_pos h2, if_pos h2]
    · rw [if_neg h2, if_neg h2]
      by_cases h3 : x ≥ 55296
      · rw [if_pos h3]
        by_cases h4 : x ≤ 57343
        · rw [if_pos h4, if_pos (by omega)]
        · rw [if_neg h4, if_neg (by omega)]
      · rw [if_neg h3, if_neg (by omega)]
theorem rdec_go (k : Nat) (l : List Int) (h : Bytes l) (n x least : Int) (i : Nat) (y : Int) (hi : (i : Int) < n) (hi' : i < 4) (hx : 0 ≤ x) (hx1 : x < 33554432) (hy : l[i]? = some y) (h2 : y / 64 = 2) :
    rubricref1_Decode.l0 (k + 1) l n x least i = rubricref1_Decode.l0 k l n (x * 64 + y % 64) least ((i + 1 : Nat) : Int) := by
  have hb := h y (List.mem_of_getElem? hy)
  simp only [rubricref1_Decode.l0]
  rw [if_pos hi, rtail_at l h i y hy]
  simp only [Option.bind_some]
  rw [if_pos h2, if_neg (by omega), or_join x (y % 64) hx hx1 (by omega) (by omega), w64 (by omega) (by omega)]
  rfl
theorem rdec_bad (k : Nat) (l : List Int) (h : Bytes l) (n x least : Int) (i : Nat) (hi : (i : Int) < n) (hy : ∀ y, l[i]? = some y → ¬ y / 64 = 2) :
    rubricref1_Decode.l0 (k + 1) l n x least i = some (-1, 0) := by
  simp only [rubricref1_Decode.l0]
  rw [if_pos hi]
  rcases hg : l[i]? with _ | y
  · rw [rtail_out l i (by rw [List.getElem?_eq_none_iff] at hg; exact hg)]
    simp
  · rw [rtail_at l h i y hg]
    simp only [Option.bind_some]
    rw [if_neg (hy y hg), if_pos (by omega)]
theorem rdec_eq (k : Nat) (l : List Int) (h : Bytes l) : rubricref1_Decode.f (k + 6) l = some (decS l) := by
  match l, h with
  | [], h => simp [rubricref1_Decode.f, decS]
  | c :: t, h =>
    have hc := h.head
    have ht := h.tail
    obtain ⟨h1, h2, h3, h4, h5, h6, _, _⟩ := bits_tab c hc.1 hc.2
    have hr : rd (c :: t) 0 = c := rfl
    unfold rubricref1_Decode.f
    rw [if_neg (by simp only [List.length_cons]; omega), if_pos (by simp only [List.length_cons]; omega), hr, w64 hc.1 (by omega), h1, h2, h3, h4, h5, h6]
    simp only [decS]
    by_cases g1 : c < 128
    · rw [if_pos g1, if_pos g1]
    rw [if_neg g1, if_neg g1]
    by_cases g2 : c / 32 = 6
    · rw [if_pos (by omega), if_pos g2]
      simp only [rubricref1_Decode.j0]
      match t, h, ht with
      | [], h, ht => exact rdec_bad _ _ h 2 _ _ 1 (by omega) (fun y hy => by simp at hy)
      | a :: t1, h, ht =>
        simp only []
        by_cases e1 : a / 64 = 2
        · rw [if_pos e1]
          have := rdec_go (k + 4) (c :: a :: t1) h 2 (c % 32) 128 1 a (by omega) (by omega) (by omega) (by omega) rfl e1
          refine this.trans ((rdec_end (k + 3) _ 2 _ _).trans ?_)
          have ha := ht.head
          congr 1
          by_cases f1 : c % 32 * 64 + a % 64 < 128
          · rw [if_pos f1, if_pos f1]
          · rw [if_neg f1, if_neg f1, if_neg (by omega), if_neg (by omega)]
        · rw [if_neg e1]
          exact rdec_bad _ _ h 2 _ _ 1 (by omega) (fun y hy => by simp at hy; subst hy; exact e1)
    rw [if_neg (by omega), if_neg g2]
    by_cases g3 : c / 16 = 14
    · rw [if_pos (by omega), if_pos g3]
      simp only [rubricref1_Decode.j0]
      match t, h, ht with
      | [], h, ht => exact rdec_bad _ _ h 3 _ _ 1 (by omega) (fun y hy => by simp at hy)
      | a :: t1, h, ht =>
        have ha := ht.head
        by_cases e1 : a / 64 = 2
        · refine (rdec_go (k + 4) (c :: a :: t1) h 3 (c % 16) 2048 1 a (by omega) (by omega) (by omega) (by omega) rfl e1).trans ?_
          match t1, h, ht with
          | [], h, ht => exact rdec_bad _ _ h 3 _ _ 2 (by omega) (fun y hy => by simp at hy)
          | b :: t2, h, ht =>
            have hb := ht.tail.head
            simp only []
            rw [if_pos e1]
            by_cases e2 : b / 64 = 2
            · rw [if_pos e2]
              refine (rdec_go (k + 3) (c :: a :: b :: t2) h 3 (c % 16 * 64 + a % 64) 2048 2 b (by omega) (by omega) (by omega) (by omega) rfl e2).trans ((rdec_end (k + 2) _ 3 _ _).trans ?_)
              congr 1
              by_cases f1 : (c % 16 * 64 + a % 64) * 64 + b % 64 < 2048
              · rw [if_pos f1, if_pos f1]
              · rw [if_neg f1, if_neg f1, if_neg (by omega)]
            · rw [if_neg e2]
              exact rdec_bad _ _ h 3 _ _ 2 (by omega) (fun y hy => by simp at hy; subst hy; exact e2)
        · refine (rdec_bad _ _ h 3 _ _ 1 (by omega) (fun y hy => by simp at hy; subst hy; exact e1)).trans ?_
          match t1 with
          | [] => rfl
          | b :: t2 => simp only []; rw [if_neg e1]
    rw [if_neg (by omega), if_neg g3]
    by_cases g4 : c / 8 = 30
    · rw [if_pos (by omega), if_pos g4]
      simp only [rubricref1_Decode.j0]
      match t, h, ht with
      | [], h, ht => exact rdec_bad _ _ h 4 _ _ 1 (by omega) (fun y hy => by simp at hy)
      | a :: t1, h, ht =>
        have ha := ht.head
        by_cases e1 : a / 64 = 2
        · refine (rdec_go (k + 4) (c :: a :: t1) h 4 (c % 8) 65536 1 a (by omega) (by omega) (by omega) (by omega) rfl e1).trans ?_
          match t1, h, ht with
          | [], h, ht => exact rdec_bad _ _ h 4 _ _ 2 (by omega) (fun y hy => by simp at hy)
          | b :: t2, h, ht =>
            have hb := ht.tail.head
            by_cases e2 : b / 64 = 2
            · refine (rdec_go (k + 3) (c :: a :: b :: t2) h 4 (c % 8 * 64 + a % 64) 65536 2 b (by omega) (by omega) (by omega) (by omega) rfl e2).trans ?_
              match t2, h, ht with
              | [], h, ht => exact rdec_bad _ _ h 4 _ _ 3 (by omega) (fun y hy => by simp at hy)
              | d :: t3, h, ht =>
                have hd := ht.tail.tail.head
                simp only []
                rw [if_pos e1, if_pos e2]
                by_cases e3 : d / 64 = 2
                · rw [if_pos e3]
                  refine (rdec_go (k + 2) (c :: a :: b :: d :: t3) h 4 ((c % 8 * 64 + a % 64) * 64 + b % 64) 65536 3 d (by omega) (by omega) (by omega) (by omega) rfl e3).trans ((rdec_end (k + 1) _ 4 _ _).trans ?_)
                  congr 1
                  by_cases f1 : ((c % 8 * 64 + a % 64) * 64 + b % 64) * 64 + d % 64 < 65536
                  · rw [if_pos f1, if_pos f1]
                  · rw [if_neg f1, if_neg f1]
                    by_cases f2 : 1114111 < ((c % 8 * 64 + a % 64) * 64 + b % 64) * 64 + d % 64
                    · rw [if_pos f2, if_pos f2]
                    · rw [if_neg f2, if_neg f2, if_neg (by omega)]
                · rw [if_neg e3]
                  exact rdec_bad _ _ h 4 _ _ 3 (by omega) (fun y hy => by simp at hy; subst hy; exact e3)
            · refine (rdec_bad _ _ h 4 _ _ 2 (by omega) (fun y hy => by simp at hy; subst hy; exact e2)).trans ?_
              match t2 with
              | [] => rfl
              | d :: t3 => simp only []; rw [if_pos e1, if_neg e2]
        · refine (rdec_bad _ _ h 4 _ _ 1 (by omega) (fun y hy => by simp at hy; subst hy; exact e1)).trans ?_
          match t1 with
          | [] => rfl
          | [b] => rfl
          | b :: d :: t2 => simp only []; rw [if_neg e1]
    rw [if_neg (by omega), if_neg g4]
theorem drop_ne {L : List Int} {i : Nat} (h : i < L.length) : L.drop i ≠ [] := by
  intro e
  have := congrArg List.length e
  rw [List.length_drop, List.length_nil] at this
  omega
theorem rright_go (L : List Int) (hb : Bytes L) (hL : L.length ≤ 140737488355328) (n : Nat) : ∀ i : Nat, i ≤ L.length → L.length - i ≤ n →
    Ev (fun k => rubricref1_Right.l0 k L i) ((i : Int) + (rightS n (L.drop i)).1, (rightS n (L.drop i)).2) := by
  induction n with
  | zero =>
    intro i hi hn
    refine Ev.step (f := fun _ => some ((i : Int), true)) (fun k => ?_) (by simpa [rightS] using Ev.now ((i : Int), true))
    simp only [rubricref1_Right.l0]
    rw [if_neg (by omega)]
  | succ n ih =>
    intro i hi hn
    by_cases hlt : i < L.length
    · have hne := drop_ne hlt
      have hbd := hb.drop i
      have hdec : Ev (fun k => rubricref1_Decode.f k (L.drop i)) (decS (L.drop i)) := ⟨6, fun k hk => by obtain ⟨j, rfl⟩ : ∃ j, k = j + 6 := ⟨k - 6, by omega⟩; exact rdec_eq j _ hbd⟩
      simp only [rightS]
      rw [if_neg hne]
      by_cases hc : charB (decS (L.drop i)).1 = true
      · have hd := charB_dec hbd hc
        rw [List.length_drop] at hd
        rw [if_pos hc]
        obtain ⟨m, hm⟩ : ∃ m : Nat, (decS (L.drop i)).2 = m := ⟨(decS (L.drop i)).2.toNat, by omega⟩
        have := ih (i + m) (by omega) (by omega)
        rw [hm, Int.toNat_natCast, List.drop_drop]
        simp only []
        have e1 : (i : Int) + ((m : Int) + (rightS n (L.drop (i + m))).1) = ((i + m : Nat) : Int) + (rightS n (L.drop (i + m))).1 := by omega
        rw [e1]
        refine Ev.step (f := fun k => (rubricref1_Decode.f k (L.drop i)).bind fun t => if t.2 = 0 then some ((i : Int), false) else (rubricref1_Char.f t.1).bind fun q => if q = true then rubricref1_Right.l0 k L (wrap64 ((i : Int) + t.2)) else some ((i : Int), false)) (fun k => ?_) ?_
        · simp only [rubricref1_Right.l0]
          rw [if_pos (by omega), if_pos (by omega), if_pos (by omega), Int.toNat_natCast]
        · refine Ev.bind hdec ?_
          rw [hm]
          refine Ev.congr (fun k => ?_) this
          rw [if_neg (by omega), rchar_eq]
          simp only [Option.bind_some, hc, if_true]
          rw [w64 (by omega) (by omega)]
          rfl
      · rw [if_neg hc]
        refine Ev.step (f := fun k => (rubricref1_Decode.f k (L.drop i)).bind fun t => if t.2 = 0 then some ((i : Int), false) else (rubricref1_Char.f t.1).bind fun q => if q = true then rubricref1_Right.l0 k L (wrap64 ((i : Int) + t.2)) else some ((i : Int), false)) (fun k => ?_) ?_
        · simp only [rubricref1_Right.l0]
          rw [if_pos (by omega), if_pos (by omega), if_pos (by omega), Int.toNat_natCast]
        · refine Ev.bind hdec ?_
          have h1 := Ev.now ((i : Int), false)
          refine Ev.congr (fun k => ?_) (by simpa using h1)
          by_cases h0 : (decS (L.drop i)).2 = 0
          · rw [if_pos h0]
          · rw [if_neg h0, rchar_eq]
            simp only [Option.bind_some]
            rw [if_neg hc]
    · have e : L.drop i = [] := List.drop_eq_nil_of_le (by omega)
      refine Ev.step (f := fun _ => some ((i : Int), true)) (fun k => ?_) (by rw [e]; simpa [rightS] using Ev.now ((i : Int), true))
      simp only [rubricref1_Right.l0]
      rw [if_neg (by omega)]
theorem rright_eq (L : List Int) (hb : Bytes L) (hL : L.length ≤ 140737488355328) : Ev (fun k => rubricref1_Right.f k L) (rightS L.length L) := by
  have := rright_go L hb hL L.length 0 (by omega) (by omega)
  simp only [List.drop_zero, Int.natCast_zero, Int.zero_add] at this
  exact this
theorem rescape_go (s : ByteArray) (attr : Bool) (hs : s.size ≤ 1000000) : ∀ (n i k : Nat), s.size ≤ i + n → i ≤ s.size → 3 * n + 1 ≤ k → rubricref2_Escape.l0 k s attr (escS attr ((bytesOf s).take i)) (i : Int) = some (strOfNums (escS attr (bytesOf s)))
  | 0, i, k + 1, h1, h2, hk => by
    have hl : (bytesOf s).length = s.size := by unfold bytesOf; simp
    simp only [rubricref2_Escape.l0]
    rw [if_neg (by omega), List.take_of_length_le (by omega)]
  | n + 1, i, k + 1, h1, h2, hk => by
    have hl : (bytesOf s).length = s.size := by unfold bytesOf; simp
    by_cases hi : i < s.size
    · have hil : i < (bytesOf s).length := by omega
      have hbt : bt s (i : Int) = (bytesOf s)[i] := by
        rw [← rd_bytesOf]
        unfold rd
        rw [Int.toNat_natCast, List.getD_eq_getElem?_getD, List.getElem?_eq_getElem hil]
        rfl
      have hlen : (escS attr ((bytesOf s).take i)).length ≤ 6000000 := by
        have := escS_len attr ((bytesOf s).take i)
        rw [List.length_take] at this
        omega
      have hstep : ∀ x k', escB attr (bytesOf s)[i] = x → 3 * n + 1 ≤ k' → rubricref2_Escape.l0 k' s attr (escS attr ((bytesOf s).take i) ++ x) (wrap64 ((i : Int) + 1)) = some (strOfNums (escS attr (bytesOf s))) := by
        intro x k' hx hk'
        rw [w64 (by omega) (by omega), ← hx, ← escS_take attr _ i hil]
        exact rescape_go s attr hs n (i + 1) k' (by omega) (by omega) hk'
      simp only [rubricref2_Escape.l0]
      rw [if_pos (by omega), if_pos (by omega), hbt]
      generalize (bytesOf s)[i] = c at *
      have hB : escB attr c = if c = 38 then [38, 97, 109, 112, 59] else if c = 60 then [38, 108, 116, 59] else if c = 62 then [38, 103, 116, 59] else if c = 13 then [38, 35, 120, 68, 59] else if attr = true ∧ c = 34 then [38, 113, 117, 111, 116, 59] else if attr = true ∧ c = 9 then [38, 35, 120, 57, 59] else if attr = true ∧ c = 10 then [38, 35, 120, 65, 59] else [c] := rfl
      by_cases c1 : c = 38
      · rw [if_pos c1] at hB ⊢
        rw [if_pos (by omega)]
        refine hstep _ _ hB ?_
        omega
      rw [if_neg c1] at hB ⊢
      by_cases c2 : c = 60
      · rw [if_pos c2] at hB ⊢
        rw [if_pos (by omega)]
        refine hstep _ _ hB ?_
        omega
      rw [if_neg c2] at hB ⊢
      by_cases c3 : c = 62
      · rw [if_pos c3] at hB ⊢
        rw [if_pos (by omega)]
        refine hstep _ _ hB ?_
        omega
      rw [if_neg c3] at hB ⊢
      by_cases c4 : c = 13
      · rw [if_pos c4] at hB ⊢
        rw [if_pos (by omega)]
        refine hstep _ _ hB ?_
        omega
      rw [if_neg c4] at hB ⊢
      obtain ⟨k2, rfl⟩ : ∃ k2, k = k2 + 2 := ⟨k - 2, by omega⟩
      cases attr with
      | false =>
        rw [if_neg (by simp), if_neg (by simp), if_neg (by simp)] at hB
        rw [if_neg (by decide)]
        simp only [rubricref2_Escape.j1, rubricref2_Escape.j2]
        rw [if_neg (by decide), if_neg (by decide), if_neg (by decide), if_neg (by decide), if_pos (by omega)]
        refine hstep _ _ hB ?_
        omega
      | true =>
        rw [if_pos rfl]
        simp only [rubricref2_Escape.j1]
        by_cases c5 : c = 34
        · rw [if_pos ⟨rfl, c5⟩] at hB
          rw [if_pos (by rw [c5]; rfl), if_pos (by omega)]
          refine hstep _ _ hB ?_
          omega
        rw [if_neg (fun e => c5 e.2)] at hB
        rw [if_neg (by simpa using c5), if_pos trivial]
        simp only [rubricref2_Escape.j2]
        by_cases c6 : c = 9
        · rw [if_pos ⟨rfl, c6⟩] at hB
          rw [if_pos (by rw [c6]; rfl), if_pos (by omega)]
          refine hstep _ _ hB ?_
          omega
        rw [if_neg (fun e => c6 e.2)] at hB
        rw [if_neg (by simpa using c6), if_pos trivial]
        by_cases c7 : c = 10
        · rw [if_pos ⟨rfl, c7⟩] at hB
          rw [if_pos c7, if_pos (by omega)]
          refine hstep _ _ hB ?_
          omega
        rw [if_neg (fun e => c7 e.2)] at hB
        rw [if_neg c7, if_pos (by omega)]
        refine hstep _ _ hB ?_
        omega
    · simp only [rubricref2_Escape.l0]
      rw [if_neg (by omega), List.take_of_length_le (by omega)]
theorem rescape_c (s : ByteArray) (attr : Bool) (w : World) (hs : s.size ≤ 1000000) : Calls Tryd.prog 12 #[.string s, .bool attr] w fun e w' => e = .returned (.string (strOfNums (escS attr (bytesOf s)))) ∧ Below w.heap.size w w' :=
  rubricref2_Escape.calls (3 * s.size + 1) s attr _ w (by
    have := rescape_go s attr hs s.size 0 (3 * s.size + 1) (by omega) (by omega) (by omega)
    exact this)
/-- Right over a text turned to bytes. -/
theorem right_str (s : ByteArray) (w : World) (cap : Nat) (fr : Nat × Nat) (hcap : s.size ≤ cap) (hs : s.size ≤ 140737488355328) :
    Calls Tryd.prog 10 #[.slice (some ⟨w.heap.size, 0, none⟩) s.size cap] (w.alloc (.cells (bytesRow s cap) 5 fr)).drew fun e W => e = .returned (.tuple #[.int .i64 (rightS s.size (bytesOf s)).1, .bool (rightS s.size (bytesOf s)).2]) ∧ Below w.heap.size w W := by
  have hl : (bytesOf s).length = s.size := by unfold bytesOf; simp
  obtain ⟨K, hK⟩ := rright_eq (bytesOf s) (bytes_of s) (by rw [hl]; exact hs)
  have hb := ((Below.refl w.heap.size w).alloc (Nat.le_refl _) (.cells (bytesRow s cap) 5 fr)).drew
  have h := hK K (Nat.le_refl _)
  rw [hl] at h
  have hr : (Kd.int .u8).C (w.alloc (.cells (bytesRow s cap) 5 fr)).drew (some ⟨w.heap.size, 0, none⟩) (bytesOf s).length (bytesOf s) := by
    refine ⟨rfl, by rw [hl]; omega, fun _ => ⟨_, rfl, fun j p hj => ⟨[.int .u8 p], rfl, rfl, fun i u hi => ?_⟩⟩⟩
    obtain ⟨hjl, hjp⟩ := List.getElem?_eq_some_iff.1 hj
    cases i with
    | succ i => cases hi
    | zero =>
      cases hi
      rw [plain_add]
      have := bytes_row_cell w s cap fr j (by omega)
      rw [List.getD_eq_getElem?_getD, hj] at this
      show (w.alloc _).cell? ⟨w.heap.size, 0 + (j * 1 + 0), none⟩ = _
      rw [show 0 + (j * 1 + 0) = j from by omega]
      exact this
  have hc := rubricref1_Right.calls K (some ⟨w.heap.size, 0, none⟩) cap (bytesOf s) _ _ _ hr (by rw [hl]; exact hcap) h
  rw [hl] at hc
  exact hc.mono fun e W ⟨he, hd⟩ => ⟨he, hb.trans (hd.below.mono hb.size)⟩
end Go.Proofs.YtgbodhlofebajaaDoorX
end
section
set_option linter.unusedVariables false
namespace Go.Proofs.YtgbodhlofebajaaDoorX
open Go.RowKit Go.Shelf Go.Proofs.YtgbodhlofebajaaDoor.PXmlBase Go.Proofs.YtgbodhlofebajaaDoorW.PrintWords
theorem str_of_bytes (s : ByteArray) : strOfNums (bytesOf s) = s := by
  apply ByteArray.ext
  unfold strOfNums bytesOf
  apply Array.ext'
  simp only [List.map_map]
  conv => rhs; rw [← List.map_id s.data.toList]
  refine List.map_congr_left fun x hx => ?_
  simp
theorem escapes_read {w W : World} {e : Ending} {vs rs : List Int} (hv : Chars vs) (hr : Chars rs) (h1 : (encAll vs).length ≤ 600) (h2 : (encAll rs).length ≤ 600) (h : AllR w (allE (escDoc vs rs) (limOf 0 0 0 0)) e W) :
    ∃ g n cap gA oA cA fa, e = .returned (.tuple #[.slice (some ⟨g, 0, none⟩) n cap, .int .i64 fa, .int .i64 0]) ∧ Below w.heap.size w W ∧ n ≤ cap ∧ W.cell? ⟨g, 4, none⟩ = some (.slice (some ⟨gA, oA, none⟩) 1 cA) ∧ 1 ≤ cA ∧ W.cell? ⟨gA, oA + 1, none⟩ = some (.string (strOfNums (encAll vs))) ∧ (encAll rs = [] → n = 2) ∧ (encAll rs ≠ [] → n = 3 ∧ W.cell? ⟨g, 8, none⟩ = some (.string (strOfNums (encAll rs)))) := by
  obtain ⟨p, ta, q, u, e1, e2⟩ := esc_doc hv hr h1 h2
  obtain ⟨A, cap, hC⟩ := h.c
  rw [e1] at hC
  obtain ⟨g, rfl, hg, k0, k1, k2, k3, av, k4, k5⟩ := hC.cells 0 ⟨1, 0, [97], [], [⟨[118], encAll vs, p⟩]⟩ rfl
  obtain ⟨A0, c0, rfl, hc0⟩ := k5.slice
  obtain ⟨gA, oA, rfl⟩ := k5.some rfl (Nat.succ_pos _)
  have hA := k5.cells rfl 1 _ rfl
  have he := hC.e
  simp only [e2] at he
  refine ⟨g, _, cap, gA, oA, c0, u.fat, he, hC.below, hC.le, by simpa using k4, hc0, hA, fun h0 => ?_, fun h0 => ?_⟩
  · unfold escEv
    rw [if_pos h0]
    rfl
  · have hes : escEv vs rs p ta q = [⟨1, 0, [97], [], [⟨[118], encAll vs, p⟩]⟩, ⟨3, ta, [], encAll rs, []⟩, ⟨2, q, [97], [], []⟩] := by
      unfold escEv
      rw [if_neg h0]
      rfl
    obtain ⟨g', e', _, _, _, _, m3, _⟩ := hC.cells 1 ⟨3, ta, [], encAll rs, []⟩ (by rw [hes]; rfl)
    cases e'
    exact ⟨by rw [hes]; rfl, m3⟩
set_option maxRecDepth 100000 in
set_option maxHeartbeats 8000000 in
theorem escapes_c {w : World} (hE : EnvW w) (s v : ByteArray) (hs : s.size ≤ 140737488351232) (hv : v.size ≤ 140737488351232) : Calls Tryd.prog 3 #[.string s, .string v] w fun e W => e = .returned (.bool true) ∧ Below w.heap.size w W := by
  have hkn := known_c hE
  have hcv : ∀ (W : World) (s : ByteArray), (convert 9 25 (.string s)).run Tryd.prog W = .ok (.slice (some ⟨W.heap.size, 0, none⟩) s.size (grownCap W s.size 0 5)) (W.drew.alloc (.cells (bytesRow s (grownCap W s.size 0 5)) 5 ((bytesRow s (grownCap W s.size 0 5)).size, (bytesRow s (grownCap W s.size 0 5)).size + 1))) := fun W s => bytes_row W s
  have hrs := fun w cap fr (hc : s.size ≤ cap) => right_str s w cap fr hc (by omega)
  have hrv := fun w cap fr (hc : v.size ≤ cap) => right_str v w cap fr hc (by omega)
  have hes := right_enc s.size (bytesOf s) (bytes_of s) (by rw [bytesOf_length]; exact Nat.le_refl _)
  have hev := right_enc v.size (bytesOf v) (bytes_of v) (by rw [bytesOf_length]; exact Nat.le_refl _)
  generalize rightS s.size (bytesOf s) = RS at *
  generalize rightS v.size (bytesOf v) = RV at *
  obtain ⟨iS, oS⟩ := RS
  obtain ⟨iV, oV⟩ := RV
  simp only at *
  go_enter Tryd.func3, Tryd.ntmps3
  have t1 := True.intro
  by_cases hgood : oS = true ∧ oV = true ∧ s.size ≤ 600 ∧ v.size ≤ 600
  · obtain ⟨rfl, rfl, hs6, hv6⟩ := hgood
    obtain ⟨rs, hr1, hr2⟩ := hes rfl
    obtain ⟨vs, hv1, hv2⟩ := hev rfl
    have e0 : decide (600 < (s.size : Int)) = false := decide_eq_false (by omega)
    have e1 : decide (600 < (v.size : Int)) = false := decide_eq_false (by omega)
    go_wp2_with (first
      | (go_at_call 9; go_loud (refine hkn.mono ?_; clear hkn; rintro e w1 ⟨rfl, hb1⟩))
      | (have _t := t1
         go_at_call 10
         go_loud (clear _t t1; refine (hrs _ _ _ (grownCap_ge _ _ _ _)).mono ?_; clear hrs; rintro e w2 ⟨rfl, hb2⟩; have hbw2 := hb1.trans (hb2.mono hb1.size)))
      | (go_at_call 10
         go_loud (refine (hrv _ _ _ (grownCap_ge _ _ _ _)).mono ?_; clear hrv hcv; rintro e w3 ⟨rfl, hb3⟩; have hbw3 := hbw2.trans (hb3.mono hbw2.size))))
    clear e0 e1 hes hev
    have hlS : (encAll rs).length ≤ 600 := by rw [← hr2, bytesOf_length]; exact hs6
    have hlV : (encAll vs).length ≤ 600 := by rw [← hv2, bytesOf_length]; exact hv6
    have hcs := fun w => escape_c s false w (by omega)
    have hcw := fun w => escape_c v true w (by omega)
    have hks := fun w => rescape_c s false w (by omega)
    have hkw := fun w => rescape_c v true w (by omega)
    have hrd := fun w' W e h => escapes_read (w := w') (W := W) (e := e) hv1 hr1 hlV hlS h
    rw [show strOfNums (encAll vs) = v from by rw [← hv2]; exact str_of_bytes v, show strOfNums (encAll rs) = s from by rw [← hr2]; exact str_of_bytes s] at hrd
    have hz : s = ⟨#[]⟩ → encAll rs = [] := fun e => by
      rw [← hr2, e]
      rfl
    have hz2 : ¬ s = ⟨#[]⟩ → encAll rs ≠ [] := fun e h => e (by
      have := str_of_bytes s
      rw [hr2, h] at this
      exact this.symm)
    rw [hr2] at hcs hks
    rw [hv2] at hcw hkw
    have hxs : (strOfNums (escS false (encAll rs))).size ≤ 3600 := by
      rw [str_size]
      have := escS_len false (encAll rs)
      omega
    have hxv : (strOfNums (escS true (encAll vs))).size ≤ 3600 := by
      rw [str_size]
      have := escS_len true (encAll vs)
      omega
    clear hr2 hv2
    have hdoc : (⟨#[60, 97, 32, 118, 61, 34]⟩ : ByteArray) ++ strOfNums (escS true (encAll vs)) ++ (⟨#[34, 62]⟩ : ByteArray) ++ strOfNums (escS false (encAll rs)) ++ (⟨#[60, 47, 97, 62]⟩ : ByteArray) = strOfNums (escDoc vs rs) := by
      rw [show (⟨#[60, 97, 32, 118, 61, 34]⟩ : ByteArray) = strOfNums [60, 97, 32, 118, 61, 34] from rfl, show (⟨#[34, 62]⟩ : ByteArray) = strOfNums [34, 62] from rfl, show (⟨#[60, 47, 97, 62]⟩ : ByteArray) = strOfNums [60, 47, 97, 62] from rfl]
      rw [str_append, str_append, str_append, str_append]
      unfold escDoc
      simp
    have hdb : Bytes (escDoc vs rs) := by
      have b1 := escS_bytes true (encAll_bytes vs)
      have b2 := escS_bytes false (encAll_bytes rs)
      have h6 : Bytes [60, 97, 32, 118, 61, 34] := bytes_dec (by decide)
      have h2 : Bytes [34, 62] := bytes_dec (by decide)
      have h4 : Bytes [60, 47, 97, 62] := bytes_dec (by decide)
      have := h6.append (b1.append (h2.append (b2.append h4)))
      unfold escDoc
      simpa using this
    have hdl : (escDoc vs rs).length ≤ 10000 := by
      have a1 := escS_len false (encAll rs)
      have a2 := escS_len true (encAll vs)
      unfold escDoc
      simp only [List.length_append, List.length_cons, List.length_nil]
      omega
    have hcv : ∀ (W : World), (convert 9 25 (.string ((⟨#[60, 97, 32, 118, 61, 34]⟩ : ByteArray) ++ strOfNums (escS true (encAll vs)) ++ (⟨#[34, 62]⟩ : ByteArray) ++ strOfNums (escS false (encAll rs)) ++ (⟨#[60, 47, 97, 62]⟩ : ByteArray)))).run Tryd.prog W = .ok (.slice (some ⟨W.heap.size, 0, none⟩) (strOfNums (escDoc vs rs)).size (grownCap W (strOfNums (escDoc vs rs)).size 0 5)) (W.drew.alloc (.cells (bytesRow (strOfNums (escDoc vs rs)) (grownCap W (strOfNums (escDoc vs rs)).size 0 5)) 5 ((bytesRow (strOfNums (escDoc vs rs)) (grownCap W (strOfNums (escDoc vs rs)).size 0 5)).size, (bytesRow (strOfNums (escDoc vs rs)) (grownCap W (strOfNums (escDoc vs rs)).size 0 5)).size + 1))) := fun W => by
      rw [hdoc]
      exact bytes_row W _
    have hdz : (strOfNums (escDoc vs rs)).size ≤ 10000 := by rw [str_size]; exact hdl
    clear hdoc
    refine (hcs _).mono ?_
    rintro e w4 ⟨rfl, hb4⟩
    have hbw4 := hbw3.trans (hb4.mono hbw3.size)
    have t2 := True.intro
    go_wp2_with (first
      | (go_at_call 11; go_loud (refine (hcw _).mono ?_; clear hcw hcs; rintro e w5 ⟨rfl, hb5⟩; have hbw5 := hbw4.trans (hb5.mono hbw4.size)))
      | (have _t := t2
         go_at_call 12
         go_loud (clear _t t2; refine (hks _).mono ?_; clear hks; rintro e w6 ⟨rfl, hb6⟩; have hbw6 := hbw5.trans (hb6.mono hbw5.size)))
      | (go_at_call 12; go_loud (refine (hkw _).mono ?_; clear hkw; rintro e w7 ⟨rfl, hb7⟩; have hbw7 := hbw6.trans (hb7.mono hbw6.size))))
    refine (all_str (n := (strOfNums (escDoc vs rs)).size) rfl hdb (hE.below hbw7) (by omega) _ _ 0 0 0 0 0 0).mono ?_
    intro e w8 hR8
    obtain ⟨g, n, cap, gA, oA, cA, fa, rfl, hb8, hcap, k1, hcA, k2, k3, k4⟩ := hrd _ _ _ hR8
    have hby := ((Below.refl w7.heap.size w7).alloc (Nat.le_refl _) (.cells (bytesRow (strOfNums (escDoc vs rs)) (grownCap w7 (strOfNums (escDoc vs rs)).size 0 5)) 5 ((bytesRow (strOfNums (escDoc vs rs)) (grownCap w7 (strOfNums (escDoc vs rs)).size 0 5)).size, (bytesRow (strOfNums (escDoc vs rs)) (grownCap w7 (strOfNums (escDoc vs rs)).size 0 5)).size + 1))).drew
    have hbw8 := hbw7.trans ((hby.trans (hb8.mono hby.size)).mono hbw7.size)
    clear hby hb8 hR8 hrd hcv
    by_cases hse : s = ⟨#[]⟩
    · obtain rfl := k3 (hz hse)
      subst hse
      go_wp2
      go_ret
      exact ⟨rfl, hbw8⟩
    · obtain ⟨rfl, k5⟩ := k4 (hz2 hse)
      have hse2 : s.toList.isEmpty = false := by
        cases hq : s.toList.isEmpty with
        | false => rfl
        | true =>
          exfalso
          rw [List.isEmpty_iff, ByteArray.toList_eq] at hq
          apply hse
          apply ByteArray.ext
          exact Array.ext' hq
      have hse3 : ¬ s.toList = [] := by
        intro e
        rw [e] at hse2
        cases hse2
      clear hz hz2 k3 k4
      go_wp2
      go_ret
      exact ⟨rfl, hbw8⟩
  · go_wp2_with (first
      | (go_at_call 9; go_loud (refine hkn.mono ?_; clear hkn; rintro e w1 ⟨rfl, hb1⟩))
      | (have _t := t1
         go_at_call 10
         go_loud (clear _t t1; refine (hrs _ _ _ (grownCap_ge _ _ _ _)).mono ?_; clear hrs; rintro e w2 ⟨rfl, hb2⟩; have hbw2 := hb1.trans (hb2.mono hb1.size)))
      | (go_at_call 10
         go_loud (refine (hrv _ _ _ (grownCap_ge _ _ _ _)).mono ?_; clear hrv hcv; rintro e w3 ⟨rfl, hb3⟩; have hbw3 := hbw2.trans (hb3.mono hbw2.size))))
    all_goals first
      | (go_ret; exact ⟨rfl, hbw3⟩)
      | skip
    all_goals
      exfalso
      apply hgood
      refine ⟨?_, ?_, by omega, by omega⟩ <;> simp_all
end Go.Proofs.YtgbodhlofebajaaDoorX
end
