/- What is proved: what the claims of this seat share, part 16: a program of ours merged it out of our own texts, the print's words and the laid shelf. Conditions: those of each. -/
import Derived.Test.YtgbodhlofebajaaDoorMB15
import Derived.ChangeSlices
import Derived.Lib.SmallJoins
import Derived.OpenShut
import Derived.ProofKit
import Derived.WalkKit
set_option linter.unusedVariables false
set_option linter.unusedSimpArgs false
section
set_option linter.unusedVariables false
namespace Go.Proofs.YtgbodhlofebajaaDoorX
open Go.ChangeShapes Go.WideShapes Go.ChangeAt Go.RowKit Go.Proofs.YtgbodhlofebajaaDoor.PXmlBase Go.Proofs.YtgbodhlofebajaaDoorW.PrintWords
theorem u8_wf {x : Int} (h : (Lit.int .u8 x).wf = true) : 0 ≤ x ∧ x < 256 := bytes_wf (l := [x]) (fun y hy => by simp at hy; rw [hy]; exact h) x (by simp)
theorem bytes_arg {H : Type} {enc : TypeId × Value → H} {W : World} {ad : Option Addr} {len cap fuel : Nat} {x : DataW H × List MemPlace} (h : DataW.trod enc Tryd.prog W 0 (fun _ => true) true fuel 25 (Value.slice ad len cap).cells.toList = some x) :
    ∃ bs, Bytes bs ∧ bs.length = len ∧ (∀ a, ad = some a → ∀ j x, bs[j]? = some x → W.cell? (a.add j) = some (.int .u8 x)) ∧ (ad = none → bs = []) := by
  rcases open_ints Tryd.underlying25 Tryd.underlying5 (by kernel_rfl) h with ⟨hcs, _⟩ | ⟨x, l, c, zs, hcs, _, hl, hm, hz, _, hcell, hwz⟩
  · simp [Value.cells] at hcs
    obtain ⟨rfl, rfl, rfl⟩ := hcs
    exact ⟨[], fun x hx => by (cases hx), rfl, fun a e => by (cases e), fun _ => rfl⟩
  · simp [Value.cells] at hcs
    obtain ⟨rfl, rfl, rfl⟩ := hcs
    simp only [if_true] at hz
    refine ⟨zs.take len, (bytes_wf hwz).take len, by rw [List.length_take, hz]; omega, fun a e j y hj => ?_, fun e => by cases e⟩
    cases e
    rw [List.getElem?_take] at hj
    split at hj
    · have hjl := (List.getElem?_eq_some_iff.1 hj).1
      rw [hcell j hjl, List.getD_eq_getElem?_getD, hj]
      rfl
    · cases hj
theorem array6 {α : Type} {cs : Array α} (h : cs.size = 6) : ∃ c0 c1 c2 c3 c4 c5, cs = #[c0, c1, c2, c3, c4, c5] := by
  obtain ⟨l⟩ := cs
  match l, h with
  | [c0, c1, c2, c3, c4, c5], _ => exact ⟨c0, c1, c2, c3, c4, c5, rfl⟩
set_option maxRecDepth 100000 in
theorem limits_arg {H : Type} {enc : TypeId × Value → H} {W : World} {r : Reach} {base b0 : Nat} {sp : Nat → Bool} {held : Bool} {v : Value} {d : DataW H} {p : List MemPlace} (hv : Value.okWide Tryd.prog W r b0 32 v) (h : DataW.Trod enc Tryd.prog W base sp held 32 v d p) :
    ∃ l0 l1 l2 l3 l4 l5, v = .agg #[.int .i64 l0, .int .i64 l1, .int .i64 l2, .int .i64 l3, .int .i64 l4, .int .i64 l5] := by
  obtain ⟨cs, rfl, hsz⟩ := okWide_struct Tryd.underlying32 hv
  have hC : Tryd.prog.cellsOf 32 = 6 := by kernel_rfl
  obtain ⟨c0, c1, c2, c3, c4, c5, rfl⟩ := array6 (hsz.trans hC)
  obtain ⟨fuel, hf⟩ := h
  obtain ⟨xs, n, _, _, hl, hlen, hx⟩ := DataW.trod_struct Tryd.underlying32 hf
  have k1 : Tryd.prog.cellsOf 3 = 1 := by kernel_rfl
  have hlen6 : xs.length = 6 := hlen
  have g : ∀ i c, [c0, c1, c2, c3, c4, c5][i]? = some c → i < 6 → ∃ y fuel', DataW.trod enc Tryd.prog W base sp held fuel' 3 [c] = some y := by
    intro i c hc hi
    have hy : xs[i]? = some (xs[i]'(by omega)) := List.getElem?_eq_getElem (by omega)
    generalize xs[i]'(by omega) = y at hy
    match i, hi, hc, hy with
    | 0, _, hc, hy => cases hc; exact ⟨y, n, by have := (hx 0 _ rfl).trans hy; simpa [Value.cells, k1] using this⟩
    | 1, _, hc, hy => cases hc; exact ⟨y, n, by have := (hx 1 _ rfl).trans hy; simpa [Value.cells, k1] using this⟩
    | 2, _, hc, hy => cases hc; exact ⟨y, n, by have := (hx 2 _ rfl).trans hy; simpa [Value.cells, k1] using this⟩
    | 3, _, hc, hy => cases hc; exact ⟨y, n, by have := (hx 3 _ rfl).trans hy; simpa [Value.cells, k1] using this⟩
    | 4, _, hc, hy => cases hc; exact ⟨y, n, by have := (hx 4 _ rfl).trans hy; simpa [Value.cells, k1] using this⟩
    | 5, _, hc, hy => cases hc; exact ⟨y, n, by have := (hx 5 _ rfl).trans hy; simpa [Value.cells, k1] using this⟩
  have z : ∀ i c, [c0, c1, c2, c3, c4, c5][i]? = some c → i < 6 → ∃ l, c = .int .i64 l := by
    intro i c hc hi
    obtain ⟨y, f, hy⟩ := g i c hc hi
    obtain ⟨k, e, _⟩ := DataW.trod_int Tryd.underlying3 hy
    exact ⟨k, by simpa using e⟩
  obtain ⟨l0, rfl⟩ := z 0 c0 rfl (by decide)
  obtain ⟨l1, rfl⟩ := z 1 c1 rfl (by decide)
  obtain ⟨l2, rfl⟩ := z 2 c2 rfl (by decide)
  obtain ⟨l3, rfl⟩ := z 3 c3 rfl (by decide)
  obtain ⟨l4, rfl⟩ := z 4 c4 rfl (by decide)
  obtain ⟨l5, rfl⟩ := z 5 c5 rfl (by decide)
  exact ⟨l0, l1, l2, l3, l4, l5, rfl⟩
end Go.Proofs.YtgbodhlofebajaaDoorX
end
section
set_option linter.unusedVariables false
namespace Go.Proofs.YtgbodhlofebajaaDoorX
open Go.RowKit Go.Shelf Go.Proofs.YtgbodhlofebajaaDoor.PXmlBase Go.Proofs.YtgbodhlofebajaaDoorW.PrintWords
theorem enc_ascii {c : Int} (h : 0 ≤ c ∧ c < 128) : encS c = [c] := by
  unfold encS
  split
  · omega
  · rw [if_pos (by omega)]
section
variable {bs : List Int} {a : Nat} {c : Int} {t : List Int}
theorem at_lt (h : bs.drop a = c :: t) : a < bs.length := by
  rcases Nat.lt_or_ge a bs.length with h1 | h1
  · exact h1
  · rw [List.drop_eq_nil_of_le h1] at h
    cases h
theorem dec_ascii (hc : 0 ≤ c ∧ c < 128) (t : List Int) : decS (c :: t) = (c, 1) := by
  have h := decS_enc c t (by rw [enc_ascii hc]; simp)
  rw [enc_ascii hc] at h
  exact h
theorem char_ascii (hc : 32 ≤ c ∧ c < 128) : charB c = true := by
  unfold charB
  rw [decide_eq_true_eq]
  omega
theorem peek_at (h : bs.drop a = c :: t) (hc : 32 ≤ c ∧ c < 128) : peekS bs a = .ok c := by
  unfold peekS
  have := at_lt h
  rw [if_neg (by omega), h]
  have : (c :: t).take 4 = c :: t.take 3 := rfl
  rw [this, dec_ascii (by omega), if_pos (char_ascii hc)]
theorem must_at (h : bs.drop a = c :: t) (hc : 32 ≤ c ∧ c < 128) : mustS bs a = .ok c := by
  unfold mustS
  have := at_lt h
  rw [if_neg (by omega)]
  exact peek_at h hc
theorem step_at (hc : 0 ≤ c ∧ c < 128) : stepS c a = a + 1 := by
  unfold stepS
  rw [enc_ascii hc]
  rfl
theorem next_at (h : bs.drop a = c :: t) (hc : 32 ≤ c ∧ c < 128) : nextS bs a = .ok (c, a + 1) := by
  unfold nextS
  rw [peek_at h hc]
  show Except.ok (c, stepS c a) = _
  rw [step_at (by omega)]
theorem drop_next (h : bs.drop a = c :: t) : bs.drop (a + 1) = t := by
  rw [← List.drop_drop, h]
  rfl
theorem drop_add {l : List Int} (h : bs.drop a = l ++ t) : bs.drop (a + l.length) = t := by
  rw [← List.drop_drop, h]
  simp
theorem white_no (h : bs.drop a = c :: t) (hc : 32 < c ∧ c < 128) : whiteS bs a = .ok a := by
  unfold whiteS whiteL
  rw [peek_at h (by omega)]
  simp only
  rw [if_neg]
  unfold whiteB
  rw [decide_eq_true_eq]
  omega
theorem has_no {y : Int} {w0 w1 : Int} {ws : List Int} (hd : bs.drop a = c :: y :: t) (hw : ¬ (c = w0 ∧ y = w1)) : hasS bs (w0 :: w1 :: ws) a = (false, false) := by
  unfold hasS
  rw [hd]
  rw [if_neg]
  simp only [List.length_cons, List.take_succ_cons, List.isPrefixOf, Bool.and_eq_true, beq_iff_eq]
  intro h
  exact hw ⟨h.1, h.2.1⟩
theorem has_no1 {w0 : Int} {ws : List Int} (hd : bs.drop a = c :: t) (hw : c ≠ w0) : hasS bs (w0 :: ws) a = (false, false) := by
  unfold hasS
  rw [hd]
  rw [if_neg]
  simp only [List.length_cons, List.take_succ_cons, List.isPrefixOf, Bool.and_eq_true, beq_iff_eq]
  intro h
  exact hw h.1
/-- Small letters. -/
def Small (nm : List Int) : Prop := ∀ x ∈ nm, 97 ≤ x ∧ x ≤ 122
theorem part_small (hc : 97 ≤ c ∧ c ≤ 122) : startB c = true ∧ partB c = true := by
  have h : startB c = true := by
    unfold startB
    rw [decide_eq_true_eq]
    omega
  refine ⟨h, ?_⟩
  unfold partB
  rw [decide_eq_true_eq]
  exact .inl h
/-- A letter that ends a name. -/
def Stop (c : Int) : Prop := 32 ≤ c ∧ c < 65 ∧ ¬ (48 ≤ c ∧ c ≤ 58) ∧ c ≠ 45 ∧ c ≠ 46
theorem Stop.part (h : Stop c) : partB c = false := by
  obtain ⟨h1, h2, h3, h4, h5⟩ := h
  unfold partB startB
  rw [decide_eq_false_iff_not, decide_eq_true_eq]
  omega
theorem nameL_at {tk at0 : Nat} (hc : Stop c) : ∀ (nm : List Int) (k a : Nat), Small nm → nm.length < k → at0 ≤ a → a + nm.length ≤ at0 + tk → bs.drop a = nm ++ c :: t → nameL bs tk at0 k a = .ok (a + nm.length)
  | [], k + 1, a, _, _, _, _, hd => by
    unfold nameL
    rw [peek_at hd ⟨hc.1, by have := hc.2.1; omega⟩]
    simp only
    rw [if_neg (by rw [hc.part]; decide)]
    rfl
  | x :: nm, k + 1, a, hs, hk, h0, htk, hd => by
    have hx := hs x List.mem_cons_self
    have hd1 : bs.drop a = x :: (nm ++ c :: t) := hd
    unfold nameL
    rw [peek_at hd1 (by omega)]
    simp only
    rw [if_pos (part_small hx).2, step_at (by omega)]
    simp only [List.length_cons] at htk hk
    rw [if_neg (by omega), nameL_at hc nm k (a + 1) (fun y hy => hs y (List.mem_cons_of_mem _ hy)) (by omega) (by omega) (by omega) (drop_next hd1)]
    rw [List.length_cons]
    congr 1
    omega
theorem name_at {tk : Nat} (hc : Stop c) {nm : List Int} (hs : Small nm) (h0 : nm ≠ []) (htk : nm.length ≤ tk) (hd : bs.drop a = nm ++ c :: t) : nameS bs tk a = .ok (nm, a + nm.length) := by
  have hlen : nm.length < bs.length + 1 := by
    have := congrArg List.length hd
    simp at this
    omega
  match nm, h0 with
  | x :: r, _ =>
    have hx := hs x List.mem_cons_self
    have hd1 : bs.drop a = x :: (r ++ c :: t) := hd
    unfold nameS
    rw [peek_at hd1 (by omega)]
    simp only
    rw [if_pos (part_small hx).1, nameL_at hc (x :: r) (bs.length + 1) a hs hlen (Nat.le_refl _) (by omega) hd]
    simp only [cutS]
    rw [hd]
    congr 2
    rw [Nat.add_sub_cancel_left]
    simp
theorem attrs_no {tk na : Nat} (hd : bs.drop a = 62 :: t) : attrsS bs tk na a = .ok ([], a) := by
  unfold attrsS attrsL
  rw [white_no hd (by omega)]
  simp only
  rw [must_at hd (by omega)]
  simp
end
def openB (nm : List Int) : List Int := 60 :: (nm ++ [62])
def closeB (nm : List Int) : List Int := 60 :: 47 :: (nm ++ [62])
/-- A start's tag, behind its mark. -/
theorem tag_at {bs : List Int} {L : Lim} {s : St} {at_ : Nat} {nm t : List Int} (hs : Small nm) (h0 : nm ≠ []) (htk : nm.length ≤ L.token) (hd : bs.drop s.at_ = nm ++ 62 :: t) (h1 : s.opn.length ≠ L.depth) (h2 : s.nodes ≠ L.nodes) :
    tagS bs L s at_ = .ok (tellS { s with at_ := s.at_ + nm.length + 1, nodes := s.nodes + 1, most := max s.most (s.opn.length + 1), state := 1, opn := s.opn ++ [nm] } [⟨1, at_, nm, [], []⟩]) := by
  have hst : Stop 62 := by unfold Stop; omega
  have hd2 := drop_add hd
  unfold tagS
  rw [if_neg (by omega), name_at hst hs h0 htk hd]
  simp only
  rw [attrs_no hd2]
  simp only
  rw [peek_at hd2 (by omega)]
  simp only
  rw [if_neg (by decide), step_at (by omega)]
  unfold tagE
  simp
theorem end_at {bs : List Int} {L : Lim} {s : St} {at_ : Nat} {nm t : List Int} (hs : Small nm) (h0 : nm ≠ []) (htk : nm.length ≤ L.token) (hd : bs.drop s.at_ = nm ++ 62 :: t) :
    endS bs L s at_ = if nm ≠ s.opn.getLastD [] then .error (at_, 2) else .ok (leftS (tellS { s with at_ := s.at_ + nm.length + 1, opn := s.opn.dropLast } [⟨2, at_, nm, [], []⟩])) := by
  have hst : Stop 62 := by unfold Stop; omega
  have hd2 := drop_add hd
  match nm, h0 with
  | x :: r, _ =>
    have hx := hs x List.mem_cons_self
    have hd1 : bs.drop s.at_ = x :: (r ++ 62 :: t) := hd
    unfold endS
    rw [must_at hd1 (by omega)]
    simp only
    rw [name_at hst hs (by simp) htk hd]
    simp only
    rw [must_at hd2 (by omega)]
    simp only
    split
    · rfl
    · rw [white_no hd2 (by omega)]
      simp only
      rw [must_at hd2 (by omega)]
      simp only
      rw [if_neg (by decide), step_at (by omega)]
theorem early_no {bs : List Int} {a : Nat} {l : List (List Int)} (h : ∀ w ∈ l, hasS bs w a = (false, false)) : earlyS bs l a = none := by
  unfold earlyS
  rw [if_neg]
  intro hh
  obtain ⟨w, hw, h1⟩ := List.any_eq_true.1 hh
  rw [h w hw] at h1
  cases h1
/-- A mark with a name behind it, in an element. -/
theorem mark_open {bs : List Int} {L : Lim} {s : St} {x : Int} {t : List Int} (hx : 97 ≤ x ∧ x ≤ 122) (hd : bs.drop s.at_ = 60 :: x :: t) : contentT bs L s = tagS bs L { s with at_ := s.at_ + 1 } s.at_ := by
  have hno : ∀ w1 ws, x ≠ w1 → hasS bs (60 :: w1 :: ws) s.at_ = (false, false) := fun w1 ws h => has_no hd (fun e => h e.2)
  have hd1 := drop_next hd
  unfold contentT
  rw [must_at hd (by omega)]
  simp only
  rw [if_pos trivial]
  unfold markS
  rw [hno 33 _ (by omega), hno 33 _ (by omega)]
  simp only [Bool.false_eq_true, if_false]
  rw [early_no (l := [[60, 33, 45, 45], [60, 33, 91, 67, 68, 65, 84, 65, 91]]) (fun w hw => by
    simp only [List.mem_cons, List.not_mem_nil, or_false] at hw
    rcases hw with rfl | rfl
    · exact hno 33 _ (by omega)
    · exact hno 33 _ (by omega))]
  simp only [ite_self]
  unfold markU strayS
  rw [hno 33 _ (by omega)]
  simp only [Bool.false_eq_true, if_false]
  unfold markT
  rw [next_at hd (by omega)]
  simp only
  rw [must_at hd1 (by omega)]
  simp only
  rw [if_neg (by omega), if_neg (by omega), if_pos (part_small hx).1]
theorem mark_close {bs : List Int} {L : Lim} {s : St} {t : List Int} (hd : bs.drop s.at_ = 60 :: 47 :: t) : contentT bs L s = endS bs L { s with at_ := s.at_ + 2 } s.at_ := by
  have hno : ∀ w1 ws, (47 : Int) ≠ w1 → hasS bs (60 :: w1 :: ws) s.at_ = (false, false) := fun w1 ws h => has_no hd (fun e => h e.2)
  have hd1 := drop_next hd
  unfold contentT
  rw [must_at hd (by omega)]
  simp only
  rw [if_pos trivial]
  unfold markS
  rw [hno 33 _ (by omega), hno 33 _ (by omega)]
  simp only [Bool.false_eq_true, if_false]
  rw [early_no (l := [[60, 33, 45, 45], [60, 33, 91, 67, 68, 65, 84, 65, 91]]) (fun w hw => by
    simp only [List.mem_cons, List.not_mem_nil, or_false] at hw
    rcases hw with rfl | rfl
    · exact hno 33 _ (by omega)
    · exact hno 33 _ (by omega))]
  simp only [ite_self]
  unfold markU strayS
  rw [hno 33 _ (by omega)]
  simp only [Bool.false_eq_true, if_false]
  unfold markT
  rw [next_at hd (by omega)]
  simp only
  rw [must_at hd1 (by omega)]
  simp only
  rw [if_neg (by omega), if_pos trivial, step_at (by omega)]
end Go.Proofs.YtgbodhlofebajaaDoorX
end
section
set_option linter.unusedVariables false
namespace Go.Proofs.YtgbodhlofebajaaDoorX
open Go.RowKit Go.Shelf Go.Proofs.YtgbodhlofebajaaDoor.PXmlBase Go.Proofs.YtgbodhlofebajaaDoorW.PrintWords
theorem fill_body {bs : List Int} {L : Lim} {s : St} (hr : s.ready = []) (h3 : s.state ≠ 3) : fillE bs L s = stepE bs L s := by
  unfold fillE
  rw [if_pos ⟨hr, h3⟩]
theorem nx_ok {bs : List Int} {L : Lim} {s s' : St} {e : XE} {r : List XE} (hr : s.ready = []) (h3 : s.state ≠ 3) (hb : bodyS bs L s = .ok s') (hr' : s'.ready = e :: r) : nextE bs L s = (some e, { s' with ready := r, depth := depthE e.kind s'.depth }) := by
  unfold nextE
  rw [fill_body hr h3]
  unfold stepE
  rw [hb]
  simp only
  unfold popE
  rw [hr']
theorem nx_none {bs : List Int} {L : Lim} {s s' : St} (hr : s.ready = []) (h3 : s.state ≠ 3) (hb : bodyS bs L s = .ok s') (hr' : s'.ready = []) : nextE bs L s = (none, s') := by
  unfold nextE
  rw [fill_body hr h3]
  unfold stepE
  rw [hb]
  simp only
  unfold popE
  rw [hr']
theorem nx_err {bs : List Int} {L : Lim} {s : St} {f : Flt} (hr : s.ready = []) (h3 : s.state ≠ 3) (hb : bodyS bs L s = .error f) : nextE bs L s = (none, { s with fat := f.1, ferr := f.2, state := 3 }) := by
  unfold nextE
  rw [fill_body hr h3]
  unfold stepE
  rw [hb]
  simp only
  unfold popE
  simp [hr]
theorem nx_more {bs : List Int} {L : Lim} {s : St} {e : XE} {r : List XE} (hr : s.ready = e :: r) : nextE bs L s = (some e, { s with ready := r, depth := depthE e.kind s.depth }) := by
  unfold nextE fillE
  rw [if_neg (by rw [hr]; simp)]
  unfold popE
  rw [hr]
theorem body_content {bs : List Int} {L : Lim} {s : St} (h1 : s.state = 1) : bodyS bs L s = contentL bs L (bs.length + 2) s := by
  unfold bodyS contentS
  rw [if_neg (by omega), if_pos h1]
theorem content_ok {bs : List Int} {L : Lim} {s s' : St} {k : Nat} (hr : s.ready = []) (hb : contentT bs L s = .ok s') (hr' : s'.ready ≠ []) : contentL bs L (k + 2) s = .ok s' := by
  unfold contentL
  rw [if_neg (by simp [hr]), hb]
  simp only
  unfold contentL
  rw [if_pos hr']
theorem content_more {bs : List Int} {L : Lim} {s s' : St} {k : Nat} (hr : s.ready = []) (hb : contentT bs L s = .ok s') : contentL bs L (k + 1) s = contentL bs L k s' := by
  rw [contentL, if_neg (by simp [hr]), hb]
theorem content_err {bs : List Int} {L : Lim} {s : St} {f : Flt} {k : Nat} (hr : s.ready = []) (hb : contentT bs L s = .error f) : contentL bs L (k + 1) s = .error f := by
  rw [contentL, if_neg (by simp [hr]), hb]
theorem nx_content {bs : List Int} {L : Lim} {s s' : St} {e : XE} {r : List XE} (hr : s.ready = []) (h1 : s.state = 1) (hb : contentT bs L s = .ok s') (hr' : s'.ready = e :: r) : nextE bs L s = (some e, { s' with ready := r, depth := depthE e.kind s'.depth }) :=
  nx_ok hr (by omega) (by rw [body_content h1]; exact content_ok hr hb (by rw [hr']; simp)) hr'
/-- Between two tags: at a, the names stk open. -/
structure Ctx (s : St) (a : Nat) (stk : List (List Int)) : Prop where
  at_ : s.at_ = a
  state : s.state = 1
  opn : s.opn = stk
  text : s.text = []
  ready : s.ready = []
  fat : s.fat = 0
  ferr : s.ferr = 0
theorem tell_no {s : St} {l : List XE} (ht : s.text = []) (hr : s.ready = []) : tellS s l = { s with text := [], ready := l } := by
  unfold tellS textE
  rw [if_pos ht, hr]
  simp
section
variable {bs : List Int} {L : Lim} {s : St} {a : Nat} {stk : List (List Int)} {nm t : List Int}
theorem next_open (h : Ctx s a stk) (hs : Small nm) (h0 : nm ≠ []) (htk : nm.length ≤ L.token) (hd : bs.drop a = openB nm ++ t) (h1 : stk.length ≠ L.depth) (h2 : s.nodes ≠ L.nodes) :
    ∃ s', nextE bs L s = (some ⟨1, a, nm, [], []⟩, s') ∧ Ctx s' (a + (openB nm).length) (stk ++ [nm]) ∧ s'.nodes = s.nodes + 1 := by
  match nm, h0 with
  | x :: r, _ =>
    have hx := hs x List.mem_cons_self
    have hd0 : bs.drop s.at_ = 60 :: x :: (r ++ 62 :: t) := by rw [h.at_, hd]; simp [openB]
    have hd1 : bs.drop (s.at_ + 1) = (x :: r) ++ 62 :: t := drop_next hd0
    have hc := mark_open (L := L) hx hd0
    rw [tag_at (s := { s with at_ := s.at_ + 1 }) hs (by simp) htk hd1 (by rw [h.opn]; exact h1) h2, tell_no] at hc
    rotate_left
    · exact h.text
    · exact h.ready
    rw [h.at_] at hc
    refine ⟨_, nx_content h.ready h.state hc rfl, ⟨?_, rfl, ?_, rfl, rfl, h.fat, h.ferr⟩, rfl⟩
    · simp only [openB, List.length_cons, List.length_append, List.length_nil, h.at_]
      omega
    · show s.opn ++ _ = _
      rw [h.opn]
theorem next_deep (h : Ctx s a stk) (hs : Small nm) (h0 : nm ≠ []) (hd : bs.drop a = openB nm ++ t) (h1 : stk.length = L.depth) :
    nextE bs L s = (none, { s with fat := a, ferr := 3, state := 3 }) := by
  match nm, h0 with
  | x :: r, _ =>
    have hx := hs x List.mem_cons_self
    have hd0 : bs.drop s.at_ = 60 :: x :: (r ++ 62 :: t) := by rw [h.at_, hd]; simp [openB]
    have hc := mark_open (L := L) hx hd0
    have ht : tagS bs L { s with at_ := s.at_ + 1 } s.at_ = .error (s.at_, 3) := by
      unfold tagS
      rw [if_pos (.inl (by show s.opn.length = _; rw [h.opn]; exact h1))]
    rw [ht] at hc
    have := nx_err (L := L) h.ready (by rw [h.state]; decide) (by rw [body_content h.state]; exact content_err h.ready hc)
    rw [this, h.at_]
theorem close_at (h : Ctx s a stk) (hs : Small nm) (h0 : nm ≠ []) (htk : nm.length ≤ L.token) (hd : bs.drop a = closeB nm ++ t) :
    contentT bs L s = if nm ≠ stk.getLastD [] then .error (a, 2) else .ok (leftS { s with at_ := a + (closeB nm).length, opn := stk.dropLast, text := [], ready := [⟨2, a, nm, [], []⟩] }) := by
  have hd0 : bs.drop s.at_ = 60 :: 47 :: (nm ++ 62 :: t) := by rw [h.at_, hd]; simp [closeB]
  have hd1 : bs.drop (s.at_ + 2) = nm ++ 62 :: t := drop_next (a := s.at_ + 1) (drop_next hd0)
  rw [mark_close hd0, end_at (s := { s with at_ := s.at_ + 2 }) hs h0 htk hd1, tell_no]
  rotate_left
  · exact h.text
  · exact h.ready
  show (if nm ≠ s.opn.getLastD [] then _ else _) = _
  have e : s.at_ + 2 + nm.length + 1 = a + (closeB nm).length := by
    simp only [closeB, List.length_cons, List.length_append, List.length_nil, h.at_]
    omega
  rw [h.opn, h.at_]
  rw [h.at_] at e
  simp only [e]
theorem next_close (h : Ctx s a stk) (hs : Small nm) (h0 : nm ≠ []) (htk : nm.length ≤ L.token) (hd : bs.drop a = closeB nm ++ t) (h1 : stk.getLastD [] = nm) (h2 : stk.dropLast ≠ []) :
    ∃ s', nextE bs L s = (some ⟨2, a, nm, [], []⟩, s') ∧ Ctx s' (a + (closeB nm).length) stk.dropLast := by
  have hc := close_at (L := L) h hs h0 htk hd
  rw [if_neg (by rw [h1]; exact fun e => e rfl)] at hc
  unfold leftS at hc
  rw [if_neg h2] at hc
  exact ⟨_, nx_content h.ready h.state hc rfl, ⟨rfl, h.state, rfl, rfl, rfl, h.fat, h.ferr⟩⟩
theorem next_last (h : Ctx s a stk) (hs : Small nm) (h0 : nm ≠ []) (htk : nm.length ≤ L.token) (hd : bs.drop a = closeB nm ++ t) (h1 : stk.getLastD [] = nm) (h2 : stk.dropLast = []) :
    ∃ s', nextE bs L s = (some ⟨2, a, nm, [], []⟩, s') ∧ s'.at_ = a + (closeB nm).length ∧ s'.state = 2 ∧ s'.ready = [] ∧ s'.fat = 0 ∧ s'.ferr = 0 := by
  have hc := close_at (L := L) h hs h0 htk hd
  rw [if_neg (by rw [h1]; exact fun e => e rfl)] at hc
  unfold leftS at hc
  rw [if_pos h2] at hc
  exact ⟨_, nx_content h.ready h.state hc rfl, rfl, rfl, rfl, h.fat, h.ferr⟩
theorem next_bad (h : Ctx s a stk) (hs : Small nm) (h0 : nm ≠ []) (htk : nm.length ≤ L.token) (hd : bs.drop a = closeB nm ++ t) (h1 : nm ≠ stk.getLastD []) :
    nextE bs L s = (none, { s with fat := a, ferr := 2, state := 3 }) := by
  have hc := close_at (L := L) h hs h0 htk hd
  rw [if_pos h1] at hc
  exact nx_err (L := L) h.ready (by rw [h.state]; decide) (by rw [body_content h.state]; exact content_err h.ready hc)
theorem next_over (h1 : s.state = 2) (h2 : s.ready = []) (h3 : s.at_ = bs.length) : nextE bs L s = (none, { s with state := 3 }) := by
  have hp : peekS bs bs.length = .ok (-1) := if_pos rfl
  have hw : whiteS bs bs.length = .ok bs.length := by
    unfold whiteS whiteL
    rw [hp]
    rfl
  have hm : miscS bs L.token s.at_ = .ok bs.length := by
    rw [h3]
    unfold miscS miscL
    rw [hw]
    simp
  have hb : bodyS bs L s = .ok { s with at_ := bs.length, state := 3 } := by
    unfold bodyS
    rw [if_neg (by omega), if_neg (by omega), if_pos h1]
    unfold behindS
    rw [hm]
    simp
  rw [nx_none h2 (by omega) hb h2, ← h3]
end
theorem begin_at {bs : List Int} {L : Lim} {x : Int} {t : List Int} (hx : 97 ≤ x ∧ x ≤ 122) (hl : bs.length ≤ 65536) (hd : bs.drop 0 = 60 :: x :: t) : bodyS bs L st0 = tagS bs L { st0 with at_ := 1 } 0 := by
  have hno : ∀ w1 ws, x ≠ w1 → hasS bs (60 :: w1 :: ws) 0 = (false, false) := fun w1 ws h => has_no hd (fun e => h e.2)
  have hd1 := drop_next hd
  have h0 := at_lt hd
  have hm : miscS bs L.token 0 = .ok 0 := by
    unfold miscS miscL
    rw [white_no hd (by omega)]
    simp only
    rw [if_neg (by omega), hno 33 _ (by omega), hno 63 _ (by omega)]
    simp only [Bool.false_eq_true, if_false]
    rw [early_no (l := [[60, 33, 45, 45]]) (fun w hw => by
      simp only [List.mem_cons, List.not_mem_nil, or_false] at hw
      subst hw
      exact hno 33 _ (by omega))]
    simp
  unfold bodyS
  rw [if_pos (show st0.state = 0 from rfl)]
  unfold beginS
  rw [if_neg (by omega)]
  rw [if_neg (by
    show ¬ ((hasS bs [60, 63, 120, 109, 108] 0).1 = true ∧ _)
    rw [hno 63 _ (by omega)]
    exact fun e => absurd e.1 (by decide))]
  show rootS bs L st0 0 = _
  unfold rootS
  rw [hm]
  simp only
  rw [must_at hd (by omega)]
  simp only
  rw [if_neg (by decide)]
  unfold strayS
  rw [hno 33 _ (by omega)]
  simp only [Bool.false_eq_true, if_false]
  rw [step_at (by omega), must_at hd1 (by omega)]
  simp only
  rw [if_pos (part_small hx).1]
theorem next_first {bs : List Int} {L : Lim} {nm t : List Int} (hs : Small nm) (h0 : nm ≠ []) (htk : nm.length ≤ L.token) (hl : bs.length ≤ 65536) (hd : bs.drop 0 = openB nm ++ t) (h1 : L.depth ≠ 0) (h2 : L.nodes ≠ 0) :
    ∃ s', nextE bs L st0 = (some ⟨1, 0, nm, [], []⟩, s') ∧ Ctx s' (openB nm).length [nm] ∧ s'.nodes = 1 := by
  match nm, h0 with
  | x :: r, _ =>
    have hx := hs x List.mem_cons_self
    have hd0 : bs.drop 0 = 60 :: x :: (r ++ 62 :: t) := by rw [hd]; simp [openB]
    have hd1 : bs.drop 1 = (x :: r) ++ 62 :: t := drop_next hd0
    have hc := begin_at (L := L) hx hl hd0
    rw [tag_at (s := { st0 with at_ := 1 }) hs (by simp) htk hd1 (fun e => h1 e.symm) (fun e => h2 e.symm), tell_no] at hc
    rotate_left
    · rfl
    · rfl
    refine ⟨_, nx_ok rfl (by decide) hc rfl, ⟨?_, rfl, rfl, rfl, rfl, rfl, rfl⟩, rfl⟩
    simp only [openB, List.length_cons, List.length_append, List.length_nil]
    omega
def evOpen : Nat → List (List Int) → List XE
  | _, [] => []
  | a, nm :: r => ⟨1, a, nm, [], []⟩ :: evOpen (a + (openB nm).length) r
def evClose : Nat → List (List Int) → List XE
  | _, [] => []
  | a, nm :: r => ⟨2, a, nm, [], []⟩ :: evClose (a + (closeB nm).length) r
/-- Names that a limit lets in. -/
def Nms (L : Lim) (ns : List (List Int)) : Prop := ∀ n ∈ ns, Small n ∧ n ≠ [] ∧ n.length ≤ L.token
theorem run_open {bs : List Int} {L : Lim} {t : List Int} : ∀ (ns : List (List Int)) (s : St) (a : Nat) (stk : List (List Int)) (k : Nat), Ctx s a stk → Nms L ns → bs.drop a = ns.flatMap openB ++ t → stk.length + ns.length ≤ L.depth → s.nodes + ns.length ≤ L.nodes →
    ∃ s', Ctx s' (a + (ns.flatMap openB).length) (stk ++ ns) ∧ s'.nodes = s.nodes + ns.length ∧ allL bs L (ns.length + k) s = (evOpen a ns ++ (allL bs L k s').1, (allL bs L k s').2)
  | [], s, a, stk, k, h, _, _, _, _ => ⟨s, by simpa using h, rfl, by simp [evOpen]⟩
  | nm :: ns, s, a, stk, k, h, hn, hd, h1, h2 => by
    obtain ⟨g1, g2, g3⟩ := hn nm List.mem_cons_self
    rw [List.flatMap_cons, List.append_assoc] at hd
    simp only [List.length_cons] at h1 h2
    obtain ⟨s1, e1, c1, n1⟩ := next_open (L := L) h g1 g2 g3 hd (by omega) (by omega)
    obtain ⟨s2, c2, n2, e2⟩ := run_open ns s1 _ _ k c1 (fun n hm => hn n (List.mem_cons_of_mem _ hm)) (drop_add hd) (by rw [List.length_append, List.length_singleton]; omega) (by omega)
    refine ⟨s2, ?_, by rw [n2, n1, List.length_cons]; omega, ?_⟩
    · rw [List.flatMap_cons, List.length_append, ← Nat.add_assoc]
      simpa using c2
    · rw [show (nm :: ns).length + k = (ns.length + k) + 1 from by simp; omega]
      rw [allL, e1]
      simp only [evOpen, List.cons_append]
      rw [e2]
theorem run_close {bs : List Int} {L : Lim} {t : List Int} : ∀ (cs : List (List Int)) (s : St) (a : Nat) (base : List (List Int)) (k : Nat), base ≠ [] → Ctx s a (base ++ cs.reverse) → Nms L cs → bs.drop a = cs.flatMap closeB ++ t →
    ∃ s', Ctx s' (a + (cs.flatMap closeB).length) base ∧ allL bs L (cs.length + k) s = (evClose a cs ++ (allL bs L k s').1, (allL bs L k s').2)
  | [], s, a, base, k, _, h, _, _ => ⟨s, by simpa using h, by simp [evClose]⟩
  | nm :: cs, s, a, base, k, hb, h, hn, hd => by
    obtain ⟨g1, g2, g3⟩ := hn nm List.mem_cons_self
    rw [List.flatMap_cons, List.append_assoc] at hd
    rw [List.reverse_cons, ← List.append_assoc] at h
    obtain ⟨s1, e1, c1⟩ := next_close (L := L) h g1 g2 g3 hd (by simp) (by rw [List.dropLast_concat]; intro e; exact hb (List.append_eq_nil_iff.1 e).1)
    rw [List.dropLast_concat] at c1
    obtain ⟨s2, c2, e2⟩ := run_close cs s1 _ base k hb c1 (fun n hm => hn n (List.mem_cons_of_mem _ hm)) (drop_add hd)
    refine ⟨s2, ?_, ?_⟩
    · rw [List.flatMap_cons, List.length_append, ← Nat.add_assoc]
      exact c2
    · rw [show (nm :: cs).length + k = (cs.length + k) + 1 from by simp; omega]
      rw [allL, e1]
      simp only [evClose, List.cons_append]
      rw [e2]
theorem allL_none {bs : List Int} {L : Lim} {s u : St} {k : Nat} (h : nextE bs L s = (none, u)) : allL bs L (k + 1) s = ([], u) := by
  rw [allL, h]
theorem allL_some {bs : List Int} {L : Lim} {s u : St} {k : Nat} {x : XE} (h : nextE bs L s = (some x, u)) : allL bs L (k + 1) s = (x :: (allL bs L k u).1, (allL bs L k u).2) := by
  rw [allL, h]
/-- All closed. -/
theorem run_done {bs : List Int} {L : Lim} {s : St} {a : Nat} {cs : List (List Int)} {k : Nat} (h : Ctx s a cs.reverse) (h0 : cs ≠ []) (hn : Nms L cs) (hd : bs.drop a = cs.flatMap closeB) :
    ∃ u, allL bs L (cs.length + 1 + k) s = (evClose a cs, u) ∧ u.fat = 0 ∧ u.ferr = 0 := by
  obtain ⟨ini, x, rfl⟩ : ∃ ini x, cs = ini ++ [x] := ⟨cs.dropLast, cs.getLast h0, (List.dropLast_concat_getLast h0).symm⟩
  rw [List.reverse_append, List.reverse_cons, List.reverse_nil, List.nil_append] at h
  rw [List.flatMap_append] at hd
  have hd' : bs.drop a = ini.flatMap closeB ++ (closeB x ++ []) := by simpa using hd
  obtain ⟨s1, c1, e1⟩ := run_close ini s a [x] (k + 2) (by simp) h (fun n hm => hn n (List.mem_append_left _ hm)) hd'
  obtain ⟨g1, g2, g3⟩ := hn x (by simp)
  have hd1 := drop_add hd'
  obtain ⟨s2, e2, a2, t2, r2, f2, f3⟩ := next_last (L := L) c1 g1 g2 g3 hd1 rfl rfl
  have hd2 := drop_add hd1
  have hlen : s2.at_ = bs.length := by
    have h1 := congrArg List.length hd1
    simp only [List.length_drop, List.append_nil] at h1
    have h2 : 0 < (closeB x).length := by simp [closeB]
    rw [a2]
    omega
  have e3 := next_over (L := L) t2 r2 hlen
  refine ⟨{ s2 with state := 3 }, ?_, f2, f3⟩
  rw [show (ini ++ [x]).length + 1 + k = ini.length + (k + 2) from by simp; omega, e1, allL_some e2, allL_none e3]
  simp only [List.append_nil]
  congr 1
  have : ∀ (l : List (List Int)) (a : Nat), evClose a (l ++ [x]) = evClose a l ++ [⟨2, a + (l.flatMap closeB).length, x, [], []⟩] := by
    intro l
    induction l with
    | nil => intro a; simp [evClose]
    | cons n r ih =>
      intro a
      simp only [List.cons_append, evClose, ih, List.flatMap_cons, List.length_append, Nat.add_assoc]
  rw [this]
/-- One that does not fit. -/
theorem run_bad {bs : List Int} {L : Lim} {s : St} {a : Nat} {base good : List (List Int)} {x bad : List Int} {t : List Int} {k : Nat} (h : Ctx s a (base ++ [x] ++ good.reverse)) (hn : Nms L good) (hb : Small bad ∧ bad ≠ [] ∧ bad.length ≤ L.token) (hne : bad ≠ x) (hd : bs.drop a = good.flatMap closeB ++ (closeB bad ++ t)) :
    ∃ u, allL bs L (good.length + 1 + k) s = (evClose a good, u) ∧ u.fat = ((a + (good.flatMap closeB).length : Nat) : Int) ∧ u.ferr = 2 := by
  obtain ⟨s1, c1, e1⟩ := run_close good s a (base ++ [x]) (k + 1) (by simp) h hn hd
  have e2 := next_bad (L := L) c1 hb.1 hb.2.1 hb.2.2 (drop_add hd) (by simpa using hne)
  exact ⟨{ s1 with fat := ((a + (good.flatMap closeB).length : Nat) : Int), ferr := 2, state := 3 }, by rw [show good.length + 1 + k = good.length + (k + 1) from by omega, e1, allL_none e2]; simp, rfl, rfl⟩
/-- From the begin: all opened. -/
theorem run_begin {bs : List Int} {L : Lim} {ns : List (List Int)} {t : List Int} {k : Nat} (h0 : ns ≠ []) (hn : Nms L ns) (hl : bs.length ≤ 65536) (hd : bs = ns.flatMap openB ++ t) (h1 : ns.length ≤ L.depth) (h2 : ns.length ≤ L.nodes) :
    ∃ s', Ctx s' (ns.flatMap openB).length ns ∧ allL bs L (ns.length + k) st0 = (evOpen 0 ns ++ (allL bs L k s').1, (allL bs L k s').2) := by
  match ns, h0 with
  | nm :: ns, _ =>
    obtain ⟨g1, g2, g3⟩ := hn nm List.mem_cons_self
    simp only [List.length_cons] at h1 h2
    have hd0 : bs.drop 0 = openB nm ++ (ns.flatMap openB ++ t) := by rw [List.drop_zero, hd, List.flatMap_cons, List.append_assoc]
    obtain ⟨s1, e1, c1, n1⟩ := next_first (L := L) g1 g2 g3 hl hd0 (by omega) (by omega)
    have hd1 := drop_add hd0
    rw [Nat.zero_add] at hd1
    obtain ⟨s2, c2, n2, e2⟩ := run_open ns s1 _ [nm] k c1 (fun n hm => hn n (List.mem_cons_of_mem _ hm)) hd1 (by simp; omega) (by omega)
    refine ⟨s2, ?_, ?_⟩
    · rw [List.flatMap_cons, List.length_append]
      simpa using c2
    · rw [show (nm :: ns).length + k = (ns.length + k) + 1 from by simp; omega, allL_some e1, e2]
      simp [evOpen]
end Go.Proofs.YtgbodhlofebajaaDoorX
end
section
set_option linter.unusedVariables false
namespace Go.Proofs.YtgbodhlofebajaaDoorX
open Go.RowKit Go.Shelf Go.Proofs.YtgbodhlofebajaaDoor.PXmlBase Go.Proofs.YtgbodhlofebajaaDoorW.PrintWords
/-- The cells of one event in a row. -/
theorem EvRows.get {w : World} {X : Nat → Prop} : ∀ {es : List XE} {cs : List Value} {i : Nat} {x : XE}, EvRows w X es cs → es[i]? = some x → cs[5 * i]? = some (.int .i64 x.kind) ∧ cs[5 * i + 1]? = some (.int .i64 x.at_) ∧ cs[5 * i + 2]? = some (txt x.name) ∧ cs[5 * i + 3]? = some (txt x.text) ∧ ∃ av, cs[5 * i + 4]? = some av ∧ AttrRow w av x.attrs
  | [], cs, i, x, h, hi => by cases hi
  | y :: t, cs, 0, x, h, hi => by
    obtain ⟨av, rest, rfl, h2, _, _⟩ := h
    simp at hi
    subst hi
    exact ⟨rfl, rfl, rfl, rfl, av, rfl, h2⟩
  | y :: t, cs, i + 1, x, h, hi => by
    obtain ⟨av, rest, rfl, h2, _, h4⟩ := h
    simp only [List.getElem?_cons_succ] at hi
    obtain ⟨k0, k1, k2, k3, k4⟩ := h4.get hi
    have e : ∀ j, (Value.int .i64 y.kind :: .int .i64 y.at_ :: txt y.name :: txt y.text :: av :: rest)[5 * (i + 1) + j]? = rest[5 * i + j]? := fun j => by
      rw [show 5 * (i + 1) + j = (5 * i + j) + 5 from by omega]
      rfl
    refine ⟨(e 0).trans k0, (e 1).trans k1, (e 2).trans k2, (e 3).trans k3, ?_⟩
    obtain ⟨av2, k5, k6⟩ := k4
    exact ⟨av2, (e 4).trans k5, k6⟩
/-- All's answer, cell by cell. -/
structure AllC (w : World) (es : List XE) (fat ferr : Int) (e : Ending) (W : World) (A : Option Addr) (cap : Nat) : Prop where
  e : e = .returned (.tuple #[.slice A es.length cap, .int .i64 fat, .int .i64 ferr])
  below : Below w.heap.size w W
  le : es.length ≤ cap
  cells : ∀ i x, es[i]? = some x → ∃ g, A = some ⟨g, 0, none⟩ ∧ w.heap.size ≤ g ∧ W.cell? ⟨g, i * 5, none⟩ = some (.int .i64 x.kind) ∧ W.cell? ⟨g, i * 5 + 1, none⟩ = some (.int .i64 x.at_) ∧ W.cell? ⟨g, i * 5 + 2, none⟩ = some (txt x.name) ∧ W.cell? ⟨g, i * 5 + 3, none⟩ = some (txt x.text) ∧ ∃ av, W.cell? ⟨g, i * 5 + 4, none⟩ = some av ∧ AttrRow W av x.attrs
theorem AllR.c {w W : World} {R : List XE × St} {e : Ending} (h : AllR w R e W) : ∃ A cap, AllC w R.1 R.2.fat R.2.ferr e W A cap := by
  obtain ⟨ov, cs, rfl, hb, ho, he⟩ := h
  rcases ho.2 with ⟨e1, e2⟩ | ⟨g, cap, cur, e1, hg, hcell, hc, hc2, hc3, hc4⟩
  · refine ⟨none, 0, by rw [e1, e2], hb, by omega, fun i x hi => ?_⟩
    rw [List.eq_nil_of_length_eq_zero e2] at hi
    cases hi
  · subst e1
    refine ⟨some ⟨g, 0, none⟩, cap, rfl, hb, hc, fun i x hi => ⟨g, rfl, hg, ?_⟩⟩
    have hcell2 := ho.cells (g := g) rfl
    obtain ⟨k0, k1, k2, k3, av, k4, k5⟩ := he.get hi
    have rd : ∀ j u, cs[j]? = some u → W.cell? ⟨g, j, none⟩ = some u := fun j u hu => by
      have := hcell2 j u hu
      rw [plain_add, Nat.zero_add] at this
      exact this
    rw [Nat.mul_comm i 5]
    exact ⟨rd _ _ k0, rd _ _ k1, rd _ _ k2, rd _ _ k3, av, rd _ _ k4, k5⟩
def deepO (n : Nat) : List Int := (List.replicate n [97]).flatMap openB
def deepC (n : Nat) : List Int := (List.replicate n [97]).flatMap closeB
theorem rep_len (n : Nat) (l : List Int) (f : List Int → List Int) : ((List.replicate n l).flatMap f).length = n * (f l).length := by
  induction n with
  | zero => simp
  | succ n ih =>
    rw [List.replicate_succ, List.flatMap_cons, List.length_append, ih, Nat.succ_mul]
    omega
theorem deepO_len (n : Nat) : (deepO n).length = 3 * n := by
  unfold deepO
  rw [rep_len]
  show n * 3 = _
  omega
theorem deepC_len (n : Nat) : (deepC n).length = 4 * n := by
  unfold deepC
  rw [rep_len]
  show n * 4 = _
  omega
theorem deepO_succ (n : Nat) : deepO (n + 1) = deepO n ++ [60, 97, 62] := by
  unfold deepO
  rw [List.replicate_succ', List.flatMap_append]
  rfl
theorem deepC_succ (n : Nat) : deepC (n + 1) = deepC n ++ [60, 47, 97, 62] := by
  unfold deepC
  rw [List.replicate_succ', List.flatMap_append]
  rfl
theorem evOpen_get : ∀ (n a i : Nat), i < n → (evOpen a (List.replicate n [97]))[i]? = some ⟨1, a + 3 * i, [97], [], []⟩
  | 0, a, i, h => by omega
  | n + 1, a, 0, h => rfl
  | n + 1, a, i + 1, h => by
    rw [List.replicate_succ]
    simp only [evOpen, List.getElem?_cons_succ]
    rw [evOpen_get n _ i (by omega)]
    congr 2
    show a + 3 + 3 * i = _
    omega
theorem evClose_get : ∀ (n a i : Nat), i < n → (evClose a (List.replicate n [97]))[i]? = some ⟨2, a + 4 * i, [97], [], []⟩
  | 0, a, i, h => by omega
  | n + 1, a, 0, h => rfl
  | n + 1, a, i + 1, h => by
    rw [List.replicate_succ]
    simp only [evClose, List.getElem?_cons_succ]
    rw [evClose_get n _ i (by omega)]
    congr 2
    show a + 4 + 4 * i = _
    omega
theorem evOpen_len : ∀ (ns : List (List Int)) (a : Nat), (evOpen a ns).length = ns.length
  | [], a => rfl
  | n :: r, a => by simp [evOpen, evOpen_len r]
theorem evClose_len : ∀ (ns : List (List Int)) (a : Nat), (evClose a ns).length = ns.length
  | [], a => rfl
  | n :: r, a => by simp [evClose, evClose_len r]
theorem nms_rep {L : Lim} (hL : 1 ≤ L.token) (n : Nat) : Nms L (List.replicate n [97]) := by
  intro x hx
  rw [(List.mem_replicate.1 hx).2]
  exact ⟨fun y hy => by simp at hy; omega, by simp, hL⟩
theorem deep_low {L : Lim} {n : Nat} (h1 : 1 ≤ n) (h2 : n ≤ 100) (hd : n ≤ L.depth) (hn : 100 ≤ L.nodes) (ht : 1 ≤ L.token) :
    ∃ u, allE (deepO n ++ deepC n) L = (evOpen 0 (List.replicate n [97]) ++ evClose (3 * n) (List.replicate n [97]), u) ∧ u.fat = 0 ∧ u.ferr = 0 := by
  have hlo := deepO_len n
  have hlc := deepC_len n
  have hl : (deepO n ++ deepC n).length = 7 * n := by rw [List.length_append]; omega
  have hne : List.replicate n ([97] : List Int) ≠ [] := by
    intro e
    have := congrArg List.length e
    simp at this
    omega
  unfold allE
  have hm : muS (deepO n ++ deepC n).length st0 + 1 = n + (n + 1 + (138 * n + 1)) := by
    rw [hl]
    show 1 + 20 * (7 * n - 0) + 0 + 1 = _
    omega
  obtain ⟨s1, c1, e1⟩ := run_begin (bs := deepO n ++ deepC n) (L := L) (ns := List.replicate n [97]) (t := deepC n) (k := n + 1 + (138 * n + 1)) hne (nms_rep ht n) (by omega) rfl (by simp; omega) (by simp; omega)
  rw [List.length_replicate] at e1
  have hdr : (deepO n ++ deepC n).drop ((List.replicate n ([97] : List Int)).flatMap openB).length = (List.replicate n [97]).flatMap closeB := by
    show (deepO n ++ deepC n).drop (deepO n).length = deepC n
    simp
  obtain ⟨u, e2, f1, f2⟩ := run_done (L := L) (k := 138 * n + 1) (cs := List.replicate n [97]) (by rw [List.reverse_replicate]; exact c1) hne (nms_rep ht n) hdr
  rw [List.length_replicate] at e2
  refine ⟨u, ?_, f1, f2⟩
  rw [hm, e1, e2]
  show (_ ++ evClose (deepO n).length _, _) = _
  rw [hlo]
theorem deep_high {L : Lim} {n : Nat} (h2 : n ≤ 100) (h0 : 1 ≤ L.depth) (hd : L.depth < n) (hn : 100 ≤ L.nodes) (ht : 1 ≤ L.token) :
    ∃ u, allE (deepO n ++ deepC n) L = (evOpen 0 (List.replicate L.depth [97]), u) ∧ u.fat = ((3 * L.depth : Nat) : Int) ∧ u.ferr = 3 := by
  have hlo := deepO_len n
  have hlc := deepC_len n
  have hl : (deepO n ++ deepC n).length = 7 * n := by rw [List.length_append]; omega
  obtain ⟨m, hm⟩ : ∃ m, n = L.depth + (m + 1) := ⟨n - L.depth - 1, by omega⟩
  have hne : List.replicate L.depth ([97] : List Int) ≠ [] := by
    intro e
    have := congrArg List.length e
    simp at this
    omega
  have hsp : deepO n ++ deepC n = (List.replicate L.depth [97]).flatMap openB ++ (openB [97] ++ (deepO m ++ deepC n)) := by
    unfold deepO
    rw [hm, ← List.replicate_append_replicate, List.flatMap_append, List.replicate_succ, List.flatMap_cons]
    simp [List.append_assoc]
  unfold allE
  obtain ⟨s1, c1, e1⟩ := run_begin (bs := deepO n ++ deepC n) (L := L) (ns := List.replicate L.depth [97]) (k := 20 * (7 * n) - L.depth + 1 + 1) hne (nms_rep ht _) (by omega) hsp (by simp) (by simp; omega)
  rw [List.length_replicate] at e1
  have hmu : muS (deepO n ++ deepC n).length st0 + 1 = L.depth + (20 * (7 * n) - L.depth + 1 + 1) := by
    rw [hl]
    show 1 + 20 * (7 * n - 0) + 0 + 1 = _
    omega
  have hdr : (deepO n ++ deepC n).drop ((List.replicate L.depth ([97] : List Int)).flatMap openB).length = openB [97] ++ (deepO m ++ deepC n) := by
    rw [hsp]
    simp
  have e2 := next_deep (L := L) c1 (nm := [97]) (fun y hy => by simp at hy; omega) (by simp) hdr (by simp)
  refine ⟨{ s1 with fat := ((3 * L.depth : Nat) : Int), ferr := 3, state := 3 }, ?_, rfl, rfl⟩
  rw [hmu, e1, allL_none e2]
  have : ((List.replicate L.depth ([97] : List Int)).flatMap openB).length = 3 * L.depth := deepO_len L.depth
  simp only [List.append_nil, this]
end Go.Proofs.YtgbodhlofebajaaDoorX
end
section
set_option linter.unusedVariables false
namespace Go.Proofs.YtgbodhlofebajaaDoorX
open Go.RowKit Go.Shelf Go.Proofs.YtgbodhlofebajaaDoor.PXmlBase Go.Proofs.YtgbodhlofebajaaDoorW.PrintWords
theorem str_append (a b : List Int) : strOfNums a ++ strOfNums b = strOfNums (a ++ b) := by
  unfold strOfNums
  apply ByteArray.ext
  simp
theorem str_size (a : List Int) : (strOfNums a).size = a.length := by
  unfold strOfNums
  show Array.size _ = _
  simp
theorem bytes_str {l : List Int} (h : Bytes l) : bytesOf (strOfNums l) = l := by
  unfold bytesOf strOfNums
  simp only [List.map_map]
  conv => rhs; rw [← List.map_id l]
  refine List.map_congr_left fun x hx => ?_
  obtain ⟨h1, h2⟩ := h x hx
  simp only [Function.comp, id]
  rw [UInt8.toNat_ofNat']
  omega
/-- All of a text turned to bytes. -/
theorem all_str {w : World} {l : List Int} {n : Nat} (hn : (strOfNums l).size = n) (hb : Bytes l) (hE : EnvW w) (hlen : l.length ≤ 1000000) (cap : Nat) (fr : Nat × Nat) (l0 l1 l2 l3 l4 l5 : Int) :
    Calls Tryd.prog 13 #[.slice (some ⟨w.heap.size, 0, none⟩) n cap, .agg #[.int .i64 l0, .int .i64 l1, .int .i64 l2, .int .i64 l3, .int .i64 l4, .int .i64 l5]] (w.alloc (.cells (bytesRow (strOfNums l) cap) 5 fr)).drew (AllR (w.alloc (.cells (bytesRow (strOfNums l) cap) 5 fr)).drew (allE l (limOf l0 l1 l2 l3))) := by
  have hb1 := ((Below.refl w.heap.size w).alloc (Nat.le_refl _) (.cells (bytesRow (strOfNums l) cap) 5 fr)).drew
  refine all_lit (by rw [← hn, str_size]) hb (hE.below hb1) (by rw [← hn, str_size]; exact hlen) (fun j x hj => ?_) (by show _ < (w.alloc _).heap.size; simp) cap l0 l1 l2 l3 l4 l5
  have hjl := (List.getElem?_eq_some_iff.1 hj).1
  have := bytes_row_cell w (strOfNums l) cap fr j (by rw [str_size]; exact hjl)
  rw [bytes_str hb, List.getD_eq_getElem?_getD, hj] at this
  exact this
theorem deep_bytes (n : Nat) : Bytes (deepO n) ∧ Bytes (deepC n) := by
  refine ⟨fun x hx => ?_, fun x hx => ?_⟩
  · obtain ⟨y, hy, hx⟩ := List.mem_flatMap.1 hx
    rw [(List.mem_replicate.1 hy).2] at hx
    simp [openB] at hx
    omega
  · obtain ⟨y, hy, hx⟩ := List.mem_flatMap.1 hx
    rw [(List.mem_replicate.1 hy).2] at hx
    simp [closeB] at hx
    omega
theorem deep_readH {w W : World} {e : Ending} {n : Nat} {most : Int} {D : Nat} (hD : (limS most 64).toNat = D) (h2 : n ≤ 100) (hd : D < n) (h : AllR w (allE (deepO n ++ deepC n) (limOf most 0 0 0)) e W) :
    ∃ A cap, e = .returned (.tuple #[.slice A D cap, .int .i64 (3 * (D : Int)), .int .i64 3]) ∧ Below w.heap.size w W := by
  obtain ⟨A, cap, hC⟩ := h.c
  have h0 := limS_le most 64 (by decide)
  have hDe : (limOf most 0 0 0).depth = D := hD
  obtain ⟨u, e1, e2, e3⟩ := deep_high (L := limOf most 0 0 0) h2 (by rw [hDe]; omega) (by rw [hDe]; exact hd) (by show 100 ≤ (limS 0 4096).toNat; decide) (by show 1 ≤ (limS 0 4096).toNat; decide)
  have he := hC.e
  rw [e1] at he
  simp only [e2, e3, evOpen_len, List.length_replicate, hDe] at he
  exact ⟨A, cap, by rw [he]; push_cast; rfl, hC.below⟩
theorem deep_readL {w W : World} {e : Ending} {n : Nat} {most : Int} (h1 : 1 ≤ n) (h2 : n ≤ 100) (hd : n ≤ (limS most 64).toNat) (h : AllR w (allE (deepO n ++ deepC n) (limOf most 0 0 0)) e W) :
    ∃ g cap, e = .returned (.tuple #[.slice (some ⟨g, 0, none⟩) (2 * n) cap, .int .i64 0, .int .i64 0]) ∧ Below w.heap.size w W ∧ 2 * n ≤ cap ∧ ∀ i, i < n → W.cell? ⟨g, i * 5 + 1, none⟩ = some (.int .i64 (3 * (i : Int))) ∧ W.cell? ⟨g, (n + i) * 5 + 1, none⟩ = some (.int .i64 (3 * (n : Int) + 4 * (i : Int))) ∧ W.cell? ⟨g, (n + i) * 5, none⟩ = some (.int .i64 2) := by
  obtain ⟨A, cap, hC⟩ := h.c
  obtain ⟨u, e1, e2, e3⟩ := deep_low (L := limOf most 0 0 0) h1 h2 hd (by show 100 ≤ (limS 0 4096).toNat; decide) (by show 1 ≤ (limS 0 4096).toNat; decide)
  rw [e1] at hC
  have hlen : (evOpen 0 (List.replicate n [97]) ++ evClose (3 * n) (List.replicate n [97])).length = 2 * n := by
    rw [List.length_append, evOpen_len, evClose_len, List.length_replicate]
    omega
  have ho : ∀ i, i < n → (evOpen 0 (List.replicate n [97]) ++ evClose (3 * n) (List.replicate n [97]))[i]? = some ⟨1, 3 * i, [97], [], []⟩ := fun i hi => by
    rw [List.getElem?_append_left (by rw [evOpen_len, List.length_replicate]; exact hi), evOpen_get n 0 i hi, Nat.zero_add]
  have hc : ∀ i, i < n → (evOpen 0 (List.replicate n [97]) ++ evClose (3 * n) (List.replicate n [97]))[n + i]? = some ⟨2, 3 * n + 4 * i, [97], [], []⟩ := fun i hi => by
    rw [List.getElem?_append_right (by rw [evOpen_len, List.length_replicate]; omega), evOpen_len, List.length_replicate, Nat.add_sub_cancel_left, evClose_get n _ i hi]
  obtain ⟨g, rfl, hg, _⟩ := hC.cells 0 _ (ho 0 h1)
  have he := hC.e
  have hle := hC.le
  simp only [e2, e3, hlen] at he hle
  refine ⟨g, cap, he, hC.below, hle, fun i hi => ?_⟩
  obtain ⟨g1, q1, _, _, q2, _⟩ := hC.cells i _ (ho i hi)
  cases q1
  obtain ⟨g2, r1, _, r2, r3, _⟩ := hC.cells (n + i) _ (hc i hi)
  cases r1
  simp only at q2 r2 r3
  push_cast at q2 r3
  exact ⟨q2, r3, r2⟩
set_option maxRecDepth 100000 in
set_option maxHeartbeats 4000000 in
theorem deep_c {w : World} (hE : EnvW w) (n most : Int) : Calls Tryd.prog 7 #[.int .i64 n, .int .i64 most] w fun e W => e = .returned (.bool true) ∧ Below w.heap.size w W := by
  have hkn := known_c hE
  go_enter Tryd.func7, Tryd.ntmps7
  by_cases h1 : n < 1
  · go_wp2_with (go_at_call 9; go_loud (refine hkn.mono ?_; clear hkn; rintro e w1 ⟨rfl, hb1⟩))
    go_ret
    exact ⟨rfl, hb1⟩
  by_cases h2 : 100 < n
  · go_wp2_with (go_at_call 9; go_loud (refine hkn.mono ?_; clear hkn; rintro e w1 ⟨rfl, hb1⟩))
    go_ret
    exact ⟨rfl, hb1⟩
  obtain ⟨N, rfl⟩ : ∃ N : Nat, n = N := ⟨n.toNat, by omega⟩
  go_wp2_with (go_at_call 9; go_loud (refine hkn.mono ?_; clear hkn; rintro e w1 ⟨rfl, hb1⟩))
  go_loopw [5, 6] (fun d i wr => ∃ k : Nat, k ≤ N ∧ i = .int .i64 k ∧ d = .string (strOfNums (deepO k)) ∧ wr = w1) (fun _ i _ => N - (intOf i).toNat)
  case atStart => exact ⟨0, Nat.zero_le _, rfl, rfl, rfl⟩
  case round =>
    rename World => wx
    obtain ⟨k, hk, rfl, rfl, rfl⟩ := hrel
    have hsz : (strOfNums (deepO k)).size = 3 * k := by rw [str_size, deepO_len]
    by_cases hlt : k < N
    · go_wp2
      refine ⟨⟨k + 1, by omega, by simp, ?_, trivial⟩, by simp [intOf]; omega⟩
      rw [deepO_succ, ← str_append (deepO k) [60, 97, 62]]
      rfl
    · obtain rfl : k = N := by omega
      go_wp2
      go_loopw [5, 7] (fun d i wr => ∃ j : Nat, j ≤ k ∧ i = .int .i64 j ∧ d = .string (strOfNums (deepO k ++ deepC j)) ∧ wr = wx) (fun _ i _ => k - (intOf i).toNat)
      case atStart => exact ⟨0, Nat.zero_le _, rfl, by rw [show deepC 0 = [] from rfl, List.append_nil], rfl⟩
      case round =>
        rename World => wy
        obtain ⟨j, hj, rfl, rfl, rfl⟩ := hrel
        have hsz2 : (strOfNums (deepO k ++ deepC j)).size = 3 * k + 4 * j := by rw [str_size, List.length_append, deepO_len, deepC_len]
        by_cases hlt2 : j < k
        · go_wp2
          refine ⟨⟨j + 1, by omega, by simp, ?_, trivial⟩, by simp [intOf]; omega⟩
          rw [deepC_succ, ← List.append_assoc, ← str_append (deepO k ++ deepC j) [60, 47, 97, 62]]
          rfl
        · obtain rfl : j = k := by omega
          have hcv : ∀ (W : World), (convert 9 25 (.string (strOfNums (deepO j ++ deepC j)))).run Tryd.prog W = .ok (.slice (some ⟨W.heap.size, 0, none⟩) (strOfNums (deepO j ++ deepC j)).size (grownCap W (strOfNums (deepO j ++ deepC j)).size 0 5)) (W.drew.alloc (.cells (bytesRow (strOfNums (deepO j ++ deepC j)) (grownCap W (strOfNums (deepO j ++ deepC j)).size 0 5)) 5 ((bytesRow (strOfNums (deepO j ++ deepC j)) (grownCap W (strOfNums (deepO j ++ deepC j)).size 0 5)).size, (bytesRow (strOfNums (deepO j ++ deepC j)) (grownCap W (strOfNums (deepO j ++ deepC j)).size 0 5)).size + 1))) := fun W => bytes_row W _
          have hal := fun cap fr => all_str (w := wy) hsz2 ((deep_bytes j).1.append (deep_bytes j).2) (hE.below hb1) (by rw [List.length_append, deepO_len, deepC_len]; omega) cap fr most 0 0 0 0 0
          have hL1 : most < 1 ∨ 64 < most → (limS most 64).toNat = 64 := fun h => by
            unfold limS
            rw [if_pos h]
            rfl
          have hby := fun cap fr => ((Below.refl wy.heap.size wy).alloc (Nat.le_refl _) (.cells (bytesRow (strOfNums (deepO j ++ deepC j)) cap) 5 fr)).drew
          by_cases hr1 : most < 1
          · have hD := hL1 (.inl hr1)
            by_cases hjd : 64 < j
            · have hrd := fun w' W e => deep_readH (w := w') (W := W) (e := e) (n := j) (D := 64) hD (by omega) hjd
              go_wp2_with (go_at_call 13; go_loud (refine (hal _ _).mono ?_; clear hal hcv; intro e w2 hR2; obtain ⟨A2, cap2, rfl, hb2⟩ := hrd _ _ _ hR2; clear hrd))
              go_ret
              exact ⟨rfl, hb1.trans (((hby _ _).trans (hb2.mono (hby _ _).size)).mono hb1.size)⟩
            · have hrd := fun w' W e => deep_readL (w := w') (W := W) (e := e) (n := j) (most := most) (by omega) (by omega) (by rw [hD]; omega)
              go_wp2_with (go_at_call 13; go_loud (refine (hal _ _).mono ?_; clear hal hcv; intro e w2 hR2; obtain ⟨g2, cap2, rfl, hb2, hcap2, hc2⟩ := hrd _ _ _ hR2; clear hrd; have hbw := hb1.trans (((hby _ _).trans (hb2.mono (hby _ _).size)).mono hb1.size); clear hR2 hb2 hby))
              go_loopw [12] (fun i wr => ∃ k : Nat, k ≤ j ∧ i = .int .i64 k ∧ wr = w2) (fun i _ => j - (intOf i).toNat)
              case atStart => exact ⟨0, Nat.zero_le _, rfl, rfl⟩
              case round =>
                rename World => wz
                obtain ⟨k, hk, rfl, rfl⟩ := hrel
                by_cases hk2 : k < j
                · obtain ⟨k1, k2, k3⟩ := hc2 k hk2
                  clear hc2
                  go_wp2
                  exact ⟨⟨k + 1, by omega, by simp, trivial⟩, by simp [intOf]; omega⟩
                · obtain rfl : k = j := by omega
                  clear hc2
                  go_wp2
                  go_ret
                  exact ⟨rfl, hbw⟩
          by_cases hr2 : 64 < most
          · have hD := hL1 (.inr hr2)
            by_cases hjd : 64 < j
            · have hrd := fun w' W e => deep_readH (w := w') (W := W) (e := e) (n := j) (D := 64) hD (by omega) hjd
              go_wp2_with (go_at_call 13; go_loud (refine (hal _ _).mono ?_; clear hal hcv; intro e w2 hR2; obtain ⟨A2, cap2, rfl, hb2⟩ := hrd _ _ _ hR2; clear hrd))
              go_ret
              exact ⟨rfl, hb1.trans (((hby _ _).trans (hb2.mono (hby _ _).size)).mono hb1.size)⟩
            · have hrd := fun w' W e => deep_readL (w := w') (W := W) (e := e) (n := j) (most := most) (by omega) (by omega) (by rw [hD]; omega)
              go_wp2_with (go_at_call 13; go_loud (refine (hal _ _).mono ?_; clear hal hcv; intro e w2 hR2; obtain ⟨g2, cap2, rfl, hb2, hcap2, hc2⟩ := hrd _ _ _ hR2; clear hrd; have hbw := hb1.trans (((hby _ _).trans (hb2.mono (hby _ _).size)).mono hb1.size); clear hR2 hb2 hby))
              go_loopw [12] (fun i wr => ∃ k : Nat, k ≤ j ∧ i = .int .i64 k ∧ wr = w2) (fun i _ => j - (intOf i).toNat)
              case atStart => exact ⟨0, Nat.zero_le _, rfl, rfl⟩
              case round =>
                rename World => wz
                obtain ⟨k, hk, rfl, rfl⟩ := hrel
                by_cases hk2 : k < j
                · obtain ⟨k1, k2, k3⟩ := hc2 k hk2
                  clear hc2
                  go_wp2
                  exact ⟨⟨k + 1, by omega, by simp, trivial⟩, by simp [intOf]; omega⟩
                · obtain rfl : k = j := by omega
                  clear hc2
                  go_wp2
                  go_ret
                  exact ⟨rfl, hbw⟩
          · obtain ⟨M, rfl⟩ : ∃ M : Nat, most = M := ⟨most.toNat, by omega⟩
            have hD : (limS (M : Int) 64).toNat = M := by
              unfold limS
              rw [if_neg (by omega)]
              rfl
            by_cases hjd : M < j
            · have hrd := fun w' W e => deep_readH (w := w') (W := W) (e := e) (n := j) (D := M) hD (by omega) hjd
              go_wp2_with (go_at_call 13; go_loud (refine (hal _ _).mono ?_; clear hal hcv; intro e w2 hR2; obtain ⟨A2, cap2, rfl, hb2⟩ := hrd _ _ _ hR2; clear hrd))
              go_ret
              exact ⟨rfl, hb1.trans (((hby _ _).trans (hb2.mono (hby _ _).size)).mono hb1.size)⟩
            · have hrd := fun w' W e => deep_readL (w := w') (W := W) (e := e) (n := j) (most := (M : Int)) (by omega) (by omega) (by rw [hD]; omega)
              go_wp2_with (go_at_call 13; go_loud (refine (hal _ _).mono ?_; clear hal hcv; intro e w2 hR2; obtain ⟨g2, cap2, rfl, hb2, hcap2, hc2⟩ := hrd _ _ _ hR2; clear hrd; have hbw := hb1.trans (((hby _ _).trans (hb2.mono (hby _ _).size)).mono hb1.size); clear hR2 hb2 hby))
              go_loopw [12] (fun i wr => ∃ k : Nat, k ≤ j ∧ i = .int .i64 k ∧ wr = w2) (fun i _ => j - (intOf i).toNat)
              case atStart => exact ⟨0, Nat.zero_le _, rfl, rfl⟩
              case round =>
                rename World => wz
                obtain ⟨k, hk, rfl, rfl⟩ := hrel
                by_cases hk2 : k < j
                · obtain ⟨k1, k2, k3⟩ := hc2 k hk2
                  clear hc2
                  go_wp2
                  exact ⟨⟨k + 1, by omega, by simp, trivial⟩, by simp [intOf]; omega⟩
                · obtain rfl : k = j := by omega
                  clear hc2
                  go_wp2
                  go_ret
                  exact ⟨rfl, hbw⟩
end Go.Proofs.YtgbodhlofebajaaDoorX
end
