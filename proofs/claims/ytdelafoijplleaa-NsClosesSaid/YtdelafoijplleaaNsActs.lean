/- What is proved: a row of acts that came in lies in memory as the walks want it. Conditions: the reach of what came in. -/
import Derived.Test.YtdelafoijplleaaNsFew
import Derived.Deep.Slices
import Derived.Deep.Fields
import Derived.SizedLaws
import Derived.ChangeArms
set_option linter.unusedVariables false
namespace Go.Proofs.YtdelafoijplleaaN
open Go.ChangeShapes Go.WideShapes Go.RowKit Go.Deep
section
variable {H : Type} {enc : TypeId × Value → H} {P : Program} {w : World} {base : Nat} {spare : Nat → Bool} {held : Bool}
/-- A struct of one-cell fields at a place: each field's cell and what it reads as. -/
theorem parts_at {e : TypeId} {fs : Array Field} (he : P.underlying e = some (.struct fs)) (hone : oneCellFields P fs = true) {a : Addr} {cs : List Value} (hc : w.cells? base a fs.size = some cs) {n : Nat} {x : DataW H × List MemPlace} (ht : DataW.trod enc P w base spare held n e cs = some x) :
    ∃ (ys : List (DataW H × List MemPlace)) (m : Nat), x.1 = .agg (ys.map (·.1)) ∧ ∀ (j : Nat) (f : Field), fs[j]? = some f → ∃ v y, w.cell? (a.add j) = some v ∧ ys[j]? = some y ∧ DataW.trod enc P w base spare held m f.type [v] = some y := by
  obtain ⟨ys, m, _, hx, _, hyl, hf⟩ := DataW.trod_struct he ht
  obtain ⟨_, hcl, hat⟩ := World.cells?_some hc
  refine ⟨ys, m, by rw [hx], fun j f hj => ?_⟩
  obtain ⟨ho, hk⟩ := hone_of hone j f hj
  have hjl : j < fs.size := (Array.getElem?_eq_some_iff.1 hj).1
  obtain ⟨v, hv⟩ : ∃ v, cs[j]? = some v := ⟨_, List.getElem?_eq_getElem (by omega)⟩
  obtain ⟨y, hy⟩ : ∃ y, ys[j]? = some y := ⟨_, List.getElem?_eq_getElem (by omega)⟩
  have h1 := hf j f hj
  have h2 : (cs.drop j).take 1 = [v] := by rw [List.take_one, List.head?_drop, hv]; rfl
  rw [ho, hk, hy, h2] at h1
  exact ⟨v, y, (hat j hjl).trans hv, hy, h1⟩
theorem weights_part {e : TypeId} {fs : Array Field} (he : P.underlying e = some (.struct fs)) {ys : List (DataW H × List MemPlace)} {j : Nat} {f : Field} {y : DataW H × List MemPlace} (hf : fs[j]? = some f) (hy : ys[j]? = some y) {n : Nat} (hn : n ∈ y.1.weights P f.type) : n ∈ DataW.weights P e (.agg (ys.map (·.1))) := by
  unfold DataW.weights
  rw [he]
  exact DataW.weights_mem_each (j := j) (t := f.type) (d := y.1) (by simp [hf]) (by simp [hy]) n hn
theorem weights_all {e : TypeId} : ∀ {l : List (DataW H)} {d : DataW H} {n : Nat}, d ∈ l → n ∈ d.weights P e → n ∈ DataW.weightsAll P e l
  | a :: t, d, n, hd, hn => by
    unfold DataW.weightsAll
    rcases List.mem_cons.1 hd with rfl | hd
    · exact List.mem_append.2 (.inl hn)
    · exact List.mem_append.2 (.inr (weights_all hd hn))
end
theorem choose_list {α : Type} {Q : Nat → α → Prop} : ∀ n : Nat, (∀ i, i < n → ∃ y, Q i y) → ∃ l : List α, l.length = n ∧ ∀ i (h : i < l.length), Q i l[i]
  | 0, _ => ⟨[], rfl, fun i h => absurd h (Nat.not_lt_zero _)⟩
  | n + 1, hQ => by
    obtain ⟨l, hl, h⟩ := choose_list n (fun i hi => hQ i (by omega))
    obtain ⟨y, hy⟩ := hQ n (by omega)
    refine ⟨l ++ [y], by simp [hl], fun i hi => ?_⟩
    by_cases hlt : i < l.length
    · rw [List.getElem_append_left hlt]
      exact h i hlt
    · simp at hi
      obtain rfl : i = l.length := by omega
      rw [List.getElem_append_right (Nat.le_refl _)]
      simp
      rw [hl]
      exact hy
section
variable {H : Type} {enc : TypeId × Value → H} {W : World} {base : Nat} {spare : Nat → Bool} {held : Bool}
theorem attr_cells : Try.prog.cellsOf 27 = 3 := by kernel_rfl
theorem act_cells : Try.prog.cellsOf 48 = 4 := by kernel_rfl
theorem attr_bytes : Try.prog.bytesOf 27 = 40 := by kernel_rfl
def RB (d : DataW H) (t : TypeId) : Prop := ∀ n ∈ d.weights Try.prog t, n ≤ reachBytes
theorem text_at {fuel : Nat} {v : Value} {y : DataW H × List MemPlace} (h : DataW.trod enc Try.prog W base spare held fuel 9 [v] = some y) (hw : RB y.1 9) : ∃ s : ByteArray, v = .string s ∧ s.size ≤ 140737488355328 := by
  obtain ⟨s, hv, rfl, _⟩ := DataW.trod_string Try.underlying9 h
  have h1 := hw s.data.toList.length (by simp [DataW.weights])
  have h2 := reachBytes_lt
  have h3 : s.size = s.data.toList.length := by rw [Array.length_toList]; rfl
  refine ⟨s, by simpa using hv, ?_⟩
  omega
set_option maxRecDepth 10000 in
theorem attrs_at {fuel : Nat} {v : Value} {y : DataW H × List MemPlace} (h : DataW.trod enc Try.prog W base spare held fuel 28 [v] = some y) (hw : RB y.1 28) :
    ∃ xs : List XA, XAttrs W v xs ∧ xs.length ≤ 140737488355328 ∧ ∀ x ∈ xs, x.1.size ≤ 140737488355328 ∧ x.2.1.size ≤ 140737488355328 := by
  rcases open_slice Try.underlying28 h with ⟨hcs, _⟩ | ⟨a, len, cap, m, n, D, Pl, hcs, _, hl, hm, hmm, hx, hi⟩
  · simp at hcs
    subst hcs
    exact ⟨[], ⟨none, 0, rfl, fun i hi => absurd hi (Nat.not_lt_zero _)⟩, Nat.zero_le _, fun x hx => by cases hx⟩
  · simp at hcs
    subst hcs
    subst hx
    have hlm : len ≤ m := by rw [hmm]; split <;> omega
    have hrb := reachBytes_lt
    have hlen : len ≤ 140737488355328 := by
      have h2 : (((List.range len).map D).length + ((List.range (m - len)).map fun j => D (len + j)).length) * Try.prog.bytesOf 27 ≤ reachBytes := hw _ (by simp only [DataW.weights, Try.underlying28]; exact List.mem_cons_self ..)
      rw [attr_bytes, List.length_map, List.length_range] at h2
      omega
    obtain ⟨xs, hxl, hxs⟩ := choose_list (Q := fun i (x : XA) => W.cell? (a.add (i * 3)) = some (.string x.1) ∧ W.cell? ((a.add (i * 3)).add 1) = some (.string x.2.1) ∧ W.cell? ((a.add (i * 3)).add 2) = some (.int .i64 x.2.2) ∧ x.1.size ≤ 140737488355328 ∧ x.2.1.size ≤ 140737488355328) len (fun i hil => by
      obtain ⟨cs, hc, ht⟩ := hi i (by omega)
      rw [attr_cells] at hc
      obtain ⟨ys, k, hagg, hp⟩ := parts_at Try.underlying27 (by kernel_rfl) hc ht
      have hwi : RB (D i) 27 := fun q hq => hw q (by
        simp only [DataW.weights, Try.underlying28]
        exact List.mem_cons_of_mem _ (List.mem_append.2 (.inl (weights_all (List.mem_map.2 ⟨i, List.mem_range.2 hil, rfl⟩) hq))))
      simp only at hagg
      rw [hagg] at hwi
      obtain ⟨v0, y0, c0, g0, t0⟩ := hp 0 _ rfl
      obtain ⟨v1, y1, c1, g1, t1⟩ := hp 1 _ rfl
      obtain ⟨v2, y2, c2, g2, t2⟩ := hp 2 _ rfl
      obtain ⟨s0, rfl, b0⟩ := text_at t0 (fun q hq => hwi q (weights_part Try.underlying27 rfl g0 hq))
      obtain ⟨s1, rfl, b1⟩ := text_at t1 (fun q hq => hwi q (weights_part Try.underlying27 rfl g1 hq))
      obtain ⟨z, hz, _⟩ := DataW.trod_int Try.underlying3 t2
      simp at hz
      subst hz
      exact ⟨(s0, s1, z), c0, c1, c2, b0, b1⟩)
    refine ⟨xs, ⟨some a, cap, by rw [hxl], fun i hil => ⟨a, rfl, (hxs i hil).1, (hxs i hil).2.1, (hxs i hil).2.2.1⟩⟩, by omega, fun x hx => ?_⟩
    obtain ⟨i, hil, rfl⟩ := List.getElem_of_mem hx
    exact (hxs i hil).2.2.2
set_option maxRecDepth 10000 in
theorem acts_at {fuel : Nat} {la : Option Addr} {len lc : Nat} {y : DataW H × List MemPlace} (h : DataW.trod enc Try.prog W base spare held fuel 45 [.slice la len lc] = some y) (hw : RB y.1 45) :
    ∃ acts : List AC, len = acts.length ∧ ActsAt W la acts ∧ BigA acts := by
  rcases open_slice Try.underlying45 h with ⟨hcs, _⟩ | ⟨a, len', cap, m, n, D, Pl, hcs, _, hl, hm, hmm, hx, hi⟩
  · simp at hcs
    obtain ⟨rfl, rfl, rfl⟩ := hcs
    exact ⟨[], rfl, fun i hi => absurd hi (Nat.not_lt_zero _), fun x hx => by cases hx⟩
  · simp at hcs
    obtain ⟨rfl, rfl, rfl⟩ := hcs
    subst hx
    have hlm : len ≤ m := by rw [hmm]; split <;> omega
    obtain ⟨acts, hxl, hxs⟩ := choose_list (Q := fun i (x : AC) => (∃ av, W.cell? ((a.add (i * 4)).add 1) = some (.string x.name) ∧ W.cell? ((a.add (i * 4)).add 2) = some av ∧ W.cell? ((a.add (i * 4)).add 3) = some (.string x.ask) ∧ XAttrs W av x.attrs) ∧ x.name.size ≤ 140737488355328 ∧ x.ask.size ≤ 140737488355328 ∧ x.attrs.length ≤ 140737488355328 ∧ ∀ z ∈ x.attrs, z.1.size ≤ 140737488355328 ∧ z.2.1.size ≤ 140737488355328) len (fun i hil => by
      obtain ⟨cs, hc, ht⟩ := hi i (by omega)
      rw [act_cells] at hc
      obtain ⟨ys, k, hagg, hp⟩ := parts_at Try.underlying48 (by kernel_rfl) hc ht
      have hwi : RB (D i) 48 := fun q hq => hw q (by
        simp only [DataW.weights, Try.underlying45]
        exact List.mem_cons_of_mem _ (List.mem_append.2 (.inl (weights_all (List.mem_map.2 ⟨i, List.mem_range.2 hil, rfl⟩) hq))))
      simp only at hagg
      rw [hagg] at hwi
      obtain ⟨v1, y1, c1, g1, t1⟩ := hp 1 _ rfl
      obtain ⟨v2, y2, c2, g2, t2⟩ := hp 2 _ rfl
      obtain ⟨v3, y3, c3, g3, t3⟩ := hp 3 _ rfl
      obtain ⟨s1, rfl, b1⟩ := text_at t1 (fun q hq => hwi q (weights_part Try.underlying48 rfl g1 hq))
      obtain ⟨xs, hX, b2, b3⟩ := attrs_at t2 (fun q hq => hwi q (weights_part Try.underlying48 rfl g2 hq))
      obtain ⟨s3, rfl, b4⟩ := text_at t3 (fun q hq => hwi q (weights_part Try.underlying48 rfl g3 hq))
      exact ⟨⟨s1, xs, s3⟩, ⟨_, c1, c2, c3, hX⟩, b1, b4, b2, b3⟩)
    refine ⟨acts, hxl.symm, fun i hil => ?_, fun x hx => ?_⟩
    · obtain ⟨⟨av, c1, c2, c3, hX⟩, _⟩ := hxs i hil
      exact ⟨a, av, rfl, c1, c2, c3, hX⟩
    · obtain ⟨i, hil, rfl⟩ := List.getElem_of_mem hx
      exact (hxs i hil).2
end
end Go.Proofs.YtdelafoijplleaaN
