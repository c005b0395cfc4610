/- What is proved: what few() answers true for is bounded. Conditions: texts and rows of at most 2^47 bytes. -/
import Derived.Test.YtdelafoijplleaaNsBinds
set_option linter.unusedVariables false
namespace Go.Proofs.YtdelafoijplleaaN
open Go.RowKit Go.Shelf Go.Proofs.YtdelafoijplleaaW.PrintWords
structure AC where
  name : ByteArray
  attrs : List XA
  ask : ByteArray
/-- A row of acts in memory. -/
def ActsAt (w : World) (la : Option Addr) (acts : List AC) : Prop :=
  ∀ i (h : i < acts.length), ∃ q av, la = some q ∧ w.cell? ((q.add (i * 4)).add 1) = some (.string acts[i].name) ∧ w.cell? ((q.add (i * 4)).add 2) = some av ∧ w.cell? ((q.add (i * 4)).add 3) = some (.string acts[i].ask) ∧ XAttrs w av acts[i].attrs
def BigA (acts : List AC) : Prop := ∀ a ∈ acts, a.name.size ≤ 140737488355328 ∧ a.ask.size ≤ 140737488355328 ∧ a.attrs.length ≤ 140737488355328 ∧ ∀ x ∈ a.attrs, x.1.size ≤ 140737488355328 ∧ x.2.1.size ≤ 140737488355328
def FineA (a : AC) : Prop := a.name.size ≤ 16384 ∧ a.attrs.length ≤ 16384 ∧ ∀ x ∈ a.attrs, x.1.size ≤ 16384
def Fine (acts : List AC) : Prop := acts.length ≤ 60 ∧ ∀ a ∈ acts, FineA a
set_option maxRecDepth 100000 in
set_option maxHeartbeats 4000000 in
theorem few_c (la : Option Addr) (lc : Nat) (acts : List AC) (w : World) (hA : ActsAt w la acts) (hbig : BigA acts) :
    Calls Try.prog 11 #[.slice la acts.length lc] w fun e W' => ∃ b, e = .returned (.bool b) ∧ (b = true → Fine acts) ∧ Below w.heap.size w W' := by
  go_enter Try.func11, Try.ntmps11
  go_wp2
  · go_ret
    exact ⟨false, rfl, by simp, Below.refl _ _⟩
  have hlen : acts.length ≤ 60 := by omega
  go_loopw [3, 4] (fun nv i wr => ∃ (k : Nat) (n : Int), k ≤ acts.length ∧ i = .int .i64 k ∧ nv = .int .i64 n ∧ 0 ≤ n ∧ n ≤ 16384 ∧ (∀ a ∈ acts.take k, FineA a) ∧ Below w.heap.size w wr)
    (fun _ i _ => acts.length - (intOf i).toNat)
  case atStart => exact ⟨0, 0, Nat.zero_le _, rfl, rfl, by omega, by omega, fun a ha => by simp at ha, Below.refl _ _⟩
  case round =>
    rename World => wo
    obtain ⟨k, n, hk, rfl, rfl, hn0, hn1, hfi, hBo⟩ := hrel
    by_cases hlt : k < acts.length
    · obtain ⟨q, av, rfl, c1, c2, c3, hx⟩ := hA k hlt
      obtain ⟨z1, z2, z3, z4⟩ := hbig acts[k] (List.getElem_mem hlt)
      have htk := take_snoc acts k hlt
      have d1 : wo.cell? ⟨(q.add (k * 4)).block, (q.add (k * 4)).off + 1, none⟩ = some (.string acts[k].name) := cellB hBo c1 (lt_of_cell c1)
      have d2 : wo.cell? ⟨(q.add (k * 4)).block, (q.add (k * 4)).off + 2, none⟩ = some av := cellB hBo c2 (lt_of_cell c2)
      have d3 : wo.cell? ⟨(q.add (k * 4)).block, (q.add (k * 4)).off + 3, none⟩ = some (.string acts[k].ask) := cellB hBo c3 (lt_of_cell c3)
      generalize acts[k] = ac at *
      obtain ⟨nm, xs, ask⟩ := ac
      simp only at c1 c2 c3 hx z1 z2 z3 z4 d1 d2 d3
      obtain ⟨aa, acap, rfl, hxc⟩ := hx
      have b1 : n + (nm.size : Int) ≤ 9223372036854775807 := by omega
      go_wp2
      go_region
      go_wp2
      go_loopw [3, 5] (fun nv i wr => ∃ (j : Nat) (n : Int), j ≤ xs.length ∧ i = .int .i64 j ∧ nv = .int .i64 n ∧ n ≤ 1125899906842624 ∧ (nm.size : Int) ≤ n ∧ (xs.length : Int) ≤ n ∧ (∀ x ∈ xs.take j, (x.1.size : Int) ≤ n) ∧ Below w.heap.size w wr)
        (fun _ i _ => xs.length - (intOf i).toNat)
      case atStart => exact ⟨0, _, Nat.zero_le _, rfl, rfl, by omega, by omega, by omega, fun x hx => by simp at hx, hBo.drew⟩
      case round =>
        rename World => wi
        obtain ⟨j, n2, hj, rfl, rfl, m1, m2, m3, m4, hBi⟩ := hrel
        have f2 : wi.cell? ⟨(q.add (k * 4)).block, (q.add (k * 4)).off + 2, none⟩ = some (.slice aa xs.length acap) := cellB hBi c2 (lt_of_cell c2)
        by_cases hlj : j < xs.length
        · obtain ⟨r, rfl, e0, e1, e2⟩ := hxc j hlj
          obtain ⟨y1, y2⟩ := z4 xs[j] (List.getElem_mem hlj)
          have hxk := take_snoc xs j hlj
          have g0 := cellB hBi e0 (lt_of_cell e0)
          have g1 : wi.cell? ⟨(r.add (j * 3)).block, (r.add (j * 3)).off + 1, none⟩ = some (.string xs[j].2.1) := cellB hBi e1 (lt_of_cell e1)
          generalize xs[j] = xj at *
          obtain ⟨xn, xv, xp⟩ := xj
          simp only at g0 g1 y1 y2
          go_wp2
          go_region
          go_wp2
          all_goals first | (go_ret; exact ⟨false, rfl, by simp, hBi.drew⟩) | skip
          refine ⟨⟨j + 1, _, by omega, by simp, rfl, by omega, by omega, by omega, fun x hx => ?_, hBi.drew⟩, by simp [intOf]; omega⟩
          rw [hxk] at hx
          rcases List.mem_append.1 hx with hx | hx
          · have := m4 x hx
            omega
          · simp at hx
            rw [hx]
            simp only
            omega
        · obtain rfl : j = xs.length := by omega
          go_wp2
          all_goals first | (go_ret; exact ⟨false, rfl, by simp, hBi⟩) | skip
          refine ⟨⟨k + 1, _, by omega, by simp, rfl, by omega, by omega, fun a ha => ?_, hBi⟩, by simp [intOf]; omega⟩
          rw [htk] at ha
          rcases List.mem_append.1 ha with ha | ha
          · exact hfi a ha
          · simp at ha
            rw [ha]
            rw [List.take_length] at m4
            exact ⟨by simp only; omega, by simp only; omega, fun x hx => by have := m4 x hx; omega⟩
    · obtain rfl : k = acts.length := by omega
      go_wp2
      go_ret
      exact ⟨true, rfl, fun _ => ⟨hlen, fun a ha => hfi a (by rw [List.take_length]; exact ha)⟩, hBo⟩
end Go.Proofs.YtdelafoijplleaaN
