/- What is proved: what a scope in memory is; New, Depth, Close, Space and the names that are resolved in it. Conditions: the scope's memory is whole; fewer than 2^40 open elements; texts of less than 2^42 bytes. -/
import Derived.Test.YtdelafoijplleaaNsSpace2
import Derived.Test.YtdelafoijplleaaNsNames
import Derived.Maps.AppendAt
set_option linter.unusedVariables false
namespace Go.Proofs.YtdelafoijplleaaN
open Go.RowKit Go.Shelf
/-- In block p lies a scope, its slice the value sv: the open elements bind L. -/
structure Sc (w : World) (p : Nat) (sv : Value) (L : List Binds) : Prop where mk ::
  cell : w.cell? ⟨p, 0, none⟩ = some sv
  frozen : w.frozen? ⟨p, 0, none⟩ = false
  rows : ∃ els : List (Nat × Binds), w.ownsRow 0 61 1 sv els.length (els.map fun e => Value.map (some e.1)) ∧ els.map (·.2) = L ∧ ∀ e ∈ els, SMap w e.1 e.2
  apart : sv.ownBlock ≠ some p
theorem lt_of_cell {w : World} {p : Addr} {v : Value} (h : w.cell? p = some v) : p.block < w.heap.size := World.block_lt_of_cell? w p h
theorem ownsRow_of_blocks {w w' : World} {base : Nat} {e : TypeId} {size n : Nat} {v : Value} {xs : List Value} (h : w.ownsRow base e size v n xs) (hb : ∀ k, v.ownBlock = some k → w'.heap[k]? = w.heap[k]?) : w'.ownsRow base e size v n xs := by
  obtain ⟨h1, h2⟩ := h
  refine ⟨h1, ?_⟩
  rcases h2 with h2 | ⟨g, cap, cur, rfl, hg, r, h3⟩
  · exact .inl h2
  · exact .inr ⟨g, cap, cur, rfl, hg, (hb g rfl).trans r, h3⟩
theorem Sc.lt {w : World} {p : Nat} {sv : Value} {L : List Binds} (h : Sc w p sv L) : p < w.heap.size := lt_of_cell h.cell
theorem Sc.below {w w' : World} {p : Nat} {sv : Value} {L : List Binds} (h : Sc w p sv L) (hb : Below w.heap.size w w') : Sc w' p sv L := by
  obtain ⟨els, h1, h2, h3⟩ := h.rows
  refine ⟨(hb.cell (p := ⟨p, 0, none⟩) h.lt).trans h.cell, (World.frozen?_of_block (hb.block p h.lt)).trans h.frozen, ⟨els, ownsRow_of_blocks h1 (fun k hk => hb.block k (h1.lt k hk).2), h2, fun e he => (h3 e he).of_block (hb.block _ (h3 e he).lt)⟩, h.apart⟩
theorem Sc.alloc {w : World} {p : Nat} {sv : Value} {L : List Binds} (h : Sc w p sv L) (o : Obj) : Sc (w.alloc o) p sv L := h.below ((Below.refl _ w).alloc (Nat.le_refl _) o)
theorem Sc.slice {w : World} {p : Nat} {sv : Value} {L : List Binds} (h : Sc w p sv L) : ∃ a cap, sv = .slice a L.length cap := by
  obtain ⟨els, h1, h2, _⟩ := h.rows
  have hl : els.length = L.length := by rw [← h2, List.length_map]
  rcases h1.2 with ⟨rfl, he⟩ | ⟨g, cap, cur, rfl, _⟩
  · exact ⟨none, 0, by rw [← hl, he]⟩
  · exact ⟨_, cap, by rw [hl]⟩
theorem Sc.els {w : World} {p : Nat} {sv : Value} {L : List Binds} (h : Sc w p sv L) : ∃ els : List {e : Nat × Binds // SMap w e.1 e.2}, els.map (·.1.2) = L ∧ IsMaps w.heap.size w sv (els.map (·.1.1)) := by
  obtain ⟨els, h1, h2, h3⟩ := h.rows
  refine ⟨els.pmap (fun e h => ⟨e, h⟩) h3, by rw [List.map_pmap]; simpa using h2, ?_⟩
  have e1 : (els.pmap (fun e h => (⟨e, h⟩ : {e : Nat × Binds // SMap w e.1 e.2})) h3).map (·.1.1) = els.map (·.1) := by rw [List.map_pmap]; simp
  rw [e1]
  rcases h1.2 with ⟨rfl, he⟩ | ⟨g, cap, cur, rfl, hb, hg, r⟩
  · exact .inl ⟨rfl, by rw [List.length_eq_zero_iff.1 he]; rfl⟩
  · refine .inr ⟨g, 0, cap, by rw [List.length_map], (h1.lt g rfl).2, fun j hj => ?_⟩
    have := h1.cells (g := g) rfl j (.map (some (els.map (·.1))[j])) (by rw [List.length_map] at hj; simp [hj])
    have ha : (⟨g, 0, none⟩ : Addr).add j = ⟨g, j, none⟩ := by unfold Addr.add; split <;> simp_all
    rw [ha] at this
    simpa using this
theorem space_c {w : World} {p : Nat} {sv : Value} {L : List Binds} (h : Sc w p sv L) (hL : L.length < 1099511627776) (x : ByteArray) :
    Calls Try.prog 14 #[.pointer (some ⟨p, 0, none⟩), .string x] w fun e W' => e = .returned (.tuple #[.string (spaceS L x).1, .bool (spaceS L x).2]) ∧ Below w.heap.size w W' := by
  refine (callsIn_wide (n := 3)).1 ?_
  by_cases hx : x = xmlB
  · subst hx
    have hs : spaceS L xmlB = (xmlS, true) := by unfold spaceS; rw [if_pos rfl]
    rw [hs]
    exact space_xml_in _ 3 trivial rfl (Nat.le_refl _) _ w
  · obtain ⟨a, cap, rfl⟩ := h.slice
    obtain ⟨els, h1, h2⟩ := h.els
    subst h1
    rw [List.length_map] at hL
    exact space_in _ 3 trivial trivial trivial rfl (Nat.le_refl _) ⟨p, 0, none⟩ x hx a _ cap w els (by omega) h.cell h2
set_option maxRecDepth 100000 in
set_option maxHeartbeats 1000000 in
theorem depth_c {w : World} {p : Nat} {sv : Value} {L : List Binds} (h : Sc w p sv L) :
    Calls Try.prog 10 #[.pointer (some ⟨p, 0, none⟩)] w fun e W' => e = .returned (.int .i64 (L.length : Int)) ∧ W' = w := by
  obtain ⟨a, cap, rfl⟩ := h.slice
  have hc := h.cell
  go_enter Try.func10, Try.ntmps10
  go_wp2
  go_ret
  exact ⟨rfl, rfl⟩
set_option maxRecDepth 100000 in
set_option maxHeartbeats 1000000 in
theorem new_c (w : World) :
    Calls Try.prog 7 #[] w fun e W' => e = .returned (.pointer (some ⟨w.heap.size, 0, none⟩)) ∧ W' = w.alloc (.cells #[.slice none 0 0] 60) := by
  go_enter Try.func7, Try.ntmps7
  go_wp2
  go_ret
  exact ⟨rfl, rfl⟩
theorem Sc_new (w : World) (t : TypeId) : Sc (w.alloc (.cells #[.slice none 0 0] t)) w.heap.size (.slice none 0 0) [] :=
  ⟨(Boxed.new w t _).cell, (Boxed.new w t _).frozen, ⟨[], World.ownsRow_nil _ _ _ _, rfl, fun e he => by simp at he⟩, by simp [Value.ownBlock]⟩
end Go.Proofs.YtdelafoijplleaaN
