/- What is proved: the space of a prefix in open elements is what the innermost of them that binds it says. Conditions: the scope's memory is whole. -/
import Derived.Test.YtdelafoijplleaaNsSpace
namespace Go.Proofs.YtdelafoijplleaaN
open Go.RowKit Go.Shelf
attribute [local go_sem] Oper.semAt_some
abbrev Binds := List (ByteArray × ByteArray)
def xmlB : ByteArray := ⟨#[120, 109, 108]⟩
def xmlS : ByteArray := ⟨#[104, 116, 116, 112, 58, 47, 47, 119, 119, 119, 46, 119, 51, 46, 111, 114, 103, 47, 88, 77, 76, 47, 49, 57, 57, 56, 47, 110, 97, 109, 101, 115, 112, 97, 99, 101]⟩
def inner (L : List Binds) (x : ByteArray) : Option ByteArray := L.reverse.findSome? (sget · x)
def spaceS (L : List Binds) (x : ByteArray) : ByteArray × Bool :=
  if x = xmlB then (xmlS, true) else match inner L x with
  | some v => (v, true)
  | none => (⟨#[]⟩, decide (x = ⟨#[]⟩))
set_option maxRecDepth 100000 in
set_option maxHeartbeats 2000000 in
theorem space_xml_in (F : Fence) (n : Nat) (hf : F.fn 14) (hro : F.round = none) (hn : 3 ≤ n) (p : Addr) (w : World) :
    CallsIn F n Try.prog 14 #[.pointer (some p), .string xmlB] w fun e W' => e = .returned (.tuple #[.string xmlS, .bool true]) ∧ Below w.heap.size w W' := by
  have h1 : 1 ≤ n := by omega
  unfold xmlB xmlS
  refine callsIn_of_wp_marks Try.func14 rfl hf ?_ hro
  simp only [Try.ntmps14, List.size_toArray, List.length_cons, List.length_nil, Nat.reduceAdd, Nat.reduceSub, Array.replicate_succ, Array.replicate_zero, List.push_toArray, List.append_toArray, List.nil_append, List.cons_append]
  gi_wp2
  refine ⟨.tuple #[.string ⟨#[104, 116, 116, 112, 58, 47, 47, 119, 119, 119, 46, 119, 51, 46, 111, 114, 103, 47, 88, 77, 76, 47, 49, 57, 57, 56, 47, 110, 97, 109, 101, 115, 112, 97, 99, 101]⟩, .bool true], ?_, rfl, ?_⟩
  · simp [results, Try.f14, go_sem]
  · exact (((Below.refl _ w).alloc (Nat.le_refl _) _).alloc (by simp) _).alloc (by simp; omega) _
theorem cellA {w : World} {p : Addr} {v : Value} (h : w.cell? p = some v) (o : Obj) : (w.alloc o).cell? p = some v := World.grownBy.cell (World.grownBy_alloc w o none) h (by simp)
theorem inner_some {w : World} (els : List {e : Nat × Binds // SMap w e.1 e.2}) (x : ByteArray) (k : Nat) (ini : List (Nat × {e : Nat × Binds // SMap w e.1 e.2})) (last : Nat × {e : Nat × Binds // SMap w e.1 e.2}) (v : ByteArray) (e1 : (backs els).take k = ini ++ [last])
    (e2 : ∀ y ∈ ini, sget y.2.1.2 x = none) (e3 : sget last.2.1.2 x = some v) : inner (els.map (·.1.2)) x = some v := by
  have hb : (backs els).map (·.2) = els.reverse := by
    unfold backs
    rw [List.map_reverse, List.map_map]
    congr 1
    apply List.ext_getElem
    · simp
    · intro i h1 h2
      simp
  have h1 : els.reverse = ini.map (·.2) ++ [last.2] ++ ((backs els).drop k).map (·.2) := by
    rw [← hb]
    conv => lhs; rw [← List.take_append_drop k (backs els)]
    rw [List.map_append, e1]
    simp
  unfold inner
  rw [← List.map_reverse, h1, List.findSome?_map]
  rw [List.append_assoc, List.findSome?_append]
  have h2 : (ini.map (·.2)).findSome? ((sget · x) ∘ (fun y : {e : Nat × Binds // SMap w e.1 e.2} => y.1.2)) = none := by
    rw [List.findSome?_eq_none_iff]
    intro y hy
    obtain ⟨z, hz, rfl⟩ := List.mem_map.1 hy
    exact e2 z hz
  rw [h2]
  simp [e3]
theorem inner_none {w : World} (els : List {e : Nat × Binds // SMap w e.1 e.2}) (x : ByteArray) (h : ∀ y ∈ backs els, sget y.2.1.2 x = none) : inner (els.map (·.1.2)) x = none := by
  unfold inner
  rw [List.findSome?_eq_none_iff]
  intro m hm
  rw [List.mem_reverse] at hm
  obtain ⟨y, hy, rfl⟩ := List.mem_map.1 hm
  obtain ⟨i, hi, rfl⟩ := List.mem_iff_getElem.1 hy
  exact h (i, els[i]) (by unfold backs; rw [List.mem_reverse]; exact List.mem_map.2 ⟨(els[i], i), List.mem_zipIdx_iff_getElem?.2 (by simp [hi]), rfl⟩)
theorem isEmpty_eq (x : ByteArray) : x.toList.isEmpty = decide (x = ⟨#[]⟩) := by
  rw [ByteArray.toList_eq]
  obtain ⟨⟨l⟩⟩ := x
  cases l <;> simp
theorem cellS {w : World} {p q : Addr} {v u : Value} (h : w.cell? p = some v) (hne : p.block ≠ q.block) : (w.setCell q u).cell? p = some v :=
  (World.cell?_of_block (Below.heap_setCell w q u p.block hne)).trans h
theorem cellSet (w : World) (p : Addr) {v : Value} (u : Value) (h : w.cell? p = some v) : (w.setCell p u).cell? p = some u := World.cell?_setCell_same' _ _ _ (by rw [h]; rfl)
set_option maxRecDepth 100000 in
set_option maxHeartbeats 2000000 in
theorem space_in (F : Fence) (n : Nat) (hf : F.fn 14) (hb : F.fn 22) (hc : F.fn 30) (hro : F.round = none) (hn : 3 ≤ n) (p : Addr) (x : ByteArray) (hx : x ≠ xmlB) (a : Option Addr) (len cap : Nat) (w : World)
    (els : List {e : Nat × Binds // SMap w e.1 e.2}) (hreach : els.length * 8 ≤ 140737488351232) (hp : w.cell? p = some (.slice a len cap)) (hI : IsMaps w.heap.size w (.slice a len cap) (els.map (·.1.1))) :
    CallsIn F n Try.prog 14 #[.pointer (some p), .string x] w fun e W' => e = .returned (.tuple #[.string (spaceS (els.map (·.1.2)) x).1, .bool (spaceS (els.map (·.1.2)) x).2]) ∧ Below w.heap.size w W' := by
  have h1 : 1 ≤ n := by omega
  have hxl : ¬ x.data = #[120, 109, 108] := fun e => hx (by obtain ⟨d⟩ := x; exact congrArg ByteArray.mk e)
  have hxt : (x.toList == [120, 109, 108]) = false := by
    rw [beq_eq_false_iff_ne]
    intro e
    rw [ByteArray.toList_eq] at e
    apply hxl
    apply Array.toList_inj.1
    rw [e]
  have hp3 : (((w.alloc (.cells #[.string x] 9)).alloc (.cells #[.string ⟨#[]⟩] 9)).alloc (.cells #[.bool false] 4)).cell? p = some (.slice a len cap) := cellA (cellA (cellA hp _) _) _
  refine callsIn_of_wp_marks Try.func14 rfl hf ?_ hro
  simp only [Try.ntmps14, List.size_toArray, List.length_cons, List.length_nil, Nat.reduceAdd, Nat.reduceSub, Array.replicate_succ, Array.replicate_zero, List.push_toArray, List.append_toArray, List.nil_append, List.cons_append]
  gi_wp2_with (gi_at_call 22; refine (back_in F (n - 1) hb hro _ _ _ _).mono ?_; rintro e w' ⟨rfl, rfl⟩)
  have b3 := Boxed.new w 9 (.string x)
  have b4 := Boxed.new (w.alloc (.cells #[.string x] 9)) 9 (.string ⟨#[]⟩)
  have b5 := Boxed.new ((w.alloc (.cells #[.string x] 9)).alloc (.cells #[.string ⟨#[]⟩] 9)) 4 (.bool false)
  have b6 := Boxed.new (((w.alloc (.cells #[.string x] 9)).alloc (.cells #[.string ⟨#[]⟩] 9)).alloc (.cells #[.bool false] 4)) 58 (.slice a len cap)
  simp only [World.size_alloc] at b4 b5 b6
  have hB0 : Below w.heap.size w ((((w.alloc (.cells #[.string x] 9)).alloc (.cells #[.string ⟨#[]⟩] 9)).alloc (.cells #[.bool false] 4)).alloc (.cells #[.slice a len cap] 58)) :=
    ((((Below.refl _ w).alloc (Nat.le_refl _) _).alloc (by simp) _).alloc (by simp; omega) _).alloc (by simp; omega) _
  refine wpIn_rangeFunc_ownG hro h1 (gf := 30) (lb := #[.pointer (some ⟨w.heap.size + 1 + 1 + 1, 0, none⟩)]) rfl hc (enters_of Try.func30 (by kernel_rfl) rfl)
    (back_stops (fun e : {e : Nat × Binds // SMap w e.1 e.2} => e.1.1) F (n - 1) hc hro (by omega) (w.heap.size + 1 + 1 + 1) (w.heap.size + 1 + 1 + 1 + 1) _ els hreach _ (by omega) (by simp) b6.cell ((hI.below hB0).mono (by omega))) belowK_t (belowK_b (by simp)) (Below.refl _ _) (fun _ => rfl)
    (fun pre W => ((∀ y ∈ pre, sget y.2.1.2 x = none) ∧ W.cell? ⟨w.heap.size + 1, 0, none⟩ = some (.string ⟨#[]⟩) ∧ W.frozen? ⟨w.heap.size + 1, 0, none⟩ = false ∧ W.cell? ⟨w.heap.size + 1 + 1, 0, none⟩ = some (.bool false) ∧ W.frozen? ⟨w.heap.size + 1 + 1, 0, none⟩ = false ∧ W.cell? ⟨w.heap.size, 0, none⟩ = some (.string x)) ∧ Below w.heap.size w W)
    (fun c pre W => (c = .ret ∧ ∃ ini last v, pre = ini ++ [last] ∧ (∀ y ∈ ini, sget y.2.1.2 x = none) ∧ sget last.2.1.2 x = some v ∧ W.cell? ⟨w.heap.size + 1, 0, none⟩ = some (.string v) ∧ W.cell? ⟨w.heap.size + 1 + 1, 0, none⟩ = some (.bool true)) ∧ Below w.heap.size w W)
    (OwnFrom.and (Own.from (fun s A B row hs hg hr => ⟨hs.1, cell_kept hs.2.1 hg hr, (frozen_kept hs.2.1 hg hr).trans hs.2.2.1, cell_kept hs.2.2.2.1 hg hr, (frozen_kept hs.2.2.2.1 hg hr).trans hs.2.2.2.2.1, cell_kept hs.2.2.2.2.2 hg hr⟩) _) (ownFrom_below (Nat.le_refl _) (by simp; omega)))
    (fun c => OwnFrom.and (Own.from (fun s A B row hs hg hr => by obtain ⟨hc, ini, last, v, e1, e2, e3, e4, e5⟩ := hs; exact ⟨hc, ini, last, v, e1, e2, e3, cell_kept e4 hg hr, cell_kept e5 hg hr⟩) _) (ownFrom_below (Nat.le_refl _) (by simp; omega)))
    ⟨⟨by simp, ((b4.alloc _).alloc _).cell, ((b4.alloc _).alloc _).frozen, (b5.alloc _).cell, (b5.alloc _).frozen, (((b3.alloc _).alloc _).alloc _).cell⟩, hB0⟩
    (fun y => { tmps := #[.pointer (some p), .string x, undef, .pointer (some ⟨w.heap.size, 0, none⟩), .pointer (some ⟨w.heap.size + 1, 0, none⟩), .pointer (some ⟨w.heap.size + 1 + 1, 0, none⟩), undef, .map (some y.2.1.1), undef, undef, .string x, .bool false, .pointer (some p), .pointer (some p), .pointer (some p), .slice a len cap, .func (.func 30) #[] #[.pointer (some ⟨w.heap.size + 1 + 1 + 1, 0, none⟩)], .int .i64 (y.1 : Int), .map (some y.2.1.1), undef, undef, undef, undef, undef, undef, undef, undef, undef, undef], defers := [] }) ?assign ?body ?done ?stop
  case assign =>
    intro l y W K hK
    gi_wp2
    exact hK
  case body =>
    rintro l pre y W ⟨⟨hp1, c4, f4, c5, f5, c3⟩, hB⟩ _
    have hS : SMap W y.2.1.1 y.2.1.2 := y.2.2.of_block (hB.block _ y.2.2.lt)
    have hz : (zeroValue 9).run Try.prog W = .ok (.string ⟨#[]⟩) W := by kernel_rfl
    cases hg : sget y.2.1.2 x with
    | none =>
      gi_wp2_with (gi_at_lookup; refine wpListIn_lookup_smap_ok rfl _ _ 61 rfl 9 9 Try.underlying61 Try.underlying9 hz rfl hS x rfl ?_; rw [hg])
      exact ⟨KeepsFrom.refl _ _, Below.refl _ _, ⟨fun z hz' => (List.mem_append.1 hz').elim (hp1 z) (fun e => by simp at e; subst e; exact hg), c4, f4, c5, f5, c3⟩, hB⟩
    | some v =>
      gi_wp2_with (gi_at_lookup; refine wpListIn_lookup_smap_ok rfl _ _ 61 rfl 9 9 Try.underlying61 Try.underlying9 hz rfl hS x rfl ?_; rw [hg])
      exact ⟨((KeepsOthers.setCell _ _ _).trans (KeepsOthers.setCell _ _ _)).from _, ⟨rfl, pre, y, v, rfl, hp1, hg, cellS (cellSet W ⟨w.heap.size + 1, 0, none⟩ (.string v) c4) (by simp), cellSet _ ⟨w.heap.size + 1 + 1, 0, none⟩ (.bool true) (cellS c5 (by simp))⟩, (hB.setCell (p := ⟨w.heap.size + 1, 0, none⟩) (by simp) _).setCell (p := ⟨w.heap.size + 1 + 1, 0, none⟩) (by simp; omega) _⟩
  case done =>
    rintro D ys W hD rfl ⟨⟨hne, c4, f4, c5, f5, c3⟩, hB⟩ hK
    gi_wp2
    gi_region
    all_goals
      gi_wp2
      have hK' := ((KeepsOthers.setCell W ⟨w.heap.size + 1, 0, none⟩ (.string ⟨#[]⟩)).trans (KeepsOthers.setCell _ ⟨w.heap.size + 1 + 1, 0, none⟩ (.bool x.toList.isEmpty))).same D _ hK rfl
      have hD' : (((W.setCell ⟨w.heap.size + 1, 0, none⟩ (.string ⟨#[]⟩)).setCell ⟨w.heap.size + 1 + 1, 0, none⟩ (.bool x.toList.isEmpty)).drew).heap[D]? = some (.deferred (some [])) := hK'
      have d4 : (((W.setCell ⟨w.heap.size + 1, 0, none⟩ (.string ⟨#[]⟩)).setCell ⟨w.heap.size + 1 + 1, 0, none⟩ (.bool x.toList.isEmpty)).drew).cell? ⟨w.heap.size + 1, 0, none⟩ = some (.string ⟨#[]⟩) := cellS (cellSet W ⟨w.heap.size + 1, 0, none⟩ (.string ⟨#[]⟩) c4) (by simp)
      have d5 : (((W.setCell ⟨w.heap.size + 1, 0, none⟩ (.string ⟨#[]⟩)).setCell ⟨w.heap.size + 1 + 1, 0, none⟩ (.bool x.toList.isEmpty)).drew).cell? ⟨w.heap.size + 1 + 1, 0, none⟩ = some (.bool x.toList.isEmpty) := cellSet _ ⟨w.heap.size + 1 + 1, 0, none⟩ _ (cellS c5 (by simp))
      have hB2 : Below w.heap.size w (((W.setCell ⟨w.heap.size + 1, 0, none⟩ (.string ⟨#[]⟩)).setCell ⟨w.heap.size + 1 + 1, 0, none⟩ (.bool x.toList.isEmpty)).drew) := ((hB.setCell (p := ⟨w.heap.size + 1, 0, none⟩) (by simp) _).setCell (p := ⟨w.heap.size + 1 + 1, 0, none⟩) (by simp; omega) _).drew
      clear hK'
      generalize (((W.setCell ⟨w.heap.size + 1, 0, none⟩ (.string ⟨#[]⟩)).setCell ⟨w.heap.size + 1 + 1, 0, none⟩ (.bool x.toList.isEmpty)).drew) = W2 at hD' d4 d5 hB2 ⊢
      refine ⟨by simp, .inl ⟨_, _, rfl, run_takeDeferred hD', ?_⟩⟩
      have k4 := cell_kept d4 (grownBy_putObj' _ D (.deferred none)) (fun r e => by cases e; exact ⟨_, hD', rfl⟩)
      have k5 := cell_kept d5 (grownBy_putObj' _ D (.deferred none)) (fun r e => by cases e; exact ⟨_, hD', rfl⟩)
      refine ⟨.tuple #[.string ⟨#[]⟩, .bool x.toList.isEmpty], by simp [results, Try.f14, go_sem, k4, k5], ?_, hB2.trans (belowK_b (w := w) (Nat.le_refl _) W2 D _ _ (by simp at hD; omega) hD' rfl rfl)⟩
      have hs : spaceS (els.map (·.1.2)) x = (⟨#[]⟩, decide (x = ⟨#[]⟩)) := by
        unfold spaceS
        rw [if_neg hx, inner_none els x hne]
      rw [hs, isEmpty_eq]
  case stop =>
    rintro D c pre W hD ⟨k, hk, rfl⟩ ⟨⟨rfl, ini, last, v, e1, e2, e3, c4, c5⟩, hB⟩ hK
    gi_wp2
    refine ⟨by simp, .inl ⟨_, _, rfl, run_takeDeferred hK, ?_⟩⟩
    have k4 := cell_kept c4 (grownBy_putObj' _ D (.deferred none)) (fun r e => by cases e; exact ⟨_, hK, rfl⟩)
    have k5 := cell_kept c5 (grownBy_putObj' _ D (.deferred none)) (fun r e => by cases e; exact ⟨_, hK, rfl⟩)
    refine ⟨.tuple #[.string v, .bool true], by simp [results, Try.f14, go_sem, k4, k5], ?_, hB.trans (belowK_b (w := w) (Nat.le_refl _) W D _ _ (by simp at hD; omega) hK rfl rfl)⟩
    have hs : spaceS (els.map (·.1.2)) x = (v, true) := by
      unfold spaceS
      rw [if_neg hx, inner_some els x k ini last v e1 e2 e3]
    rw [hs]
end Go.Proofs.YtdelafoijplleaaN
