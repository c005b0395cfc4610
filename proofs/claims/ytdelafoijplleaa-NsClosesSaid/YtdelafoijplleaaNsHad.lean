/- What is proved: how a set of names (a map from structs of two texts to bool) is looked up and grown. Conditions: none. -/
import Derived.Test.YtdelafoijplleaaNsClose
import Derived.Test.YtdelafoijplleaaWEqStruct
set_option linter.unusedVariables false
namespace Go.Proofs.YtdelafoijplleaaN
open Go.RowKit Go.Shelf Go.Proofs.YtdelafoijplleaaW.PrintWords
theorem eq_string (w : World) (d : Nat) (a b : ByteArray) : (Op.equalIn (d + 1) 9 (.string a) (.string b)).run Try.prog w = .ok (a == b) w := by
  unfold Op.equalIn
  simp [run_underlying Try.underlying9, Result.andThen]
theorem eq_name (w : World) (a b c d : ByteArray) : (Op.equal 30 (nameV (a, b)) (nameV (c, d))).run Try.prog w = .ok ((a == c) && (b == d)) w := by
  unfold Op.equal nameV
  refine eqA_of Try.underlying30 (by kernel_rfl) ?_
  refine eqf_cons rfl ?_ ?_ (eq_string w _ a c) (eqf_last rfl ?_ ?_ (eq_string w _ b d))
  all_goals simp [part, go_sem]
theorem check_name (w : World) (a b : ByteArray) (em : Bool) (n : Nat) : (Instr.checkKey em (n + 2) 30 (nameV (a, b))).run Try.prog w = .ok () w := by
  have p0 : (part 9 #[.string a, .string b] 0).run Try.prog w = .ok (.string a) w := by simp [part, go_sem]
  have p1 : (part 9 #[.string a, .string b] 1).run Try.prog w = .ok (.string b) w := by simp [part, go_sem]
  have k0 := MapKept.run_checkKey (w := w) Try.underlying9 (show MapKept.IsKey .string (.string a) by simp [MapKept.IsKey]) em n
  have k1 := MapKept.run_checkKey (w := w) Try.underlying9 (show MapKept.IsKey .string (.string b) by simp [MapKept.IsKey]) em n
  unfold Instr.checkKey nameV
  simp [run_underlying Try.underlying30, Result.andThen, p0, p1, k0, k1]
def isHad (m : List (ByteArray × ByteArray)) (n : ByteArray × ByteArray) : Bool := m.any fun x => decide (x = n)
theorem isHad_iff (m : List (ByteArray × ByteArray)) (n : ByteArray × ByteArray) : isHad m n = true ↔ n ∈ m := by
  unfold isHad
  rw [List.any_eq_true]
  constructor
  · rintro ⟨x, h1, h2⟩
    rw [decide_eq_true_eq] at h2
    rw [← h2]
    exact h1
  · exact fun h => ⟨n, h, by simp⟩
/-- Block b is a set of names; they came in the order of m. -/
structure NSet (w : World) (b : Nat) (m : List (ByteArray × ByteArray)) : Prop where mk ::
  out : ∃ es clock, w.heap[b]? = some (.map es clock) ∧ es.toList.map (fun e => (e.key, e.val)) = m.map fun n => (nameV n, Value.bool true)
theorem asking (w : World) (n : ByteArray × ByteArray) : ∀ (es : List MapEntry) (m : List (ByteArray × ByteArray)) (i : Nat), es.map (fun e => (e.key, e.val)) = m.map (fun n => (nameV n, Value.bool true)) →
    (n ∉ m ∧ (Instr.findAsking 30 (nameV n) es i).run Try.prog w = .ok none w) ∨ (n ∈ m ∧ ∃ j, (Instr.findAsking 30 (nameV n) es i).run Try.prog w = .ok (some (j, .bool true)) w)
  | [], [], i, _ => .inl ⟨by simp, by simp [Instr.findAsking]⟩
  | [], _ :: _, _, h => by simp at h
  | _ :: _, [], _, h => by simp at h
  | e :: es, n' :: m, i, h => by
    simp only [List.map_cons, List.cons.injEq, Prod.mk.injEq] at h
    obtain ⟨⟨hk, hv⟩, ht⟩ := h
    have he := eq_name w n.1 n.2 n'.1 n'.2
    unfold Instr.findAsking
    rw [hk]
    simp only [Sem.run_bind, he, Result.andThen_ok, beqB]
    by_cases e1 : n = n'
    · subst e1
      refine .inr ⟨List.mem_cons_self, i, ?_⟩
      simp [hv]
    · have h2 : (decide (n.1 = n'.1) && decide (n.2 = n'.2)) = false := by
        rw [Bool.eq_false_iff]
        intro h3
        rw [Bool.and_eq_true, decide_eq_true_eq, decide_eq_true_eq] at h3
        exact e1 (Prod.ext h3.1 h3.2)
      rw [h2]
      rcases asking w n es m (i + 1) ht with ⟨h3, h4⟩ | ⟨h3, j, h4⟩
      · exact .inl ⟨by simp [e1, h3], by simpa using h4⟩
      · exact .inr ⟨List.mem_cons_of_mem _ h3, j, by simpa using h4⟩
theorem find_had (w : World) (n : ByteArray × ByteArray) (es : List MapEntry) (m : List (ByteArray × ByteArray)) (h : es.map (fun e => (e.key, e.val)) = m.map (fun n => (nameV n, Value.bool true))) :
    (n ∉ m ∧ (Instr.findKey 30 (nameV n) es).run Try.prog w = .ok none w) ∨ (n ∈ m ∧ ∃ j, (Instr.findKey 30 (nameV n) es).run Try.prog w = .ok (some (j, .bool true)) w) := by
  have ha := asking w n es m 0 h
  unfold Instr.findKey
  simp only [Sem.run_bind, run_underlying Try.underlying30, Result.andThen_ok]
  cases es with
  | nil =>
    cases m with
    | nil => exact .inl ⟨by simp, by simp [Instr.findNow]⟩
    | cons _ _ => simp at h
  | cons e es =>
    have hn : Instr.findNow (.struct #[{ name := "Space", type := 9, offset := 0, embedded := false, tag := "", pkgPath := "", byteOffset := 0 }, { name := "Local", type := 9, offset := 1, embedded := false, tag := "", pkgPath := "", byteOffset := 16 }]) (nameV n) (e :: es) 0 = none := by
      unfold Instr.findNow Instr.sameNow
      rfl
    rw [hn]
    exact ha
variable {w : World} {b : Nat} {m : List (ByteArray × ByteArray)}
theorem NSet.look (h : NSet w b m) (n : ByteArray × ByteArray) : (Instr.lookup 75 (.map (some b)) (nameV n) false).run Try.prog w = .ok (.bool (isHad m n)) w := by
  obtain ⟨es, clock, hb, he⟩ := h.out
  have hz : (zeroValue 4).run Try.prog w = .ok (.bool false) w := by kernel_rfl
  have hc := fun em => check_name w n.1 n.2 em 9998
  rcases find_had w n es.toList m he with ⟨h1, h2⟩ | ⟨h1, j, h2⟩
  · simp [Instr.lookup, run_underlying Try.underlying75, MapKept.run_getObj_map hb, hc, h2, hz, Result.andThen]
    rw [Bool.eq_false_iff]
    exact fun e => h1 ((isHad_iff _ _).1 e)
  · simp [Instr.lookup, run_underlying Try.underlying75, MapKept.run_getObj_map hb, hc, h2, Result.andThen]
    exact (isHad_iff _ _).2 h1
theorem NSet.store_new (h : NSet w b m) (n : ByteArray × ByteArray) (hn : n ∉ m) :
    ∃ w', (Instr.mapUpdate 75 (.map (some b)) (nameV n) (.bool true)).run Try.prog w = .ok () w' ∧ NSet w' b (m ++ [n]) ∧ w.grownBy w' (some b) := by
  obtain ⟨es, clock, hb, he⟩ := h.out
  have hc := fun em => check_name w n.1 n.2 em 9998
  rcases find_had w n es.toList m he with ⟨h1, h2⟩ | ⟨h1, j, h2⟩
  · refine ⟨_, by simp [Instr.mapUpdate, run_underlying Try.underlying75, MapKept.run_getObj_map hb, hc, h2, MapKept.run_setObj_map _ hb, Result.andThen]; rfl, ⟨⟨_, _, (MapKept.heap_set hb).1, ?_⟩⟩, ?_⟩
    · simp [he]
    · exact ⟨rfl, rfl, rfl, by simp, fun i _ hi => (MapKept.heap_set hb).2 i (fun e => hi (by rw [e]))⟩
  · exact absurd h1 hn
theorem NSet.lt (h : NSet w b m) : b < w.heap.size := by
  obtain ⟨es, clock, hb, _⟩ := h.out
  exact (Array.getElem?_eq_some_iff.1 hb).1
theorem NSet.of_block (h : NSet w b m) {w' : World} (e : w'.heap[b]? = w.heap[b]?) : NSet w' b m := by
  obtain ⟨es, clock, hb, he⟩ := h.out
  exact ⟨es, clock, e.trans hb, he⟩
theorem NSet_made (w : World) : NSet (w.alloc (.map #[] 0)) w.heap.size [] := ⟨#[], 0, (MapKept.heap_alloc w _).1, rfl⟩
section
variable {ops : Array Oper} {rest : List Oper} {o : Oper} {a : Act} {Q : Exit → Act → World → Prop}
theorem wpList_lookup_nset (hg : o.guard = none) (mo x : Operand) (hop : o.op = Op.lookup 75 mo x false) (hm : a.eval mo = .map (some b)) (hown : NSet w b m) (n : ByteArray × ByteArray) (hx : a.eval x = nameV n)
    (hK : wpList Try.prog ops Q rest (a.put o.dst (.bool (isHad m n))) w) :
    wpList Try.prog ops Q (o :: rest) a w := by
  refine wpList_plain hg fun K' hK' => ?_
  have hrun := hown.look n
  unfold Oper.wp
  simp [execOp, hop, hm, hx, hrun, Result.andThen]
  exact hK' _ _ hK
theorem wpList_store_nset (hg : o.guard = none) (mo x v : Operand) (hop : o.op = Op.mapUpdate 75 mo x v) (hm : a.eval mo = .map (some b)) (hown : NSet w b m) (n : ByteArray × ByteArray) (hx : a.eval x = nameV n) (hv : a.eval v = .bool true) (hn : n ∉ m)
    (hK : ∀ w', NSet w' b (m ++ [n]) → w.grownBy w' (some b) → wpList Try.prog ops Q rest (a.put o.dst undef) w') :
    wpList Try.prog ops Q (o :: rest) a w := by
  refine wpList_plain hg fun K' hK' => ?_
  obtain ⟨w', hrun, r1, r2⟩ := hown.store_new n hn
  unfold Oper.wp
  simp [execOp, hop, hm, hx, hv, hrun, Result.andThen]
  exact hK' _ _ (hK w' r1 r2)
end
end Go.Proofs.YtdelafoijplleaaN
