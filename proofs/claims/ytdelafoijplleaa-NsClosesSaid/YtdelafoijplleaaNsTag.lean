/- What is proved: tag resolves an element's names, or tells the first fault. Conditions: those of the scope; the attributes lie in memory; texts of less than 2^42 bytes, fewer than 2^40 attributes. -/
import Derived.Test.YtdelafoijplleaaNsHad
set_option linter.unusedVariables false
namespace Go.Proofs.YtdelafoijplleaaN
open Go.RowKit Go.Shelf Go.Proofs.YtdelafoijplleaaW.PrintWords
abbrev XA := ByteArray × ByteArray × Int
abbrev NA := (ByteArray × ByteArray) × ByteArray × Int
/-- The slice value av reads as the attributes xs. -/
def XAttrs (w : World) (av : Value) (xs : List XA) : Prop :=
  ∃ a cap, av = .slice a xs.length cap ∧ ∀ i (h : i < xs.length), ∃ q, a = some q ∧ w.cell? (q.add (i * 3)) = some (.string xs[i].1) ∧ w.cell? ⟨(q.add (i * 3)).block, (q.add (i * 3)).off + 1, none⟩ = some (.string xs[i].2.1) ∧ w.cell? ⟨(q.add (i * 3)).block, (q.add (i * 3)).off + 2, none⟩ = some (.int .i64 xs[i].2.2)
theorem plain_add (b o n : Nat) : (⟨b, o, none⟩ : Addr).add n = ⟨b, o + n, none⟩ := by unfold Addr.add; split <;> simp_all
theorem add_block (q : Addr) (n : Nat) : (q.add n).block = q.block := by unfold Addr.add; split <;> rfl
theorem XAttrs.below {w w' : World} {av : Value} {xs : List XA} (h : XAttrs w av xs) (hb : Below w.heap.size w w') : XAttrs w' av xs := by
  obtain ⟨a, cap, rfl, h⟩ := h
  refine ⟨a, cap, rfl, fun i hi => ?_⟩
  obtain ⟨b, ha, c0, c1, c2⟩ := h i hi
  exact ⟨b, ha, cellB hb c0 (lt_of_cell c0), cellB hb c1 (lt_of_cell c1), cellB hb c2 (lt_of_cell c2)⟩
def flatN (l : List NA) : List Value := l.flatMap fun x => [.string x.1.1, .string x.1.2, .string x.2.1, .int .i64 x.2.2]
def tagTo (L : List Binds) : List XA → List NA → Except (Int × Int) (List NA)
  | [], acc => .ok acc
  | a :: t, acc => if (bindsS a.1).2 = true then tagTo L t acc
    else if (resolveS L a.1 true).2 ≠ 0 then .error (a.2.2, (resolveS L a.1 true).2)
    else if isHad (acc.map (·.1)) (resolveS L a.1 true).1 = true then .error (a.2.2, 5)
    else tagTo L t (acc ++ [((resolveS L a.1 true).1, a.2.1, a.2.2)])
def tagEnd (n : ByteArray × ByteArray) (r : Except (Int × Int) (List NA)) : Except (Int × Int) ((ByteArray × ByteArray) × List NA) := match r with
  | .error e => .error e
  | .ok l => .ok (n, l)
/-- The outcome: the name and the attributes, or the place and the fault. -/
def tagS (L : List Binds) (name : ByteArray) (at_ : Int) (xs : List XA) : Except (Int × Int) ((ByteArray × ByteArray) × List NA) :=
  if Lib.hasPrefix name.data.toList ownC = true then .error (at_, 2)
  else if (resolveS L name false).2 ≠ 0 then .error (at_, (resolveS L name false).2)
  else tagEnd (resolveS L name false).1 (tagTo L xs [])
def zeroTag : Value := .agg #[.string ⟨#[]⟩, .string ⟨#[]⟩, .slice none 0 0, .int .i64 0]
/-- What comes back, at the world behind. -/
def TagOut (n₀ : Nat) (at_ : Int) (r : Except (Int × Int) ((ByteArray × ByteArray) × List NA)) (e : Ending) (w : World) : Prop := match r with
  | .error (pl, er) => e = .returned (.tuple #[zeroTag, .int .i64 pl, .int .i64 er])
  | .ok (n, l) => ∃ sl, e = .returned (.tuple #[.agg #[.string n.1, .string n.2, sl, .int .i64 at_], .int .i64 0, .int .i64 0]) ∧ w.ownsRow n₀ 42 4 sl l.length (flatN l)
/-- The two blocks that tag lays first. -/
abbrev w2t (w : World) (kd at_ : Int) (name text : ByteArray) (av : Value) : World := (w.alloc (.cells #[.int .i64 kd, .int .i64 at_, .string name, .string text, av] 38)).alloc (.cells #[.string ⟨#[]⟩, .string ⟨#[]⟩, .slice none 0 0, .int .i64 0] 33)
theorem boxes {w wr : World} {kd at_ : Int} {name text : ByteArray} {av : Value} (hb : Below (w.heap.size + 2) (w2t w kd at_ name text av) wr) :
    wr.cell? ⟨w.heap.size, 1, none⟩ = some (.int .i64 at_) ∧ wr.cell? ⟨w.heap.size, 2, none⟩ = some (.string name) ∧ wr.cell? ⟨w.heap.size, 4, none⟩ = some av ∧
    wr.cell? ⟨w.heap.size + 1, 0, none⟩ = some (.string ⟨#[]⟩) ∧ wr.cell? ⟨w.heap.size + 1, 1, none⟩ = some (.string ⟨#[]⟩) ∧ wr.cell? ⟨w.heap.size + 1, 2, none⟩ = some (.slice none 0 0) ∧ wr.cell? ⟨w.heap.size + 1, 3, none⟩ = some (.int .i64 0) ∧
    wr.frozen? ⟨w.heap.size + 1, 0, none⟩ = false ∧ wr.frozen? ⟨w.heap.size + 1, 1, none⟩ = false ∧ wr.frozen? ⟨w.heap.size + 1, 2, none⟩ = false ∧ wr.frozen? ⟨w.heap.size + 1, 3, none⟩ = false := by
  have hs : (w.alloc (.cells #[.int .i64 kd, .int .i64 at_, .string name, .string text, av] 38)).heap.size = w.heap.size + 1 := by simp
  have c := fun i v hv => new_cell (w.alloc (.cells #[.int .i64 kd, .int .i64 at_, .string name, .string text, av] 38)) #[.string ⟨#[]⟩, .string ⟨#[]⟩, .slice none 0 0, .int .i64 0] 33 i (v := v) hv
  have f := new_free (w.alloc (.cells #[.int .i64 kd, .int .i64 at_, .string name, .string text, av] 38)) #[.string ⟨#[]⟩, .string ⟨#[]⟩, .slice none 0 0, .int .i64 0] 33
  rw [hs] at c f
  exact ⟨cellB hb (cellA (new_cell w _ _ 1 rfl) _) (by simp), cellB hb (cellA (new_cell w _ _ 2 rfl) _) (by simp), cellB hb (cellA (new_cell w _ _ 4 rfl) _) (by simp),
    cellB hb (c 0 _ rfl) (by simp), cellB hb (c 1 _ rfl) (by simp), cellB hb (c 2 _ rfl) (by simp), cellB hb (c 3 _ rfl) (by simp), freeB hb (f 0) (by simp), freeB hb (f 1) (by simp), freeB hb (f 2) (by simp), freeB hb (f 3) (by simp)⟩
abbrev w4s (w : World) (b : Nat) (x0 x1 x2 x3 : Value) : World := (((w.setCell ⟨b, 0, none⟩ x0).setCell ⟨b, 1, none⟩ x1).setCell ⟨b, 2, none⟩ x2).setCell ⟨b, 3, none⟩ x3
theorem set4 (w : World) (b : Nat) (x0 x1 x2 x3 : Value) {u0 u1 u2 u3 : Value} (h0 : w.cell? ⟨b, 0, none⟩ = some u0) (h1 : w.cell? ⟨b, 1, none⟩ = some u1) (h2 : w.cell? ⟨b, 2, none⟩ = some u2) (h3 : w.cell? ⟨b, 3, none⟩ = some u3) :
    (w4s w b x0 x1 x2 x3).cell? ⟨b, 0, none⟩ = some x0 ∧ (w4s w b x0 x1 x2 x3).cell? ⟨b, 1, none⟩ = some x1 ∧ (w4s w b x0 x1 x2 x3).cell? ⟨b, 2, none⟩ = some x2 ∧ (w4s w b x0 x1 x2 x3).cell? ⟨b, 3, none⟩ = some x3 := by
  have o : ∀ (w : World) (i j : Nat) (x : Value), i ≠ j → (w.setCell ⟨b, i, none⟩ x).cell? ⟨b, j, none⟩ = w.cell? ⟨b, j, none⟩ := fun w i j x hij => World.cell?_setCell_other w _ _ _ (by simp [hij])
  refine ⟨?_, ?_, ?_, ?_⟩
  · rw [o _ 3 0 _ (by decide), o _ 2 0 _ (by decide), o _ 1 0 _ (by decide)]
    exact cellSet _ _ _ h0
  · rw [o _ 3 1 _ (by decide), o _ 2 1 _ (by decide)]
    exact cellSet _ _ _ (by rw [o _ 0 1 _ (by decide)]; exact h1)
  · rw [o _ 3 2 _ (by decide)]
    exact cellSet _ _ _ (by rw [o _ 1 2 _ (by decide), o _ 0 2 _ (by decide)]; exact h2)
  · exact cellSet _ _ _ (by rw [o _ 2 3 _ (by decide), o _ 1 3 _ (by decide), o _ 0 3 _ (by decide)]; exact h3)
theorem set4_block (w : World) (b : Nat) (x0 x1 x2 x3 : Value) (k : Nat) (hk : k ≠ b) : (w4s w b x0 x1 x2 x3).heap[k]? = w.heap[k]? := by
  rw [Below.heap_setCell _ ⟨b, 3, none⟩ _ k hk, Below.heap_setCell _ ⟨b, 2, none⟩ _ k hk, Below.heap_setCell _ ⟨b, 1, none⟩ _ k hk, Below.heap_setCell _ ⟨b, 0, none⟩ _ k hk]
theorem set4_below {B : Nat} {w0 w : World} (h : Below B w0 w) (b : Nat) (hb : B ≤ b) (x0 x1 x2 x3 : Value) : Below B w0 (w4s w b x0 x1 x2 x3) :=
  (((h.setCell (p := ⟨b, 0, none⟩) hb _).setCell (p := ⟨b, 1, none⟩) hb _).setCell (p := ⟨b, 2, none⟩) hb _).setCell (p := ⟨b, 3, none⟩) hb _
theorem tag_err {W : World} {b : Nat} {u0 u1 u2 u3 : Value} (r0 : W.cell? ⟨b, 0, none⟩ = some u0) (r1 : W.cell? ⟨b, 1, none⟩ = some u1) (r2 : W.cell? ⟨b, 2, none⟩ = some u2) (r3 : W.cell? ⟨b, 3, none⟩ = some u3) {T : Array Value} {pl er : Int}
    (h4 : T.getD 4 undef = .pointer (some ⟨b, 0, none⟩)) (h5 : T.getD 5 undef = .int .i64 pl) (h6 : T.getD 6 undef = .int .i64 er) {R : Ending → World → Prop}
    (hR : R (.returned (.tuple #[zeroTag, .int .i64 pl, .int .i64 er])) (w4s W b (.string ⟨#[]⟩) (.string ⟨#[]⟩) (.slice none 0 0) (.int .i64 0)).drew) :
    bodyPost Try.prog Try.f17 R .ret { tmps := T, defers := [] } (w4s W b (.string ⟨#[]⟩) (.string ⟨#[]⟩) (.slice none 0 0) (.int .i64 0)).drew := by
  obtain ⟨d0, d1, d2, d3⟩ := set4 W b (.string ⟨#[]⟩) (.string ⟨#[]⟩) (.slice none 0 0) (.int .i64 0) r0 r1 r2 r3
  refine bodyPost_ret (v := .tuple #[zeroTag, .int .i64 pl, .int .i64 er]) ?_ rfl hR
  generalize w4s W b (.string ⟨#[]⟩) (.string ⟨#[]⟩) (.slice none 0 0) (.int .i64 0) = W2 at *
  rw [Array.getD_eq_getD_getElem?] at h4 h5 h6
  simp [results, Try.f17, go_sem, h4, h5, h6, d0, d1, d2, d3, zeroTag]
/-- Between two rounds of tag's loop. -/
structure TSt (w3 wr : World) (sp lc : ByteArray) (at_ : Int) (acc : List NA) (ga : Option Addr) (gn gc : Nat) : Prop where
  hb : Below w3.heap.size w3 wr
  c0 : wr.cell? ⟨w3.heap.size + 1, 0, none⟩ = some (.string sp)
  c1 : wr.cell? ⟨w3.heap.size + 1, 1, none⟩ = some (.string lc)
  c2 : wr.cell? ⟨w3.heap.size + 1, 2, none⟩ = some (.slice ga gn gc)
  c3 : wr.cell? ⟨w3.heap.size + 1, 3, none⟩ = some (.int .i64 at_)
  f2 : wr.frozen? ⟨w3.heap.size + 1, 2, none⟩ = false
  had : NSet wr (w3.heap.size + 1 + 1) (acc.map (·.1))
  row : wr.ownsRow (w3.heap.size + 1 + 1 + 1) 42 4 (.slice ga gn gc) acc.length (flatN acc)
  big : w3.heap.size + 1 + 1 + 1 ≤ wr.heap.size
theorem TSt.below {w3 wr w' : World} {sp lc : ByteArray} {at_ : Int} {acc : List NA} {ga : Option Addr} {gn gc : Nat} (h : TSt w3 wr sp lc at_ acc ga gn gc) (hb : Below wr.heap.size wr w') : TSt w3 w' sp lc at_ acc ga gn gc :=
  have hbig := h.big
  ⟨h.hb.trans (hb.mono (by omega)), cellB hb h.c0 (lt_of_cell h.c0), cellB hb h.c1 (lt_of_cell h.c1), cellB hb h.c2 (lt_of_cell h.c2), cellB hb h.c3 (lt_of_cell h.c3), freeB hb h.f2 (lt_of_cell h.c2), h.had.of_block (hb.block _ h.had.lt), ownsRow_of_blocks h.row (fun k hk => hb.block k (h.row.lt k hk).2), Nat.le_trans hbig hb.size⟩
theorem TSt.alloc {w3 wr : World} {sp lc : ByteArray} {at_ : Int} {acc : List NA} {ga : Option Addr} {gn gc : Nat} (h : TSt w3 wr sp lc at_ acc ga gn gc) (o : Obj) : TSt w3 (wr.alloc o) sp lc at_ acc ga gn gc := h.below ((Below.refl _ _).alloc (Nat.le_refl _) o)
theorem TSt_start (w3 : World) (sp lc : ByteArray) (at_ : Int) (c7 : Array Value) : TSt w3 (((w3.alloc (.cells c7 30)).alloc (.cells #[.string sp, .string lc, .slice none 0 0, .int .i64 at_] 33)).alloc (.map #[] 0)) sp lc at_ [] none 0 0 := by
  have hs : (w3.alloc (.cells c7 30)).heap.size = w3.heap.size + 1 := by simp
  have c := fun i v hv => new_cell (w3.alloc (.cells c7 30)) #[.string sp, .string lc, .slice none 0 0, .int .i64 at_] 33 i (v := v) hv
  have f := new_free (w3.alloc (.cells c7 30)) #[.string sp, .string lc, .slice none 0 0, .int .i64 at_] 33
  have hN := NSet_made ((w3.alloc (.cells c7 30)).alloc (.cells #[.string sp, .string lc, .slice none 0 0, .int .i64 at_] 33))
  rw [hs] at c f
  simp only [World.size_alloc] at hN
  exact ⟨(((Below.refl _ _).alloc (Nat.le_refl _) _).alloc (by simp) _).alloc (by simp; omega) _, cellA (c 0 _ rfl) _, cellA (c 1 _ rfl) _, cellA (c 2 _ rfl) _, cellA (c 3 _ rfl) _, freeB ((Below.refl _ _).alloc (Nat.le_refl _) _) (f 2) (by simp), hN, World.ownsRow_nil _ _ _ _, by simp⟩
theorem cells_new (w : World) (l : List Value) (t : TypeId) : ∀ j u, l[j]? = some u → (w.alloc (.cells l.toArray t)).cell? ((⟨w.heap.size, 0, none⟩ : Addr).add j) = some u := by
  intro j u h
  have ha : (⟨w.heap.size, 0, none⟩ : Addr).add j = ⟨w.heap.size, j, none⟩ := by unfold Addr.add; split <;> simp_all
  rw [ha]
  exact new_cell w _ t j (by simpa using h)
theorem infoA : (Try.prog.info? 42).map (fun i => (i.zero, i.size, i.bytes)) = some (some (.agg #[.string ⟨#[]⟩, .string ⟨#[]⟩, .string ⟨#[]⟩, .int .i64 0]), 4, 56) := by kernel_rfl
theorem row_some {w : World} {base : Nat} {e : TypeId} {size n : Nat} {v : Value} {xs : List Value} (h : w.ownsRow base e size v (n + 1) xs) : ∃ g cap, v = .slice (some ⟨g, 0, none⟩) (n + 1) cap := by
  rcases h.2 with ⟨_, h0⟩ | ⟨g, cap, cur, rfl, _⟩
  · omega
  · exact ⟨g, cap, rfl⟩
theorem TSt.pushed {w3 wr w7 w9 : World} {sp lc : ByteArray} {at_ : Int} {acc : List NA} {ga : Option Addr} {gn gc : Nat} (h : TSt w3 wr sp lc at_ acc ga gn gc) (n : ByteArray × ByteArray) (vl : ByteArray) (pl : Int) (hN7 : NSet w7 (w3.heap.size + 1 + 1) (acc.map (·.1) ++ [n])) (hg7 : wr.grownBy w7 (some (w3.heap.size + 1 + 1)))
    (o : Obj) (hg9 : (w7.alloc o).grownBy w9 (Value.slice ga gn gc).ownBlock) (g' n' cap' : Nat) (hown9 : w9.ownsRow (w3.heap.size + 1 + 1 + 1) 42 4 (.slice (some ⟨g', 0, none⟩) n' cap') (acc.length + 1) (flatN acc ++ [.string n.1, .string n.2, .string vl, .int .i64 pl])) :
    TSt w3 (w9.setCell ⟨w3.heap.size + 1, 2, none⟩ (.slice (some ⟨g', 0, none⟩) n' cap')) sp lc at_ (acc ++ [(n, vl, pl)]) (some ⟨g', 0, none⟩) n' cap' := by
  have hbig := h.big
  have hs7 := hg7.size
  have hs9 := hg9.size
  simp only [World.size_alloc] at hs9
  have hrow : ∀ j, (Value.slice ga gn gc).ownBlock = some j → w3.heap.size + 1 + 1 + 1 ≤ j := fun j hj => (h.row.lt j hj).1
  have keep : ∀ j, j < w3.heap.size + 1 + 1 → w9.heap[j]? = wr.heap[j]? := fun j hj => by
    rw [hg9.block j (by simp; omega) (fun e => by have := hrow j e.symm; omega), Below.heap_alloc _ _ _ (by omega), hg7.block j (by omega) (fun e => by cases e; omega)]
  have k0 : ∀ i v, wr.cell? ⟨w3.heap.size + 1, i, none⟩ = some v → w9.cell? ⟨w3.heap.size + 1, i, none⟩ = some v := fun i v hv => (World.cell?_of_block (keep (w3.heap.size + 1) (by omega))).trans hv
  have o2 : ∀ i v, i ≠ 2 → w9.cell? ⟨w3.heap.size + 1, i, none⟩ = some v → (w9.setCell ⟨w3.heap.size + 1, 2, none⟩ (.slice (some ⟨g', 0, none⟩) n' cap')).cell? ⟨w3.heap.size + 1, i, none⟩ = some v := fun i v hi hv => by
    rw [World.cell?_setCell_other _ _ _ _ (by intro e; cases e; exact hi rfl)]; exact hv
  have hg' : w3.heap.size + 1 + 1 + 1 ≤ g' := (hown9.lt g' rfl).1
  refine ⟨?_, o2 0 _ (by decide) (k0 0 _ h.c0), o2 1 _ (by decide) (k0 1 _ h.c1), cellSet _ _ _ (k0 2 _ h.c2), o2 3 _ (by decide) (k0 3 _ h.c3), ?_, ?_, ?_, ?_⟩
  · refine Below.setCell ?_ (p := ⟨w3.heap.size + 1, 2, none⟩) (by simp) _
    exact ⟨(hg9.os.trans hg7.os).trans h.hb.os, (hg9.tape.trans hg7.tape).trans h.hb.tape, (hg9.output.trans hg7.output).trans h.hb.output, by have := h.hb.size; omega, fun j hj => (keep j (by omega)).trans (h.hb.block j hj)⟩
  · rw [World.frozen?_setCell, World.frozen?_of_block (keep (w3.heap.size + 1) (by omega))]
    exact h.f2
  · rw [List.map_append]
    refine hN7.of_block ?_
    rw [Below.heap_setCell _ ⟨w3.heap.size + 1, 2, none⟩ _ _ (by simp), hg9.block _ (by simp; omega) (fun e => by have := hrow _ e.symm; omega), Below.heap_alloc _ _ _ (by omega)]
  · have e1 : flatN (acc ++ [(n, vl, pl)]) = flatN acc ++ [.string n.1, .string n.2, .string vl, .int .i64 pl] := by simp [flatN]
    rw [e1, List.length_append]
    refine ownsRow_of_blocks hown9 (fun j hj => Below.heap_setCell _ ⟨w3.heap.size + 1, 2, none⟩ _ _ ?_)
    have := (hown9.lt j hj).1
    simp
    omega
  · simp [World.setCell]
    omega
set_option maxRecDepth 100000 in
set_option maxHeartbeats 8000000 in
theorem tag_c {w : World} {p : Nat} {sv : Value} {L : List Binds} (h : Sc w p sv L) (hL : L.length < 1099511627776) (kd at_ : Int) (name text : ByteArray) (av : Value) (xs : List XA) (hn : name.size < 4398046511104) (hx : XAttrs w av xs) (hxl : xs.length < 1099511627776) (hxs : ∀ x ∈ xs, x.1.size < 4398046511104) :
    Calls Try.prog 17 #[.pointer (some ⟨p, 0, none⟩), .agg #[.int .i64 kd, .int .i64 at_, .string name, .string text, av]] w fun e W' => TagOut w.heap.size at_ (tagS L name at_ xs) e W' ∧ Below w.heap.size w W' := by
  obtain ⟨aa, acap, rfl, hxc⟩ := hx
  have hr := fun (w' : World) (h' : Sc w' p sv L) => Resolve_c h' hL name hn
  unfold tagS
  generalize resolveS L name false = s at *
  obtain ⟨⟨sp, lc⟩, er⟩ := s
  unfold nameV at hr
  simp only at hr ⊢
  have hmm := @run_makeMap Try.prog
  cases hp : Lib.hasPrefix name.data.toList ownC with
  | true =>
    rw [if_pos rfl]
    go_enter Try.func17, Try.ntmps17
    go_wp2_with (first | (go_at_call 9; refine (hr _ ((h.alloc _).alloc _)).mono ?_; rintro e w3 ⟨rfl, hb3⟩; have hb3' : Below (w.heap.size + 2) (w2t w kd at_ name text (.slice aa xs.length acap)) w3 := hb3.mono (by simp); obtain ⟨k1, k2, k4, _⟩ := boxes hb3'; have k2' := fun o => cellA k2 o; have hbo := hb3'.trans ((Below.refl (w.heap.size + 2) w3).alloc (by have := hb3'.size; simpa using this) (.cells #[.string sp, .string lc] 30)); obtain ⟨k1', _, _, r0, r1, r2, r3, g0, g1, g2, g3⟩ := boxes hbo; have hB3 : Below w.heap.size w w3 := (((Below.refl _ w).alloc (Nat.le_refl _) _).alloc (by simp) _).trans (hb3.mono (by simp; omega)); have hBo := hB3.trans ((Below.refl w.heap.size w3).alloc hB3.size (.cells #[.string sp, .string lc] 30))) | (go_at_call 25; refine (hasPrefix_c _ _ _).mono ?_; rintro e w4 ⟨rfl, rfl⟩; rw [hp]))
    go_region
    all_goals
      go_wp2
      refine tag_err r0 r1 r2 r3 rfl rfl rfl ⟨?_, (set4_below hBo _ (by simp) _ _ _ _).drew⟩
      rfl
  | false =>
    by_cases he : er = 0
    · subst he
      rw [if_neg (by simp), if_neg (by simp)]
      go_enter Try.func17, Try.ntmps17
      go_wp2_with (first | (go_at_call 9; refine (hr _ ((h.alloc _).alloc _)).mono ?_; rintro e w3 ⟨rfl, hb3⟩; have hb3' : Below (w.heap.size + 2) (w2t w kd at_ name text (.slice aa xs.length acap)) w3 := hb3.mono (by simp); obtain ⟨k1, k2, k4, _⟩ := boxes hb3'; have k1' := fun o => cellA k1 o; have k2' := fun o => cellA k2 o; have k1'' := fun o o' => cellA (cellA k1 o) o'; have k4'' := fun o o' o2 => cellA (cellA (cellA k4 o) o') o2) | (go_at_call 25; refine (hasPrefix_c _ _ _).mono ?_; rintro e w4 ⟨rfl, rfl⟩; rw [hp]))
      have hB3 : Below w.heap.size w w3 := (((Below.refl _ w).alloc (Nat.le_refl _) _).alloc (by simp) _).trans (hb3.mono (by simp; omega))
      have hS3 : Sc w3 p sv L := ((h.alloc _).alloc _).below hb3
      have hst := TSt_start w3 sp lc at_ #[.string sp, .string lc]
      clear k1 k2 k4 k1' k2' k1'' k4''
      generalize htt : tagTo L xs [] = res
      go_loopw [41] (fun i wr => ∃ (k : Nat) (acc : List NA) (ga : Option Addr) (gn gc : Nat), k ≤ xs.length ∧ i = .int .i64 k ∧ tagTo L (xs.drop k) acc = res ∧ acc.length ≤ k ∧ TSt w3 wr sp lc at_ acc ga gn gc)
        (fun i _ => xs.length - (intOf i).toNat)
      case atStart => exact ⟨0, [], none, 0, 0, Nat.zero_le _, rfl, htt, Nat.le_refl _, hst⟩
      case round =>
        clear hst
        obtain ⟨k, acc, ga, gn, gc, hk, rfl, hto, hacc, hst⟩ := hrel
        have hBw : Below w.heap.size w wr := hB3.trans (hst.hb.mono hB3.size)
        have hc0 := hst.c0
        have hc1 := hst.c1
        have hc2 := hst.c2
        have hc3 := hst.c3
        by_cases hlt : k < xs.length
        · obtain ⟨q, rfl, e0, e1, e2⟩ := hxc k hlt
          have hdrop : xs.drop k = xs[k] :: xs.drop (k + 1) := List.drop_eq_getElem_cons hlt
          have hnm := hxs xs[k] (List.getElem_mem hlt)
          have x0 := cellB hBw e0 (lt_of_cell e0)
          have x1 := cellB hBw e1 (lt_of_cell e1)
          have x2 := cellB hBw e2 (lt_of_cell e2)
          rw [hdrop] at hto
          clear e0 e1 e2 hdrop hxc hxs hr
          generalize xs[k] = xk at hto hnm x0 x1 x2
          obtain ⟨nm, vl, pl⟩ := xk
          simp only at hnm x0 x1 x2
          have hbn := fun (w' : World) => binds_c nm w'
          unfold tagTo at hto
          simp only at hto
          generalize bindsS nm = bv at hbn hto
          obtain ⟨pf, is⟩ := bv
          simp only at hbn hto
          cases is with
          | true =>
            rw [if_pos rfl] at hto
            go_wp2_with (go_at_call 15; refine (hbn _).mono ?_; rintro e w5 ⟨rfl, hb5⟩; have hst5 := (hst.alloc _).below hb5)
            go_roundw
            case rel => exact ⟨k + 1, acc, ga, gn, gc, by omega, by simp, hto, by omega, hst5⟩
            case measure => simp [intOf]; omega
          | false =>
            rw [if_neg (by simp)] at hto
            have hrv := fun (w' : World) (h' : Sc w' p sv L) => resolve_c h' hL nm hnm true
            have hSr := hS3.below hst.hb
            generalize resolveS L nm true = rv at hrv hto
            obtain ⟨⟨s2, l2⟩, er2⟩ := rv
            unfold nameV at hrv
            simp only at hrv hto
            by_cases he2 : er2 = 0
            · subst he2
              rw [if_neg (by simp)] at hto
              cases hhd : isHad (acc.map (·.1)) (s2, l2) with
              | true =>
                rw [hhd, if_pos rfl] at hto
                have hnb : ¬ (w.heap.size + 1 = wr.heap.size) := by have := hst.big; have := hb3'.size; simp at this; omega
                have hnb' : ¬ (wr.heap.size = w.heap.size + 1) := fun e => hnb e.symm
                go_wp2_with (first | (go_at_call 15; refine (hbn _).mono ?_; rintro e w5 ⟨rfl, hb5⟩; have y0 : w5.cell? ⟨wr.heap.size, 0, none⟩ = some (.string nm) := cellB hb5 (new_cell wr #[.string nm, .string vl, .int .i64 pl] _ 0 rfl) (by simp); have y2 : w5.cell? ⟨wr.heap.size, 2, none⟩ = some (.int .i64 pl) := cellB hb5 (new_cell wr #[.string nm, .string vl, .int .i64 pl] _ 2 rfl) (by simp)) | (go_at_call 18; refine (hrv _ ((hSr.alloc _).below hb5)).mono ?_; rintro e w6 ⟨rfl, hb6⟩; have hst6 := ((hst.alloc _).below hb5).below hb6; have hlook := (hst6.alloc (.cells #[.string s2, .string l2] 30)).had.look (s2, l2); unfold nameV at hlook; rw [hhd] at hlook; have z2 := cellA (cellB hb6 y2 (lt_of_cell y2)) (.cells #[.string s2, .string l2] 30); have hst6' := hst6.alloc (.cells #[.string s2, .string l2] 30); have hB6 : Below w.heap.size w (w6.alloc (.cells #[.string s2, .string l2] 30)) := hB3.trans (hst6'.hb.mono hB3.size); obtain ⟨_, _, _, r0, r1, r2, r3, g0, g1, g2, g3⟩ := boxes (hb3'.trans (hst6'.hb.mono (by have := hb3'.size; simpa using this)))))
                go_region
                all_goals
                  go_wp2
                  refine tag_err r0 r1 r2 r3 rfl rfl rfl ⟨?_, (set4_below hB6 _ (by simp) _ _ _ _).drew⟩
                  rw [show tagTo L xs [] = .error (pl, 5) from htt.trans hto.symm]
                  rfl
              | false =>
                rw [hhd, if_neg (by simp)] at hto
                obtain ⟨i0, hi, hz0, hz1, hz2⟩ := info_parts infoA
                have hnot : (s2, l2) ∉ acc.map (·.1) := fun hm => by rw [(isHad_iff _ _).2 hm] at hhd; cases hhd
                go_wp2_with (first | (go_at_call 15; refine (hbn _).mono ?_; rintro e w5 ⟨rfl, hb5⟩; have y0 : w5.cell? ⟨wr.heap.size, 0, none⟩ = some (.string nm) := cellB hb5 (new_cell wr #[.string nm, .string vl, .int .i64 pl] _ 0 rfl) (by simp); have y1 : w5.cell? ⟨wr.heap.size, 1, none⟩ = some (.string vl) := cellB hb5 (new_cell wr #[.string nm, .string vl, .int .i64 pl] _ 1 rfl) (by simp); have y2 : w5.cell? ⟨wr.heap.size, 2, none⟩ = some (.int .i64 pl) := cellB hb5 (new_cell wr #[.string nm, .string vl, .int .i64 pl] _ 2 rfl) (by simp)) | (go_at_call 18; refine (hrv _ ((hSr.alloc _).below hb5)).mono ?_; rintro e w6 ⟨rfl, hb6⟩; have hst6 := ((hst.alloc _).below hb5).below hb6; have hlook := (hst6.alloc (.cells #[.string s2, .string l2] 30)).had.look (s2, l2); unfold nameV at hlook; rw [hhd] at hlook) | (at_mapUpdate; refine wpList_store_nset rfl _ _ _ rfl rfl (hst6.alloc (.cells #[.string s2, .string l2] 30)).had (s2, l2) rfl rfl hnot ?_; intro w7 hN7 hg7; have hst6' := hst6.alloc (.cells #[.string s2, .string l2] 30); have hbig6 := hst6.big; have z2 := hg7.cell hst6'.c2 (by simp); have zs := hg7.cell (new_cell w6 #[.string s2, .string l2] 30 0 rfl) (by simp; omega); have zl : w7.cell? ⟨w6.heap.size, 1, none⟩ = some (.string l2) := hg7.cell (new_cell w6 #[.string s2, .string l2] 30 1 rfl) (by simp; omega); have hbig0 := hst.big; have zv := hg7.cell (cellA (cellB hb6 y1 (lt_of_cell y1)) (.cells #[.string s2, .string l2] 30)) (by simp; omega); have zp := hg7.cell (cellA (cellB hb6 y2 (lt_of_cell y2)) (.cells #[.string s2, .string l2] 30)) (by simp; omega); have hrow7 := ownsRow_of_blocks hst6'.row (fun j hj => hg7.block j (hst6'.row.lt j hj).2 (fun e => by have := (hst6'.row.lt j hj).1; cases e; omega))) | (at_builtin; go_loud (refine wpList_append_own_at _ rfl _ _ 31 rfl (w3.heap.size + 1 + 1 + 1) 42 i0 (.agg #[.string ⟨#[]⟩, .string ⟨#[]⟩, .string ⟨#[]⟩, .int .i64 0]) 4 56 Try.underlying31 hi hz0 hz1 hz2 rfl (by decide) _ _ _ rfl (ownsRow_of_blocks hrow7 (fun j hj => Below.heap_alloc _ _ _ (hrow7.lt j hj).2)) ⟨w7.heap.size, 0, none⟩ 1 1 [.string s2, .string l2, .string vl, .int .i64 pl] rfl rfl (cells_new w7 [.string s2, .string l2, .string vl, .int .i64 pl] 42) (by simp [Value.oneCell']) (by unfold maxLen; omega) (by omega) (by have := hst6'.big; have := hg7.size; simp; omega) ?_; intro v9 w9 hown9 hg9 _ _; obtain ⟨g9, cap9, rfl⟩ := row_some hown9; have q2 : w9.cell? ⟨w3.heap.size + 1, 2, none⟩ = some (.slice ga gn gc) := hg9.cell (cellA z2 _) (fun e => by have := (hst6'.row.lt (w3.heap.size + 1) e.symm).1; omega); have qf : w9.frozen? ⟨w3.heap.size + 1, 2, none⟩ = false := (World.frozen?_of_block (hg9.block (w3.heap.size + 1) (by have := lt_of_cell z2; simp at this ⊢; omega) (fun e => by have := (hst6'.row.lt (w3.heap.size + 1) e.symm).1; omega))).trans ((World.frozen?_of_block (Below.heap_alloc _ _ _ (lt_of_cell z2))).trans ((World.frozen?_of_block (hg7.block (w3.heap.size + 1) (lt_of_cell hst6'.c2) (by simp))).trans hst6'.f2)); have hpush := hst6'.pushed (s2, l2) vl pl hN7 hg7 _ hg9 g9 _ cap9 hown9)))
                exact ⟨⟨k + 1, _, _, _, _, by omega, by simp, hto, by simp; omega, hpush⟩, by simp [intOf]; omega⟩
            · rw [if_pos he2] at hto
              have hnb : ¬ (w.heap.size + 1 = wr.heap.size) := by have := hst.big; have := hb3'.size; simp at this; omega
              have hnb' : ¬ (wr.heap.size = w.heap.size + 1) := fun e => hnb e.symm
              have heb : (er2 == 0) = false := by rw [beq_eq_false_iff_ne]; exact he2
              have hnb2 : (er2 != 0) = true := by rw [bne_iff_ne]; exact he2
              go_wp2_with (first | (go_at_call 15; refine (hbn _).mono ?_; rintro e w5 ⟨rfl, hb5⟩; have y0 : w5.cell? ⟨wr.heap.size, 0, none⟩ = some (.string nm) := cellB hb5 (new_cell wr #[.string nm, .string vl, .int .i64 pl] _ 0 rfl) (by simp); have y2 : w5.cell? ⟨wr.heap.size, 2, none⟩ = some (.int .i64 pl) := cellB hb5 (new_cell wr #[.string nm, .string vl, .int .i64 pl] _ 2 rfl) (by simp)) | (go_at_call 18; refine (hrv _ ((hSr.alloc _).below hb5)).mono ?_; rintro e w6 ⟨rfl, hb6⟩; have hst6 := ((hst.alloc _).below hb5).below hb6; have z2 := cellA (cellB hb6 y2 (lt_of_cell y2)) (.cells #[.string s2, .string l2] 30); have hst6' := hst6.alloc (.cells #[.string s2, .string l2] 30); have hB6 : Below w.heap.size w (w6.alloc (.cells #[.string s2, .string l2] 30)) := hB3.trans (hst6'.hb.mono hB3.size); obtain ⟨_, _, _, r0, r1, r2, r3, g0, g1, g2, g3⟩ := boxes (hb3'.trans (hst6'.hb.mono (by have := hb3'.size; simpa using this)))))
              go_region
              all_goals
                go_wp2
                refine tag_err r0 r1 r2 r3 rfl rfl rfl ⟨?_, (set4_below hB6 _ (by simp) _ _ _ _).drew⟩
                rw [show tagTo L xs [] = .error (pl, er2) from htt.trans hto.symm]
                rfl
        · obtain rfl : k = xs.length := by omega
          obtain ⟨_, _, _, r0, r1, r2, r3, g0, g1, g2, g3⟩ := boxes (hb3'.trans (hst.hb.mono (by have := hb3'.size; simp at this; omega)))
          rw [List.drop_length] at hto
          have hrow := hst.row
          have hs3 : w.heap.size + 2 ≤ w3.heap.size := by have := hb3'.size; simpa using this
          go_wp2
          obtain ⟨d0, d1, d2, d3⟩ := set4 wr (w.heap.size + 1) (.string sp) (.string lc) (.slice ga gn gc) (.int .i64 at_) r0 r1 r2 r3
          refine bodyPost_ret (v := .tuple #[.agg #[.string sp, .string lc, .slice ga gn gc, .int .i64 at_], .int .i64 0, .int .i64 0]) (by simp [results, Try.f17, go_sem, d0, d1, d2, d3]) rfl ⟨?_, set4_below hBw _ (by simp) _ _ _ _⟩
          rw [show tagTo L xs [] = .ok acc from htt.trans hto.symm]
          refine ⟨_, rfl, ?_⟩
          refine ownsRow_of_blocks (own_weaken hrow (by omega)) (fun j hj => set4_block _ _ _ _ _ _ _ ?_)
          have := (hrow.lt j hj).1
          omega
    · rw [if_neg (by simp), if_pos he]
      have heb : (er == 0) = false := by rw [beq_eq_false_iff_ne]; exact he
      have hnb2 : (er != 0) = true := by rw [bne_iff_ne]; exact he
      go_enter Try.func17, Try.ntmps17
      go_wp2_with (first | (go_at_call 9; refine (hr _ ((h.alloc _).alloc _)).mono ?_; rintro e w3 ⟨rfl, hb3⟩; have hb3' : Below (w.heap.size + 2) (w2t w kd at_ name text (.slice aa xs.length acap)) w3 := hb3.mono (by simp); obtain ⟨k1, k2, k4, _⟩ := boxes hb3'; have k2' := fun o => cellA k2 o; have hbo := hb3'.trans ((Below.refl (w.heap.size + 2) w3).alloc (by have := hb3'.size; simpa using this) (.cells #[.string sp, .string lc] 30)); obtain ⟨k1', _, _, r0, r1, r2, r3, g0, g1, g2, g3⟩ := boxes hbo; have hB3 : Below w.heap.size w w3 := (((Below.refl _ w).alloc (Nat.le_refl _) _).alloc (by simp) _).trans (hb3.mono (by simp; omega)); have hBo := hB3.trans ((Below.refl w.heap.size w3).alloc hB3.size (.cells #[.string sp, .string lc] 30))) | (go_at_call 25; refine (hasPrefix_c _ _ _).mono ?_; rintro e w4 ⟨rfl, rfl⟩; rw [hp]))
      go_region
      all_goals
        go_wp2
        refine tag_err r0 r1 r2 r3 rfl rfl rfl ⟨?_, (set4_below hBo _ (by simp) _ _ _ _).drew⟩
        rfl
end Go.Proofs.YtdelafoijplleaaN
