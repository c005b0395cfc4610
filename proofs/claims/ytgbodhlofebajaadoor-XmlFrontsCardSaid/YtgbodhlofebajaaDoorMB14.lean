/- What is proved: what the claims of this seat share, part 14: a program of ours merged it out of our own texts, the print's words and the laid shelf. Conditions: those of each. -/
import Derived.Test.YtgbodhlofebajaaDoorMB13
import Derived.Lib.SlBytesConst
set_option linter.unusedVariables false
set_option linter.unusedSimpArgs false
section
set_option linter.unusedVariables false
namespace Go.Proofs.YtgbodhlofebajaaDoorX
open Go.RowKit Go.Shelf Go.Proofs.YtgbodhlofebajaaDoor.PXmlBase Go.Proofs.YtgbodhlofebajaaDoorW.PrintWords
deriving instance DecidableEq for XA
deriving instance DecidableEq for XE
def doc1 : List Int := [60, 97, 32, 98, 61, 39, 49, 39, 62, 120, 38, 97, 109, 112, 59, 60, 99, 47, 62, 60, 47, 97, 62]
def doc2 : List Int := [60, 97, 62, 60, 98, 62, 60, 47, 97, 62]
theorem doc1_all : (allE doc1 (limOf 0 0 0 0)).1 = [⟨1, 0, [97], [], [⟨[98], [49], 3⟩]⟩, ⟨3, 9, [], [120, 38], []⟩, ⟨1, 15, [99], [], []⟩, ⟨2, 17, [99], [], []⟩, ⟨2, 19, [97], [], []⟩] := by decide +kernel
theorem doc1_end : (allE doc1 (limOf 0 0 0 0)).2.fat = 0 ∧ (allE doc1 (limOf 0 0 0 0)).2.ferr = 0 := by decide +kernel
theorem doc2_end : (allE doc2 (limOf 0 0 0 0)).2.fat = 6 ∧ (allE doc2 (limOf 0 0 0 0)).2.ferr = 2 := by decide +kernel
theorem EnvW.below {w W : World} (h : EnvW w) (hb : Below w.heap.size w W) : EnvW W := by
  obtain ⟨w0, h1, h2⟩ := h
  exact ⟨w0, h1, h2.trans (hb.mono h2.size)⟩
/-- All of a row that is written out. -/
theorem all_lit {w : World} {k n : Nat} {bs : List Int} (hn : bs.length = n) (hb : Bytes bs) (hE : EnvW w) (hlen : n ≤ 1000000) (hrow : ∀ j x, bs[j]? = some x → w.cell? ⟨k, j, none⟩ = some (.int .u8 x)) (hk : k < w.heap.size) (c : Nat) (l0 l1 l2 l3 l4 l5 : Int) :
    Calls Tryd.prog 13 #[.slice (some ⟨k, 0, none⟩) n c, .agg #[.int .i64 l0, .int .i64 l1, .int .i64 l2, .int .i64 l3, .int .i64 l4, .int .i64 l5]] w (AllR w (allE bs (limOf l0 l1 l2 l3))) := by
  subst hn
  exact all_c (ad := some ⟨k, 0, none⟩) hb hE hlen (fun e => by cases e) (fun a ha j x hx => by
    cases ha
    rw [plain_add, Nat.zero_add]
    exact hrow j x hx) l0 l1 l2 l3 l4 l5
theorem lit_cells (w : World) (bs : List Int) (e : TypeId) (fr : Nat × Nat) : ∀ j x, bs[j]? = some x → (w.alloc (.cells (nums .u8 bs).toArray e fr)).cell? ⟨w.heap.size, j, none⟩ = some (.int .u8 x) := by
  intro j x hx
  have hn : (w.alloc (.cells (nums .u8 bs).toArray e fr)).heap[w.heap.size]? = some (.cells (nums .u8 bs).toArray e fr) := heap_alloc_new w _
  rw [cell_of_row _ _ j _ _ _ hn]
  simp [nums, hx]
theorem bytes_dec {l : List Int} (h : (l.all fun x => decide (0 ≤ x ∧ x < 256)) = true) : Bytes l := fun x hx => of_decide_eq_true (List.all_eq_true.1 h x hx)
/-- What is read of the first document's events. -/
theorem doc1_read {w W : World} {e : Ending} (h : AllR w (allE doc1 (limOf 0 0 0 0)) e W) : ∃ g cap A cA gA oA, A = some ⟨gA, oA, none⟩ ∧ e = .returned (.tuple #[.slice (some ⟨g, 0, none⟩) 5 cap, .int .i64 0, .int .i64 0]) ∧ Below w.heap.size w W ∧ 5 ≤ cap ∧ 1 ≤ cA ∧
    W.cell? ⟨g, 4, none⟩ = some (.slice A 1 cA) ∧ W.cell? ⟨gA, oA + 1, none⟩ = some (.string ⟨#[49]⟩) ∧ W.cell? ⟨g, 8, none⟩ = some (.string ⟨#[120, 38]⟩) ∧ W.cell? ⟨g, 15, none⟩ = some (.int .i64 2) ∧ W.cell? ⟨g, 16, none⟩ = some (.int .i64 17) := by
  obtain ⟨ov, cs, rfl, hb, ho, he⟩ := h
  rw [doc1_all] at ho he
  rw [doc1_end.1, doc1_end.2]
  obtain ⟨a0, r0, rfl, h0, _, he⟩ := he
  obtain ⟨a1, r1, rfl, _, _, he⟩ := he
  obtain ⟨a2, r2, rfl, _, _, he⟩ := he
  obtain ⟨a3, r3, rfl, _, _, he⟩ := he
  obtain ⟨a4, r4, rfl, _, _, he⟩ := he
  rcases ho.2 with ⟨_, h5⟩ | ⟨g, cap, cur, rfl, hg, hcell, hc, hc2, hc3, hc4⟩
  · cases h5
  have hcell2 := ho.cells (g := g) rfl
  obtain ⟨A0, c0, rfl, hc0⟩ := h0.slice
  obtain ⟨gA, oA, rfl⟩ := h0.some rfl (Nat.succ_pos _)
  have hA := h0.cells rfl 1 _ rfl
  have rd : ∀ j u, _ → W.cell? ⟨g, j, none⟩ = some u := fun j u hu => by
    have := hcell2 j u hu
    rw [plain_add, Nat.zero_add] at this
    exact this
  exact ⟨g, cap, _, c0, gA, oA, rfl, rfl, hb, hc, hc0, rd 4 _ rfl, hA, rd 8 _ rfl, rd 15 _ rfl, rd 16 _ rfl⟩
theorem doc2_read {w W : World} {e : Ending} (h : AllR w (allE doc2 (limOf 0 0 0 0)) e W) : ∃ ov, e = .returned (.tuple #[ov, .int .i64 6, .int .i64 2]) ∧ Below w.heap.size w W := by
  obtain ⟨ov, cs, rfl, hb, ho, he⟩ := h
  rw [doc2_end.1, doc2_end.2]
  exact ⟨ov, rfl, hb⟩
theorem esc_read {w : World} : Calls Tryd.prog 11 #[.string ⟨#[60, 34]⟩, .bool true] w fun e W => e = .returned (.string ⟨#[38, 108, 116, 59, 38, 113, 117, 111, 116, 59]⟩) ∧ Below w.heap.size w W :=
  (escape_c ⟨#[60, 34]⟩ true w (by decide)).mono fun e W h => ⟨h.1.trans (congrArg (fun x => Ending.returned (Value.string x)) (by decide +kernel)), h.2⟩
set_option maxRecDepth 100000 in
set_option maxHeartbeats 4000000 in
theorem known_c {w : World} (hE : EnvW w) : Calls Tryd.prog 9 #[] w fun e W => e = .returned (.bool true) ∧ Below w.heap.size w W := by
  have hcv : ∀ (W : World) C n c, (convert 25 25 (.slice (some ⟨W.heap.size, 0, none⟩) n c)).run Tryd.prog (W.alloc (.cells C 5)) = .ok (.slice (some ⟨W.heap.size, 0, none⟩) n c) (W.alloc (.cells C 5 (C.size, C.size + 1))) := fun W C n c => Lib.run_convert_bytes_const W _ _ C n c Tryd.underlying25 Tryd.underlying5
  have hb1 := (Below.refl w.heap.size w).alloc (Nat.le_refl _) (.cells (nums .u8 doc1).toArray 5 (23, 24))
  have h1 := all_lit (bs := doc1) rfl (bytes_dec (by decide)) (hE.below hb1) (by decide) (lit_cells w doc1 5 (23, 24)) (by simp) 23 0 0 0 0 0 0
  go_enter Tryd.func9, Tryd.ntmps9
  have t1 := True.intro
  go_wp2_with (first
    | (have _t := t1
       go_at_call 13
       go_loud (clear _t t1
                refine h1.mono ?_
                clear h1
                intro e w2 hR2
                obtain ⟨g, cap, A, cA, gA, oA, rfl, rfl, hb2, hc2, hcA, k1, k2, k3, k4, k5⟩ := doc1_read hR2
                have hbw := hb1.trans (hb2.mono hb1.size)
                have hb3 := (Below.refl w2.heap.size w2).alloc (Nat.le_refl _) (.cells (nums .u8 doc2).toArray 5 (10, 11))
                have h2 := all_lit (bs := doc2) rfl (bytes_dec (by decide)) ((hE.below hbw).below hb3) (by decide) (lit_cells w2 doc2 5 (10, 11)) (by simp) 10 0 0 0 0 0 0
                have t2 := True.intro))
    | (have _t := t2
       go_at_call 13
       go_loud (clear _t t2
                refine h2.mono ?_
                clear h2
                intro e w4 hR4
                obtain ⟨ov4, rfl, hb4⟩ := doc2_read hR4
                have hb24 := hb3.trans (hb4.mono hb3.size)
                have m1 := cellB hb24 k1 (lt_of_cell k1)
                have m2 := cellB hb24 k2 (lt_of_cell k2)
                have m3 := cellB hb24 k3 (lt_of_cell k3)
                have m4 := cellB hb24 k4 (lt_of_cell k4)
                have m5 := cellB hb24 k5 (lt_of_cell k5)
                have hb04 := hbw.trans (hb24.mono hbw.size)
                have t3 := True.intro))
    | (have _t := t3
       go_at_call 11
       go_loud (clear _t t3
                refine esc_read.mono ?_
                rintro e w6 ⟨rfl, hb6⟩)))
  go_ret
  exact ⟨rfl, hb04.trans (hb6.mono hb04.size)⟩
end Go.Proofs.YtgbodhlofebajaaDoorX
end
