/- What is proved: what the claims of this seat share, part 13: a program of ours merged it out of our own texts, the print's words and the laid shelf. Conditions: those of each. -/
import Derived.Test.YtgbodhlofebajaaDoorMB12
import Derived.Laws.Externs
import Derived.Laws.IdiomStrings
import Derived.Lib.AppendStr
import Derived.Lib.Builder
import Derived.Lib.Strings
import Derived.Lib.Walk
set_option linter.unusedVariables false
set_option linter.unusedSimpArgs false
section
set_option linter.unusedVariables false
namespace Go.Proofs.YtgbodhlofebajaaDoorX
open Go.RowKit Go.Shelf Go.Proofs.YtgbodhlofebajaaDoor.PXmlBase Go.Proofs.YtgbodhlofebajaaDoorW.PrintWords
set_option maxHeartbeats 1000000 in
set_option maxRecDepth 100000 in
theorem copyCheck_used (b : Nat) (w : World) (h0 : w.cell? ⟨b, 0, none⟩ = some (.pointer (some ⟨b, 0, none⟩))) :
    Calls Tryd.prog 27 #[.pointer (some ⟨b, 0, none⟩)] w fun e w' => e = .returned (.tuple #[]) ∧ w' = w := by
  obtain ⟨j, hj, _⟩ := Option.map_eq_some_iff.1 (show (Tryd.prog.info? 57).map (fun i => i.size) = some 2 by kernel_rfl)
  go_enter Tryd.func27, Tryd.ntmps27
  go_wp2
  rw [Lib.run_neq_ptr_same w _ Tryd.underlying55 hj]
  go_wp2
  go_end0
  exact ⟨rfl, rfl⟩
set_option maxHeartbeats 1000000 in
set_option maxRecDepth 100000 in
theorem copyCheck_fresh (b : Nat) (w : World) (h0 : w.cell? ⟨b, 0, none⟩ = some (.pointer none)) (hsh : w.shape? b = some (57, 2)) (hfz : w.frozen? ⟨b, 0, none⟩ = false) :
    Calls Tryd.prog 27 #[.pointer (some ⟨b, 0, none⟩)] w fun e w' => e = .returned (.tuple #[]) ∧ w' = w.setCell ⟨b, 0, none⟩ (.pointer (some ⟨b, 0, none⟩)) := by
  obtain ⟨j, hj, hjs⟩ := Option.map_eq_some_iff.1 (show (Tryd.prog.info? 57).map (fun i => i.size) = some 2 by kernel_rfl)
  go_enter Tryd.func27, Tryd.ntmps27
  go_wp2
  rw [Lib.run_to_unsafe w ⟨b, 0, none⟩ Tryd.underlying55 Tryd.underlying81 hj (by rw [hjs]; decide) hsh (Nat.zero_lt_succ 1)]
  simp only [Result.andThen]
  rw [Oper.upon_value]
  go_wp2
  rw [run_callFunc_extern Tryd.func31 (by kernel_rfl) (by kernel_rfl) (by kernel_rfl) (e := Extern.AbiNoEscape.same) (by kernel_rfl)]
  rw [Lib.run_noEscape]
  simp only [Result.andThen]
  rw [Oper.upon_value]
  go_wp2
  rw [Lib.run_from_unsafe w ⟨b, 0, none⟩ Tryd.underlying81 Tryd.underlying55 hj hsh (by kernel_rfl)]
  simp only [Result.andThen]
  rw [Oper.upon_value]
  go_wp2
  go_end0
  exact ⟨rfl, rfl⟩
/-- A builder in block b; its row lies from R on; it holds bs. -/
def MB (b R : Nat) (bs : List Value) (w : World) : Prop := b < R ∧ R ≤ w.heap.size ∧ ∃ p v, (p = .pointer none ∨ p = .pointer (some ⟨b, 0, none⟩)) ∧ w.heap[b]? = some (.cells #[p, v] 57 (0, 0)) ∧ w.ownsRow R 5 1 v bs.length bs
/-- What stands below R, but for b, stands. -/
structure MF (b R : Nat) (w w' : World) : Prop where
  os : w'.os = w.os
  tape : w'.tape = w.tape
  output : w'.output = w.output
  size : w.heap.size ≤ w'.heap.size
  block : ∀ k, k < R → k ≠ b → w'.heap[k]? = w.heap[k]?
theorem MF.trans {b R : Nat} {u v w : World} (h : MF b R u v) (k : MF b R v w) : MF b R u w := ⟨k.os.trans h.os, k.tape.trans h.tape, k.output.trans h.output, Nat.le_trans h.size k.size, fun i hi hb => (k.block i hi hb).trans (h.block i hi hb)⟩
theorem MF.refl (b R : Nat) (w : World) : MF b R w w := ⟨rfl, rfl, rfl, Nat.le_refl _, fun _ _ _ => rfl⟩
theorem MF.drewN {b R n : Nat} {u v : World} (h : MF b R u v) : MF b R u (v.drewN n) := ⟨h.os, h.tape, h.output, h.size, h.block⟩
theorem MB.is {b R : Nat} {bs : List Value} {w : World} (h : MB b R bs w) : Lib.IsBuilder 57 5 b b bs w := by
  obtain ⟨h1, h2, p, v, hp, hb, ho⟩ := h
  have ho' : w.ownsRow b 5 1 v bs.length bs := by
    refine ⟨ho.1, ?_⟩
    rcases ho.2 with h3 | ⟨g, cap, cur, e1, e2, r⟩
    · exact .inl h3
    · exact .inr ⟨g, cap, cur, e1, by omega, r⟩
  have hne : v.ownBlock ≠ some b := fun e => by have := (ho.lt b e).1; omega
  rcases hp with rfl | rfl
  · exact .inl ⟨Nat.le_refl _, v, hb, ho', hne⟩
  · exact .inr ⟨Nat.le_refl _, v, hb, ho', hne⟩
theorem copyCheck_m (b R : Nat) (bs : List Value) (w : World) (h : MB b R bs w) :
    Calls Tryd.prog 27 #[.pointer (some ⟨b, 0, none⟩)] w fun e w' => e = .returned (.tuple #[]) ∧ R ≤ w'.heap.size ∧ MF b R w w' ∧ ∃ v, w'.heap[b]? = some (.cells #[.pointer (some ⟨b, 0, none⟩), v] 57 (0, 0)) ∧ w'.ownsRow R 5 1 v bs.length bs := by
  obtain ⟨h1, h2, p, v, hp, hb, ho⟩ := h
  rcases hp with rfl | rfl
  · refine (copyCheck_fresh b w (blk_cell hb 0) (by simp [World.shape?, hb]) (blk_frz hb 0)).mono ?_
    rintro e w' ⟨rfl, rfl⟩
    have hset : ∀ k, k ≠ b → (w.setCell ⟨b, 0, none⟩ (.pointer (some ⟨b, 0, none⟩))).heap[k]? = w.heap[k]? := fun k hk => Below.heap_setCell w ⟨b, 0, none⟩ _ k hk
    have hsz : (w.setCell ⟨b, 0, none⟩ (.pointer (some ⟨b, 0, none⟩))).heap.size = w.heap.size := by simp [World.setCell]
    exact ⟨rfl, by rw [hsz]; exact h2, ⟨rfl, rfl, rfl, by rw [hsz]; exact Nat.le_refl _, fun k _ hk => hset k hk⟩, v, blk_set hb, ownsRow_of_blocks ho (fun k hk => hset k (fun e => by have := (ho.lt k hk).1; omega))⟩
  · refine (copyCheck_used b w (blk_cell hb 0)).mono ?_
    rintro e w' ⟨rfl, rfl⟩
    exact ⟨rfl, h2, MF.refl _ _ _, v, hb, ho⟩
theorem MB.put {b R : Nat} {bs : List Value} {w w1 w2 : World} {v v' : Value} {n : Nat} (hR : b < R) (hR1 : R ≤ w1.heap.size) (hF : MF b R w w1) (hbk : w1.heap[b]? = some (.cells #[.pointer (some ⟨b, 0, none⟩), v] 57 (0, 0))) (hown : ∀ k, v.ownBlock = some k → R ≤ k)
    (hg : w1.grownBy w2 v.ownBlock) (hn : n = bs.length) (hown' : w2.ownsRow R 5 1 v' n bs) : MB b R bs (w2.setCell ⟨b, 1, none⟩ v') ∧ MF b R w (w2.setCell ⟨b, 1, none⟩ v') := by
  subst hn
  have hset : ∀ k, k ≠ b → (w2.setCell ⟨b, 1, none⟩ v').heap[k]? = w2.heap[k]? := fun k hk => Below.heap_setCell w2 ⟨b, 1, none⟩ _ k hk
  have hsz : (w2.setCell ⟨b, 1, none⟩ v').heap.size = w2.heap.size := by simp [World.setCell]
  have hb2 : w2.heap[b]? = some (.cells #[.pointer (some ⟨b, 0, none⟩), v] 57 (0, 0)) := (hg.block b (by omega) (fun e => by have := hown b e.symm; omega)).trans hbk
  refine ⟨⟨hR, by rw [hsz]; exact Nat.le_trans hR1 hg.size, _, v', .inr rfl, blk_set hb2, ownsRow_of_blocks hown' (fun k hk => hset k (fun e => by have := (hown'.lt k hk).1; omega))⟩, ⟨hg.os.trans hF.os, hg.tape.trans hF.tape, hg.output.trans hF.output, by rw [hsz]; exact Nat.le_trans hF.size hg.size, fun k hk hkb => (hset k hkb).trans ((hg.block k (by omega) (fun e => by have := hown k e.symm; omega)).trans (hF.block k hk hkb))⟩⟩
set_option maxHeartbeats 2000000 in
set_option maxRecDepth 100000 in
theorem writeByte_c (b R : Nat) (bs : List Value) (c : Int) (w : World) (h : MB b R bs w) (hlen : bs.length + 1 ≤ 140737488355328) :
    Calls Tryd.prog 21 #[.pointer (some ⟨b, 0, none⟩), .int .u8 c] w fun e w' => e = .returned .nilIface ∧ MB b R (bs ++ [.int .u8 c]) w' ∧ MF b R w w' := by
  obtain ⟨i0, hi, hzz⟩ := Option.map_eq_some_iff.1 (show (Tryd.prog.info? 5).map (fun i => (i.zero, i.size, i.bytes)) = some (some (.int .u8 0), 1, 1) by kernel_rfl)
  simp only [Prod.mk.injEq] at hzz
  obtain ⟨hz0, hz1, hz2⟩ := hzz
  have hR := h.1
  go_enter Tryd.func21, Tryd.ntmps21
  go_wp2_with (go_at_call 27; refine (copyCheck_m b R bs _ h).mono ?_)
  rintro e w1 ⟨rfl, hR1, hF1, v, hbk, hown⟩
  have c0 : w1.cell? ⟨b, 0, none⟩ = some (.pointer (some ⟨b, 0, none⟩)) := blk_cell hbk 0
  have c1 : w1.cell? ⟨b, 1, none⟩ = some v := blk_cell hbk 1
  go_wp2_with (at_builtin; refine wpList_append_own _ rfl _ _ 25 rfl R 5 i0 (.int .u8 0) 1 1 Tryd.underlying25 hi hz0 hz1 hz2 rfl (by decide) _ _ _ rfl (hown.alloc _) ⟨w1.heap.size, 0, none⟩ 1 1 [.int .u8 c] rfl rfl ?c1 ?c2 ?c3 ?c4 ?c5 ?_)
  case c1 =>
    intro j u hj
    match j, hj with
    | 0, hj => simp at hj; subst hj; simp [Addr.add]
  case c2 => intro u hu; simp at hu; subst hu; rfl
  case c3 => unfold maxLen; omega
  case c4 => omega
  case c5 => simp; omega
  intro v' w2 hown' hgrow _
  have hlt : b < w1.heap.size := by omega
  have hba := (Below.refl w1.heap.size w1).alloc (Nat.le_refl _) (.cells #[.int .u8 c] 5)
  have hb2 : w2.heap[b]? = some (.cells #[.pointer (some ⟨b, 0, none⟩), v] 57 (0, 0)) := by
    rw [hgrow.block b (by simp; omega) (fun e => by have := (hown.lt b e.symm).1; omega), alloc_old w1 _ b hlt]
    exact hbk
  have d0 : w2.cell? ⟨b, 0, none⟩ = some (.pointer (some ⟨b, 0, none⟩)) := blk_cell hb2 0
  have d1 : w2.cell? ⟨b, 1, none⟩ = some v := blk_cell hb2 1
  have f1 : w2.frozen? ⟨b, 1, none⟩ = false := blk_frz hb2 1
  obtain ⟨g, cap, rfl⟩ : ∃ g cap, v' = .slice (some ⟨g, 0, none⟩) (bs.length + 1) cap := by
    rcases hown'.2 with ⟨_, h0⟩ | ⟨g, cap, cur, hv, _⟩
    · omega
    · exact ⟨g, cap, hv⟩
  go_wp2
  go_ret
  exact ⟨rfl, MB.put (w1 := w1.alloc (.cells #[.int .u8 c] 5)) hR (by simp; omega) ⟨hba.os.trans hF1.os, hba.tape.trans hF1.tape, hba.output.trans hF1.output, Nat.le_trans hF1.size hba.size, fun k hk hkb => (hba.block k (by omega)).trans (hF1.block k hk hkb)⟩ ((hba.block b hlt).trans hbk) (fun k hk => (hown.lt k hk).1) hgrow (by simp) hown'⟩
set_option maxHeartbeats 2000000 in
set_option maxRecDepth 100000 in
theorem writeString_c (b R : Nat) (bs : List Value) (s : ByteArray) (w : World) (h : MB b R bs w) (hlen : bs.length + s.size ≤ 140737488355328) :
    Calls Tryd.prog 20 #[.pointer (some ⟨b, 0, none⟩), .string s] w fun e w' => e = .returned (.tuple #[.int .i64 s.size, .nilIface]) ∧ MB b R (bs ++ Lib.strCells s) w' ∧ MF b R w w' := by
  obtain ⟨i0, hi, hzz⟩ := Option.map_eq_some_iff.1 (show (Tryd.prog.info? 5).map (fun i => (i.zero, i.size, i.bytes)) = some (some (.int .u8 0), 1, 1) by kernel_rfl)
  simp only [Prod.mk.injEq] at hzz
  obtain ⟨hz0, hz1, hz2⟩ := hzz
  have hR := h.1
  go_enter Tryd.func20, Tryd.ntmps20
  go_wp2_with (go_at_call 27; refine (copyCheck_m b R bs _ h).mono ?_)
  rintro e w1 ⟨rfl, hR1, hF1, v, hbk, hown⟩
  have c0 : w1.cell? ⟨b, 0, none⟩ = some (.pointer (some ⟨b, 0, none⟩)) := blk_cell hbk 0
  have c1 : w1.cell? ⟨b, 1, none⟩ = some v := blk_cell hbk 1
  go_wp2_with (at_builtin; refine Lib.wpList_append_own_string _ rfl _ _ 25 9 rfl R 5 i0 Tryd.underlying25 Tryd.underlying9 hi hz0 hz1 hz2 _ _ _ rfl hown s rfl ?c3 ?c4 ?c5 ?_)
  case c3 => unfold maxLen; omega
  case c4 => omega
  case c5 => omega
  intro v' w2 hown' hgrow _
  have hlt : b < w1.heap.size := by omega
  have hb2 : w2.heap[b]? = some (.cells #[.pointer (some ⟨b, 0, none⟩), v] 57 (0, 0)) := by
    rw [hgrow.block b hlt (fun e => by have := (hown.lt b e.symm).1; omega)]
    exact hbk
  have d0 : w2.cell? ⟨b, 0, none⟩ = some (.pointer (some ⟨b, 0, none⟩)) := blk_cell hb2 0
  have d1 : w2.cell? ⟨b, 1, none⟩ = some v := blk_cell hb2 1
  have f1 : w2.frozen? ⟨b, 1, none⟩ = false := blk_frz hb2 1
  obtain ⟨ao, n', cap, rfl⟩ : ∃ ao n' cap, v' = .slice ao n' cap := by
    rcases hown'.2 with ⟨hv, _⟩ | ⟨g, cap, cur, hv, _⟩
    · exact ⟨_, _, _, hv⟩
    · exact ⟨_, _, _, hv⟩
  go_wp2
  go_ret2
  exact ⟨rfl, MB.put hR hR1 hF1 hbk (fun k hk => (hown.lt k hk).1) hgrow (by simp [Lib.strCells_length]) hown'⟩
end Go.Proofs.YtgbodhlofebajaaDoorX
end
section
set_option linter.unusedVariables false
namespace Go.Proofs.YtgbodhlofebajaaDoorX
open Go.RowKit Go.Shelf Go.Proofs.YtgbodhlofebajaaDoor.PXmlBase Go.Proofs.YtgbodhlofebajaaDoorW.PrintWords
/-- A byte as it is written. -/
def escB (attr : Bool) (c : Int) : List Int :=
  if c = 38 then [38, 97, 109, 112, 59] else if c = 60 then [38, 108, 116, 59] else if c = 62 then [38, 103, 116, 59] else if c = 13 then [38, 35, 120, 68, 59]
  else if attr = true ∧ c = 34 then [38, 113, 117, 111, 116, 59] else if attr = true ∧ c = 9 then [38, 35, 120, 57, 59] else if attr = true ∧ c = 10 then [38, 35, 120, 65, 59] else [c]
def escS (attr : Bool) (bs : List Int) : List Int := bs.flatMap (escB attr)
theorem escB_len (attr : Bool) (c : Int) : (escB attr c).length ≤ 6 := by
  unfold escB
  repeat' split
  all_goals simp
theorem escS_len (attr : Bool) (bs : List Int) : (escS attr bs).length ≤ 6 * bs.length := by
  unfold escS
  induction bs with
  | nil => simp
  | cons c t ih =>
    rw [List.flatMap_cons, List.length_append, List.length_cons]
    have := escB_len attr c
    omega
theorem escB_bytes (attr : Bool) {c : Int} (h : 0 ≤ c ∧ c < 256) : Bytes (escB attr c) := by
  unfold escB Bytes
  repeat' split
  all_goals
    intro x hx
    simp at hx
    omega
theorem escS_bytes (attr : Bool) {bs : List Int} (h : Bytes bs) : Bytes (escS attr bs) := by
  intro x hx
  obtain ⟨c, hc, hx⟩ := List.mem_flatMap.1 hx
  exact escB_bytes attr (h c hc) x hx
theorem escS_take (attr : Bool) (bs : List Int) (k : Nat) (hk : k < bs.length) : escS attr (bs.take (k + 1)) = escS attr (bs.take k) ++ escB attr bs[k] := by
  unfold escS
  rw [List.take_add_one, List.getElem?_eq_getElem hk, List.flatMap_append]
  congr 1
  simp
/-- Numbers as a text's cells. -/
theorem nums_str {l : List Int} (h : Bytes l) : nums .u8 l = Lib.byteCells (strOfNums l).data.toList := by
  unfold nums Lib.byteCells strOfNums
  simp only [List.map_map]
  refine List.map_congr_left fun x hx => ?_
  obtain ⟨h1, h2⟩ := h x hx
  simp only [Function.comp]
  congr 1
  rw [UInt8.toNat_ofNat']
  omega
theorem bytes_row (w : World) (s : ByteArray) : (convert 9 25 (.string s)).run Tryd.prog w = .ok (.slice (some ⟨w.heap.size, 0, none⟩) s.size (grownCap w s.size 0 5)) (w.drew.alloc (.cells (bytesRow s (grownCap w s.size 0 5)) 5 ((bytesRow s (grownCap w s.size 0 5)).size, (bytesRow s (grownCap w s.size 0 5)).size + 1))) := run_bytes_of_string w _ _ _ s Tryd.underlying9 Tryd.underlying25 Tryd.underlying5
theorem bytes_row_cell (w : World) (s : ByteArray) (cap : Nat) (fr : Nat × Nat) (j : Nat) (hj : j < s.size) : (w.alloc (.cells (bytesRow s cap) 5 fr)).cell? ⟨w.heap.size, j, none⟩ = some (.int .u8 ((bytesOf s).getD j 0)) := by
  have hn : (w.alloc (.cells (bytesRow s cap) 5 fr)).heap[w.heap.size]? = some (.cells (bytesRow s cap) 5 fr) := heap_alloc_new w _
  rw [cell_of_row _ _ j _ _ _ hn]
  have hj' : j < s.data.size := hj
  unfold bytesRow bytesOf
  rw [Array.getElem?_append_left (by simpa using hj')]
  simp
  rw [Array.getElem?_eq_getElem hj']
  exact ⟨_, rfl, rfl⟩
/-- Between two rounds of Escape. -/
structure EL (w wr : World) (s : ByteArray) (attr : Bool) (k : Nat) : Prop where
  mb : MB w.heap.size (w.heap.size + 2) (nums .u8 (escS attr ((bytesOf s).take k))) wr
  below : Below w.heap.size w wr
  row : ∀ j, j < s.size → wr.cell? ⟨w.heap.size + 1, j, none⟩ = some (.int .u8 ((bytesOf s).getD j 0))
theorem EL.step {w wr w5 : World} {s : ByteArray} {attr : Bool} {k : Nat} {c : Int} {l : List Int} (h : EL w wr s attr k) (hk : k < s.size) (hc : (bytesOf s).getD k 0 = c) (hl : escB attr c = l) (hm : MB w.heap.size (w.heap.size + 2) (nums .u8 (escS attr ((bytesOf s).take k)) ++ nums .u8 l) w5) (hf : MF w.heap.size (w.heap.size + 2) wr w5) : EL w w5 s attr (k + 1) := by
  have hk2 : k < (bytesOf s).length := by rw [bytesOf_length]; exact hk
  have hc2 : (bytesOf s)[k] = c := by
    rw [← hc, List.getD_eq_getElem?_getD, List.getElem?_eq_getElem hk2]
    rfl
  refine ⟨?_, ⟨hf.os.trans h.below.os, hf.tape.trans h.below.tape, hf.output.trans h.below.output, Nat.le_trans h.below.size hf.size, fun j hj => (hf.block j (by omega) (by omega)).trans (h.below.block j hj)⟩, fun j hj => (World.cell?_of_block (hf.block (w.heap.size + 1) (by omega) (by omega))).trans (h.row j hj)⟩
  rw [escS_take attr _ k hk2, hc2, hl, nums_append]
  exact hm
theorem EL.len {w wr : World} {s : ByteArray} {attr : Bool} {k : Nat} (_h : EL w wr s attr k) (hs : s.size ≤ 1000000) : (nums .u8 (escS attr ((bytesOf s).take k))).length ≤ 6000000 := by
  have h1 := escS_len attr ((bytesOf s).take k)
  have h2 : (nums .u8 (escS attr ((bytesOf s).take k))).length = (escS attr ((bytesOf s).take k)).length := by simp [nums]
  have h3 : ((bytesOf s).take k).length ≤ s.size := by
    rw [List.length_take, bytesOf_length]
    exact Nat.min_le_right _ _
  omega
theorem esc_elim {R : World → Prop} {w : World} {s : ByteArray} {attr : Bool} {cap : Nat} {fr : Nat × Nat} (h : ∀ W, EL w W s attr 0 → R W) : R (((w.alloc (.cells #[.pointer none, .slice none 0 0] 57)).alloc (.cells (bytesRow s cap) 5 fr)).drew) := by
  have hb := (Below.refl w.heap.size w).alloc (Nat.le_refl _) (.cells #[.pointer none, .slice none 0 0] 57)
  have hn := heap_alloc_new w (.cells #[.pointer none, .slice none 0 0] 57)
  have hs : (w.alloc (.cells #[.pointer none, .slice none 0 0] 57)).heap.size = w.heap.size + 1 := by simp
  generalize w.alloc (.cells #[.pointer none, .slice none 0 0] 57) = w1 at *
  have hs2 : (w1.alloc (.cells (bytesRow s cap) 5 fr)).heap.size = w1.heap.size + 1 := by simp
  have hb2 := (Below.refl w1.heap.size w1).alloc (Nat.le_refl _) (.cells (bytesRow s cap) 5 fr)
  refine h _ ⟨⟨by omega, ?_, _, _, .inl rfl, ?_, World.ownsRow_nil _ _ _ _⟩, ?_, fun j hj => ?_⟩
  · show _ ≤ (w1.alloc (.cells (bytesRow s cap) 5 fr)).heap.size
    omega
  · exact (hb2.block _ (by omega)).trans hn
  · exact (hb.trans (hb2.mono hb.size)).drew
  · have := bytes_row_cell w1 s cap fr j hj
    rw [hs] at this
    exact this
set_option maxRecDepth 100000 in
set_option maxHeartbeats 8000000 in
theorem escape_c (s : ByteArray) (attr : Bool) (w : World) (hs : s.size ≤ 1000000) :
    Calls Tryd.prog 11 #[.string s, .bool attr] w fun e W => e = .returned (.string (strOfNums (escS attr (bytesOf s)))) ∧ Below w.heap.size w W := by
  have hbs := bytes_of s
  have hbl : (bytesOf s).length = s.size := bytesOf_length s
  have hcv : ∀ w, (convert 9 25 (.string s)).run Tryd.prog w = .ok (.slice (some ⟨w.heap.size, 0, none⟩) s.size (grownCap w s.size 0 5)) (w.drew.alloc (.cells (bytesRow s (grownCap w s.size 0 5)) 5 ((bytesRow s (grownCap w s.size 0 5)).size, (bytesRow s (grownCap w s.size 0 5)).size + 1))) := fun w => bytes_row w s
  go_enter Tryd.func11, Tryd.ntmps11
  go_wp2
  refine esc_elim (R := fun W => Code.wp _ _ _ _ W) (s := s) (attr := attr) ?_
  intro w2 hE2
  go_loopw [11] (fun i wr => ∃ k : Nat, k ≤ s.size ∧ i = .int .i64 k ∧ EL w wr s attr k) (fun i _ => s.size - (intOf i).toNat)
  case atStart => exact ⟨0, Nat.zero_le _, rfl, hE2⟩
  case round =>
    rename World => wr
    obtain ⟨k, hk, rfl, hE⟩ := hrel
    clear hE2 hcv
    have hlen := hE.len hs
    by_cases hlt : k < s.size
    · have hck := hE.row k hlt
      have hst := fun c l (w5 : World) (hc : (bytesOf s).getD k 0 = c) (hl : escB attr c = l) => hE.step (w5 := w5) (c := c) (l := l) hlt hc hl
      have hmb := hE.mb
      generalize hcc : (bytesOf s).getD k 0 = c at *
      generalize nums .u8 (escS attr ((bytesOf s).take k)) = bs at *
      have hws := fun (x : ByteArray) (hx : x.size ≤ 10) => writeString_c w.heap.size (w.heap.size + 2) bs x wr hmb (by omega)
      have hwb := writeByte_c w.heap.size (w.heap.size + 2) bs c wr hmb (by omega)
      have hwp : ∀ l w5, escB attr c = l → MB w.heap.size (w.heap.size + 2) (bs ++ nums .u8 l) w5 → MF w.heap.size (w.heap.size + 2) wr w5 → EL w w5 s attr (k + 1) := fun l w5 hl hm hf => hst c l w5 rfl hl hm hf
      clear hst hE hmb hbs hlen
      cases attr with
      | false =>
        by_cases h38 : c = 38
        · subst h38
          go_wp2_with (go_at_call 20; go_loud (refine (hws _ (by decide)).mono ?_; rintro e w5 ⟨rfl, hm5, hf5⟩))
          exact ⟨⟨k + 1, by omega, by simp, hwp [38, 97, 109, 112, 59] w5 (by first | rfl | (unfold escB; simp [*])) hm5 hf5⟩, by simp [intOf]; omega⟩
        have q38 : (c == 38) = false := by rw [beq_eq_false_iff_ne]; exact h38
        by_cases h60 : c = 60
        · subst h60
          go_wp2_with (go_at_call 20; go_loud (refine (hws _ (by decide)).mono ?_; rintro e w5 ⟨rfl, hm5, hf5⟩))
          exact ⟨⟨k + 1, by omega, by simp, hwp [38, 108, 116, 59] w5 (by first | rfl | (unfold escB; simp [*])) hm5 hf5⟩, by simp [intOf]; omega⟩
        have q60 : (c == 60) = false := by rw [beq_eq_false_iff_ne]; exact h60
        by_cases h62 : c = 62
        · subst h62
          go_wp2_with (go_at_call 20; go_loud (refine (hws _ (by decide)).mono ?_; rintro e w5 ⟨rfl, hm5, hf5⟩))
          exact ⟨⟨k + 1, by omega, by simp, hwp [38, 103, 116, 59] w5 (by first | rfl | (unfold escB; simp [*])) hm5 hf5⟩, by simp [intOf]; omega⟩
        have q62 : (c == 62) = false := by rw [beq_eq_false_iff_ne]; exact h62
        by_cases h13 : c = 13
        · subst h13
          go_wp2_with (go_at_call 20; go_loud (refine (hws _ (by decide)).mono ?_; rintro e w5 ⟨rfl, hm5, hf5⟩))
          exact ⟨⟨k + 1, by omega, by simp, hwp [38, 35, 120, 68, 59] w5 (by first | rfl | (unfold escB; simp [*])) hm5 hf5⟩, by simp [intOf]; omega⟩
        have q13 : (c == 13) = false := by rw [beq_eq_false_iff_ne]; exact h13
        go_wp2_with (go_at_call 21; go_loud (refine hwb.mono ?_; rintro e w5 ⟨rfl, hm5, hf5⟩))
        exact ⟨⟨k + 1, by omega, by simp, hwp [c] w5 (by unfold escB; simp [*]) hm5 hf5⟩, by simp [intOf]; omega⟩
      | true =>
        by_cases h38 : c = 38
        · subst h38
          go_wp2_with (go_at_call 20; go_loud (refine (hws _ (by decide)).mono ?_; rintro e w5 ⟨rfl, hm5, hf5⟩))
          exact ⟨⟨k + 1, by omega, by simp, hwp [38, 97, 109, 112, 59] w5 (by first | rfl | (unfold escB; simp [*])) hm5 hf5⟩, by simp [intOf]; omega⟩
        have q38 : (c == 38) = false := by rw [beq_eq_false_iff_ne]; exact h38
        by_cases h60 : c = 60
        · subst h60
          go_wp2_with (go_at_call 20; go_loud (refine (hws _ (by decide)).mono ?_; rintro e w5 ⟨rfl, hm5, hf5⟩))
          exact ⟨⟨k + 1, by omega, by simp, hwp [38, 108, 116, 59] w5 (by first | rfl | (unfold escB; simp [*])) hm5 hf5⟩, by simp [intOf]; omega⟩
        have q60 : (c == 60) = false := by rw [beq_eq_false_iff_ne]; exact h60
        by_cases h62 : c = 62
        · subst h62
          go_wp2_with (go_at_call 20; go_loud (refine (hws _ (by decide)).mono ?_; rintro e w5 ⟨rfl, hm5, hf5⟩))
          exact ⟨⟨k + 1, by omega, by simp, hwp [38, 103, 116, 59] w5 (by first | rfl | (unfold escB; simp [*])) hm5 hf5⟩, by simp [intOf]; omega⟩
        have q62 : (c == 62) = false := by rw [beq_eq_false_iff_ne]; exact h62
        by_cases h13 : c = 13
        · subst h13
          go_wp2_with (go_at_call 20; go_loud (refine (hws _ (by decide)).mono ?_; rintro e w5 ⟨rfl, hm5, hf5⟩))
          exact ⟨⟨k + 1, by omega, by simp, hwp [38, 35, 120, 68, 59] w5 (by first | rfl | (unfold escB; simp [*])) hm5 hf5⟩, by simp [intOf]; omega⟩
        have q13 : (c == 13) = false := by rw [beq_eq_false_iff_ne]; exact h13
        by_cases h34 : c = 34
        · subst h34
          go_wp2_with (go_at_call 20; go_loud (refine (hws _ (by decide)).mono ?_; rintro e w5 ⟨rfl, hm5, hf5⟩))
          exact ⟨⟨k + 1, by omega, by simp, hwp [38, 113, 117, 111, 116, 59] w5 (by first | rfl | (unfold escB; simp [*])) hm5 hf5⟩, by simp [intOf]; omega⟩
        have q34 : (c == 34) = false := by rw [beq_eq_false_iff_ne]; exact h34
        by_cases h9 : c = 9
        · subst h9
          go_wp2_with (go_at_call 20; go_loud (refine (hws _ (by decide)).mono ?_; rintro e w5 ⟨rfl, hm5, hf5⟩))
          exact ⟨⟨k + 1, by omega, by simp, hwp [38, 35, 120, 57, 59] w5 (by first | rfl | (unfold escB; simp [*])) hm5 hf5⟩, by simp [intOf]; omega⟩
        have q9 : (c == 9) = false := by rw [beq_eq_false_iff_ne]; exact h9
        by_cases h10 : c = 10
        · subst h10
          go_wp2_with (go_at_call 20; go_loud (refine (hws _ (by decide)).mono ?_; rintro e w5 ⟨rfl, hm5, hf5⟩))
          exact ⟨⟨k + 1, by omega, by simp, hwp [38, 35, 120, 65, 59] w5 (by first | rfl | (unfold escB; simp [*])) hm5 hf5⟩, by simp [intOf]; omega⟩
        have q10 : (c == 10) = false := by rw [beq_eq_false_iff_ne]; exact h10
        go_wp2_with (go_at_call 21; go_loud (refine hwb.mono ?_; rintro e w5 ⟨rfl, hm5, hf5⟩))
        exact ⟨⟨k + 1, by omega, by simp, hwp [c] w5 (by unfold escB; simp [*]) hm5 hf5⟩, by simp [intOf]; omega⟩
    · obtain rfl : k = s.size := by omega
      have hmb := hE.mb
      have hbe := hE.below
      rw [← hbl, List.take_length] at hmb
      rw [nums_str (escS_bytes attr hbs)] at hmb
      clear hE hbs hlen
      go_wp2_with (go_at_call 22; go_loud (refine (Tryd.Builder_String_any w.heap.size w.heap.size _ wr hmb.is hbe.size).mono ?_; rintro e w5 ⟨rfl, hb5⟩))
      go_ret
      refine ⟨?_, hbe.trans hb5⟩
      show Ending.returned (.string ⟨((strOfNums (escS attr (bytesOf s))).data.toList).toArray⟩) = _
      simp
end Go.Proofs.YtgbodhlofebajaaDoorX
end
