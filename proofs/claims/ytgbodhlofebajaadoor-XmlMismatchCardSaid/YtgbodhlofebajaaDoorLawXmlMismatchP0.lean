/- What is proved: what this claim alone wants, part 0: a program of ours merged it out of our own texts, the print's words and the laid shelf. Conditions: those of each. -/
import Derived.Test.YtgbodhlofebajaaDoorMB16
set_option linter.unusedVariables false
set_option linter.unusedSimpArgs false
section
set_option linter.unusedVariables false
namespace Go.Proofs.YtgbodhlofebajaaDoorX
open Go.RowKit Go.Shelf Go.Proofs.YtgbodhlofebajaaDoor.PXmlBase Go.Proofs.YtgbodhlofebajaaDoorW.PrintWords
def nmS (x : Int) : List Int := [110, 97 + x % 26]
theorem nmS_small (x : Int) : Small (nmS x) ∧ nmS x ≠ [] ∧ (nmS x).length = 2 := by
  refine ⟨fun y hy => ?_, by simp [nmS], rfl⟩
  simp only [nmS, List.mem_cons, List.not_mem_nil, or_false] at hy
  omega
theorem nms_map {L : Lim} (hL : 2 ≤ L.token) (l : List Int) : Nms L (l.map nmS) := by
  intro x hx
  obtain ⟨y, _, rfl⟩ := List.mem_map.1 hx
  exact ⟨(nmS_small y).1, (nmS_small y).2.1, by rw [(nmS_small y).2.2]; exact hL⟩
theorem nmS_inj {x y : Int} : nmS x = nmS y ↔ x % 26 = y % 26 := by
  unfold nmS
  constructor
  · intro h
    simp at h
    omega
  · intro h
    rw [h]
def misO (l : List Int) : List Int := (l.map nmS).flatMap openB
def misC (l : List Int) : List Int := (l.reverse.map nmS).flatMap closeB
theorem misO_len (l : List Int) : (misO l).length = 4 * l.length := by
  unfold misO
  induction l with
  | nil => rfl
  | cons x r ih =>
    simp only [List.map_cons, List.flatMap_cons, List.length_append, List.length_cons, ih, openB, nmS, List.length_nil]
    omega
theorem closes_len (l : List Int) : ((l.map nmS).flatMap closeB).length = 5 * l.length := by
  induction l with
  | nil => rfl
  | cons x r ih =>
    simp only [List.map_cons, List.flatMap_cons, List.length_append, List.length_cons, ih, closeB, nmS, List.length_nil]
    omega
theorem misC_len (l : List Int) : (misC l).length = 5 * l.length := by
  have h := closes_len l.reverse
  rw [List.length_reverse] at h
  exact h
theorem misO_snoc (l : List Int) (x : Int) : misO (l ++ [x]) = misO l ++ [60] ++ nmS x ++ [62] := by
  unfold misO
  simp [openB]
theorem misC_cons (l : List Int) (x : Int) : misC (x :: l) = misC l ++ [60, 47] ++ nmS x ++ [62] := by
  unfold misC
  simp [closeB]
theorem mis_bytes (l : List Int) : Bytes (misO l) ∧ Bytes (misC l) := by
  have h : ∀ x : Int, ∀ y ∈ nmS x, 0 ≤ y ∧ y < 256 := fun x y hy => by
    have := (nmS_small x).1 y hy
    omega
  refine ⟨fun x hx => ?_, fun x hx => ?_⟩
  · obtain ⟨y, hy, hx⟩ := List.mem_flatMap.1 hx
    obtain ⟨z, _, rfl⟩ := List.mem_map.1 hy
    simp only [openB, List.mem_cons, List.mem_append, List.not_mem_nil, or_false] at hx
    rcases hx with rfl | hx | rfl
    · omega
    · exact h z x hx
    · omega
  · obtain ⟨y, hy, hx⟩ := List.mem_flatMap.1 hx
    obtain ⟨z, _, rfl⟩ := List.mem_map.1 hy
    simp only [closeB, List.mem_cons, List.mem_append, List.not_mem_nil, or_false] at hx
    rcases hx with rfl | rfl | hx | rfl
    · omega
    · omega
    · exact h z x hx
    · omega
def misD (l : List Int) (A : Nat) (z : Int) : List Int := misO l ++ misC (l.set A z)
theorem misD_len (l : List Int) (A : Nat) (z : Int) : (misD l A z).length = 9 * l.length := by
  unfold misD
  rw [List.length_append, misO_len, misC_len, List.length_set]
  omega
theorem mis_same {L : Lim} {l : List Int} {A : Nat} {z : Int} (h0 : l ≠ []) (hl : l.length ≤ 40) (hA : (l.set A z).map nmS = l.map nmS) (h1 : 40 ≤ L.depth) (h2 : 40 ≤ L.nodes) (h3 : 2 ≤ L.token) :
    (allE (misD l A z) L).2.ferr = 0 := by
  have hlo := misO_len l
  have hll := misD_len l A z
  have hne : l.map nmS ≠ [] := by simpa using h0
  have hC : misC (l.set A z) = (l.map nmS).reverse.flatMap closeB := by
    unfold misC
    rw [List.map_reverse, hA]
  obtain ⟨s1, c1, e1⟩ := run_begin (bs := misD l A z) (L := L) (ns := l.map nmS) (t := misC (l.set A z)) (k := l.length + 1 + (1 + 20 * (9 * l.length) + 1 - (l.length + l.length + 1))) hne (nms_map h3 l) (by rw [hll]; omega) rfl (by simp; omega) (by simp; omega)
  have hdr : (misD l A z).drop ((l.map nmS).flatMap openB).length = (l.map nmS).reverse.flatMap closeB := by
    rw [← hC]
    show (misO l ++ misC (l.set A z)).drop (misO l).length = _
    simp
  obtain ⟨u, e2, f1, f2⟩ := run_done (L := L) (k := 1 + 20 * (9 * l.length) + 1 - (l.length + l.length + 1)) (cs := (l.map nmS).reverse) (by rw [List.reverse_reverse]; exact c1) (by simpa using h0) (fun n hn => nms_map h3 l n (List.mem_reverse.1 hn)) hdr
  rw [List.length_map] at e1
  rw [List.length_reverse, List.length_map] at e2
  have hpos : 0 < l.length := List.length_pos_iff.2 h0
  have hm : muS (misD l A z).length st0 + 1 = l.length + (l.length + 1 + (1 + 20 * (9 * l.length) + 1 - (l.length + l.length + 1))) := by
    rw [hll]
    show 1 + 20 * (9 * l.length - 0) + 0 + 1 = _
    omega
  unfold allE
  rw [hm, e1, e2]
  exact f2
theorem mis_diff {L : Lim} {l : List Int} {A : Nat} {z : Int} (hl : l.length ≤ 40) (hlt : A < l.length) (hA : nmS z ≠ nmS l[A]) (h1 : 40 ≤ L.depth) (h2 : 40 ≤ L.nodes) (h3 : 2 ≤ L.token) :
    (allE (misD l A z) L).2.ferr = 2 ∧ (allE (misD l A z) L).2.fat = ((4 * l.length + 5 * (l.length - 1 - A) : Nat) : Int) := by
  have hlo := misO_len l
  have hll := misD_len l A z
  have hne : l.map nmS ≠ [] := by
    intro e
    have e2 : l = [] := by simpa using e
    subst e2
    exact absurd hlt (by simp)
  have hsp : l = l.take A ++ [l[A]] ++ l.drop (A + 1) := by
    rw [List.append_assoc, List.singleton_append, ← List.drop_eq_getElem_cons hlt, List.take_append_drop]
  have hset : l.set A z = l.take A ++ [z] ++ l.drop (A + 1) := by
    rw [List.set_eq_take_append_cons_drop, if_pos hlt]
    simp
  have hC : misC (l.set A z) = ((l.drop (A + 1)).map nmS).reverse.flatMap closeB ++ (closeB (nmS z) ++ misC (l.take A)) := by
    unfold misC
    rw [hset]
    simp [List.map_reverse]
  obtain ⟨s1, c1, e1⟩ := run_begin (bs := misD l A z) (L := L) (ns := l.map nmS) (t := misC (l.set A z)) (k := (l.length - 1 - A) + 1 + (1 + 20 * (9 * l.length) + 1 - (l.length + (l.length - 1 - A) + 1))) hne (nms_map h3 l) (by rw [hll]; omega) rfl (by simp; omega) (by simp; omega)
  have hdr : (misD l A z).drop ((l.map nmS).flatMap openB).length = ((l.drop (A + 1)).map nmS).reverse.flatMap closeB ++ (closeB (nmS z) ++ misC (l.take A)) := by
    rw [← hC]
    show (misO l ++ misC (l.set A z)).drop (misO l).length = _
    simp
  have hctx : Ctx s1 ((l.map nmS).flatMap openB).length ((l.take A).map nmS ++ [nmS l[A]] ++ (((l.drop (A + 1)).map nmS).reverse).reverse) := by
    rw [List.reverse_reverse, ← List.map_singleton, ← List.map_append, ← List.map_append, ← hsp]
    exact c1
  obtain ⟨u, e2, f1, f2⟩ := run_bad (L := L) (k := 1 + 20 * (9 * l.length) + 1 - (l.length + (l.length - 1 - A) + 1)) (good := ((l.drop (A + 1)).map nmS).reverse) hctx (fun n hn => nms_map h3 _ n (List.mem_reverse.1 hn)) ⟨(nmS_small z).1, (nmS_small z).2.1, by rw [(nmS_small z).2.2]; exact h3⟩ hA hdr
  have hgl : ((l.drop (A + 1)).map nmS).reverse.length = l.length - 1 - A := by simp; omega
  have hcl : (((l.drop (A + 1)).map nmS).reverse.flatMap closeB).length = 5 * (l.length - 1 - A) := by
    have := misC_len (l.drop (A + 1))
    unfold misC at this
    rw [List.map_reverse] at this
    rw [this, List.length_drop]
    omega
  rw [List.length_map] at e1
  rw [hgl] at e2
  rw [hcl] at f1
  have hlo2 : ((l.map nmS).flatMap openB).length = 4 * l.length := hlo
  rw [hlo2] at f1
  have hm : muS (misD l A z).length st0 + 1 = l.length + ((l.length - 1 - A) + 1 + (1 + 20 * (9 * l.length) + 1 - (l.length + (l.length - 1 - A) + 1))) := by
    rw [hll]
    show 1 + 20 * (9 * l.length - 0) + 0 + 1 = _
    omega
  unfold allE
  rw [hm, e1, e2]
  exact ⟨f2, f1⟩
end Go.Proofs.YtgbodhlofebajaaDoorX
end
section
set_option linter.unusedVariables false
namespace Go.Proofs.YtgbodhlofebajaaDoorX
open Go.RowKit Go.Shelf Go.Proofs.YtgbodhlofebajaaDoor.PXmlBase Go.Proofs.YtgbodhlofebajaaDoorW.PrintWords
set_option maxRecDepth 100000 in
set_option maxHeartbeats 4000000 in
theorem letter_c {w : World} {x : Int} (hx : 0 ≤ x ∧ x < 256) : Calls Tryd.prog 17 #[.int .u8 x] w fun e W => e = .returned (.string (strOfNums (nmS x))) ∧ Below w.heap.size w W := by
  have hm : 0 ≤ x % 26 ∧ x % 26 < 26 := by omega
  have ht : Int.tmod x 26 = x % 26 := Int.tmod_eq_emod_of_nonneg hx.1
  have hcs : ∀ w : World, (convert 25 9 (.slice (some ⟨w.heap.size, 0, none⟩) 1 1)).run Tryd.prog (w.alloc (.cells #[.int .u8 (97 + x % 26)] 5)) = .ok (.string (strOfNums [97 + x % 26])) (w.alloc (.cells #[.int .u8 (97 + x % 26)] 5)) := fun w => by
    refine string_of_reads Tryd.underlying25 Tryd.underlying5 Tryd.underlying9 ⟨rfl, by omega, fun _ => ⟨_, rfl, fun j hj => ?_⟩⟩
    obtain rfl : j = 0 := by omega
    exact lit_cells w [97 + x % 26] 5 (0, 0) 0 _ rfl
  have hs1 : (strOfNums [97 + x % 26]).size = 1 := str_size _
  have hb := (Below.refl w.heap.size w).alloc (Nat.le_refl _) (.cells #[.int .u8 (97 + x % 26)] 5)
  go_enter Tryd.func17, Tryd.ntmps17
  go_wp2
  go_ret
  refine ⟨?_, hb⟩
  rw [show (⟨#[110]⟩ : ByteArray) = strOfNums [110] from rfl, str_append]
  rfl
theorem mis_bytes_set {l : List Int} {A : Nat} {z : Int} : Bytes (misD l A z) := (mis_bytes l).1.append (mis_bytes (l.set A z)).2
theorem mis_read {w W : World} {e : Ending} {l : List Int} {A : Nat} {z : Int} (hl : l.length ≤ 40) (hA : A < l.length) (h : AllR w (allE (misD l A z) (limOf 0 0 0 0)) e W) :
    (l[A] % 26 = z % 26 → ∃ ov fa, e = .returned (.tuple #[ov, .int .i64 fa, .int .i64 0]) ∧ Below w.heap.size w W) ∧
    (¬ l[A] % 26 = z % 26 → ∃ ov, e = .returned (.tuple #[ov, .int .i64 ((4 * l.length + 5 * (l.length - 1 - A) : Nat) : Int), .int .i64 2]) ∧ Below w.heap.size w W) := by
  have h1 : 40 ≤ (limOf 0 0 0 0).depth := by decide
  have h2 : 40 ≤ (limOf 0 0 0 0).nodes := by decide
  have h3 : 2 ≤ (limOf 0 0 0 0).token := by decide
  obtain ⟨ov, cs, he, hb, _, _⟩ := h
  refine ⟨fun hs => ⟨ov, (allE (misD l A z) (limOf 0 0 0 0)).2.fat, ?_, hb⟩, fun hs => ⟨ov, ?_, hb⟩⟩
  · have hm : (l.set A z).map nmS = l.map nmS := by
      rw [List.map_set, ← nmS_inj.2 hs]
      apply List.ext_getElem?
      intro i
      by_cases hi : i = A
      · subst hi
        simp [hA]
      · rw [List.getElem?_set_ne (Ne.symm hi)]
    have := mis_same (L := limOf 0 0 0 0) (fun e => by subst e; simp at hA) hl hm h1 h2 h3
    rw [he, this]
  · obtain ⟨e1, e2⟩ := mis_diff (L := limOf 0 0 0 0) (z := z) hl hA (fun e => hs (nmS_inj.1 e).symm) h1 h2 h3
    rw [he, e1, e2]
set_option maxRecDepth 100000 in
set_option maxHeartbeats 4000000 in
theorem mis_c {w : World} (hE : EnvW w) {ad : Option Addr} {c n : Nat} {bs : List Int} (hb : Bytes bs) (hn : bs.length = n) (hrow : ∀ a, ad = some a → ∀ j x, bs[j]? = some x → w.cell? (a.add j) = some (.int .u8 x)) (hnil : ad = none → bs = []) (i z : Int) (hz : 0 ≤ z ∧ z < 256) :
    Calls Tryd.prog 8 #[.slice ad n c, .int .i64 i, .int .u8 z] w fun e W => e = .returned (.bool true) ∧ Below w.heap.size w W := by
  have hkn := known_c hE
  subst hn
  go_enter Tryd.func8, Tryd.ntmps8
  by_cases h0 : bs.length = 0
  · go_wp2_with (go_at_call 9; go_loud (refine hkn.mono ?_; clear hkn; rintro e w1 ⟨rfl, hb1⟩))
    go_ret
    exact ⟨rfl, hb1⟩
  by_cases h40 : 40 < bs.length
  · go_wp2_with (go_at_call 9; go_loud (refine hkn.mono ?_; clear hkn; rintro e w1 ⟨rfl, hb1⟩))
    go_ret
    exact ⟨rfl, hb1⟩
  by_cases hi0 : i < 0
  · go_wp2_with (go_at_call 9; go_loud (refine hkn.mono ?_; clear hkn; rintro e w1 ⟨rfl, hb1⟩))
    go_ret
    exact ⟨rfl, hb1⟩
  by_cases hi1 : i ≥ bs.length
  · go_wp2_with (go_at_call 9; go_loud (refine hkn.mono ?_; clear hkn; rintro e w1 ⟨rfl, hb1⟩))
    go_ret
    exact ⟨rfl, hb1⟩
  obtain ⟨A, rfl⟩ : ∃ A : Nat, i = A := ⟨i.toNat, by omega⟩
  obtain ⟨a, rfl⟩ : ∃ a, ad = some a := by
    cases ad with
    | none => exact absurd (by rw [hnil rfl]; rfl) h0
    | some a => exact ⟨a, rfl⟩
  go_wp2_with (go_at_call 9; go_loud (refine hkn.mono ?_; clear hkn; rintro e w1 ⟨rfl, hb1⟩))
  · rename_i hh
    exfalso
    simp only [beq_iff_eq] at hh
    omega
  have e0 : ((bs.length : Int) == 0) = false := by rw [beq_eq_false_iff_ne]; omega
  have e1 : decide (40 < (bs.length : Int)) = false := decide_eq_false (by omega)
  have e2 : decide ((A : Int) < 0) = false := decide_eq_false (by omega)
  have e3 : decide (bs.length ≤ A) = false := decide_eq_false (by omega)
  simp only [e0, e1, e2, e3, Bool.or_false]
  clear e0 e1 e2 e3
  have hcell : ∀ w', Below w.heap.size w w' → ∀ j x, bs[j]? = some x → w'.cell? (a.add j) = some (.int .u8 x) := fun w' hb' j x hx => by
    exact (World.cell?_of_block (hb'.block _ (lt_of_cell (hrow a rfl j x hx)))).trans (hrow a rfl j x hx)
  clear hrow hnil
  go_loopw [7, 8] (fun d i wr => ∃ k : Nat, k ≤ bs.length ∧ i = .int .i64 k ∧ d = .string (strOfNums (misO (bs.take k))) ∧ Below w.heap.size w wr) (fun _ i _ => bs.length - (intOf i).toNat)
  case atStart => exact ⟨0, Nat.zero_le _, rfl, rfl, hb1⟩
  case round =>
    rename World => wx
    obtain ⟨k, hk, rfl, rfl, hbx⟩ := hrel
    have hsz : (strOfNums (misO (bs.take k))).size = 4 * k := by rw [str_size, misO_len, List.length_take, Nat.min_eq_left hk]
    by_cases hlt : k < bs.length
    · have hx := hb bs[k] (List.getElem_mem hlt)
      have hck := hcell wx hbx k _ (List.getElem?_eq_getElem hlt)
      have hlc := fun w => letter_c (w := w) hx
      have hs2 : (strOfNums (nmS bs[k])).size = 2 := str_size _
      go_wp2_with (go_at_call 17; go_loud (refine (hlc _).mono ?_; clear hlc; rintro e w3 ⟨rfl, hb3⟩))
      refine ⟨⟨k + 1, by omega, by simp, ?_, hbx.trans (hb3.mono hbx.size)⟩, by simp [intOf]; omega⟩
      rw [← List.take_append_getElem hlt, misO_snoc, ← str_append, ← str_append, ← str_append]
      rfl
    · obtain rfl : k = bs.length := by omega
      rw [List.take_length] at *
      go_wp2
      go_loopw [7, 9, 10, 11] (fun d wv i nv wr => ∃ (j : Nat) (wn : Nat), j ≤ bs.length ∧ i = .int .i64 ((bs.length : Int) - 1 - j) ∧ d = .string (strOfNums (misO bs ++ misC ((bs.set A z).drop (bs.length - j)))) ∧ wv = .int .i64 wn ∧ (bs.length - j ≤ A → wn = 4 * bs.length + 5 * (bs.length - 1 - A)) ∧ Below w.heap.size w wr) (fun _ _ i _ _ => ((intOf i) + 1).toNat)
      case atStart =>
        refine ⟨0, 0, Nat.zero_le _, by simp, ?_, rfl, fun h => by omega, hbx⟩
        rw [Nat.sub_zero, List.drop_eq_nil_of_le (by rw [List.length_set]; omega), show misC [] = [] from rfl, List.append_nil]
      case round =>
        rename World => wy
        obtain ⟨j, wn, hj, rfl, rfl, rfl, hwn, hby⟩ := hrel
        have hdl : ((bs.set A z).drop (bs.length - j)).length = j := by simp; omega
        have hsz2 : (strOfNums (misO bs ++ misC ((bs.set A z).drop (bs.length - j)))).size = 4 * bs.length + 5 * j := by rw [str_size, List.length_append, misO_len, misC_len, hdl]
        clear hdl
        by_cases hlt2 : j < bs.length
        · obtain ⟨k, hk1, hk2⟩ : ∃ k : Nat, bs.length ≤ k + 1 + j ∧ k + 1 + j ≤ bs.length := ⟨bs.length - 1 - j, by omega, by omega⟩
          rw [show ((bs.length : Int) - 1 - j) = k from by omega]
          have hkl : k < bs.length := by omega
          have hx := hb bs[k] (List.getElem_mem hkl)
          have hck := hcell wy hby k _ (List.getElem?_eq_getElem hkl)
          have hlc := fun w => letter_c (w := w) hx
          have hlz := fun w => letter_c (w := w) hz
          have hs2 : (strOfNums (nmS bs[k])).size = 2 := str_size _
          have hs3 : (strOfNums (nmS z)).size = 2 := str_size _
          rw [show bs.length - j = k + 1 from by omega] at hsz2 hwn ⊢
          by_cases hkA : k = A
          · subst hkA
            have t1 := True.intro
            go_wp2_with (first
              | (have _t := t1
                 go_at_call 17
                 go_loud (clear _t t1; refine (hlc _).mono ?_; clear hlc; rintro e w3 ⟨rfl, hb3⟩))
              | (go_at_call 17; go_loud (refine (hlz _).mono ?_; clear hlz; rintro e w4 ⟨rfl, hb4⟩)))
            have hkd : k < (bs.set k z).length := by rw [List.length_set]; exact hkl
            have hel : (bs.set k z)[k] = z := by simp
            refine ⟨⟨j + 1, 4 * bs.length + 5 * j, by omega, by simp; omega, ?_, ?_, fun _ => by omega, (hby.trans (hb3.mono hby.size)).trans (hb4.mono (hby.trans (hb3.mono hby.size)).size)⟩, by simp [intOf]⟩
            · rw [show bs.length - (j + 1) = k from by omega, List.drop_eq_getElem_cons hkd, hel, misC_cons, ← List.append_assoc, ← List.append_assoc, ← List.append_assoc, ← str_append _ [62], ← str_append _ (nmS z), ← str_append _ [60, 47]]
              rfl
            · push_cast
              rfl
          · go_wp2_with (go_at_call 17; go_loud (refine (hlc _).mono ?_; clear hlc; rintro e w3 ⟨rfl, hb3⟩))
            have hkd : k < (bs.set A z).length := by rw [List.length_set]; exact hkl
            have hel : (bs.set A z)[k] = bs[k] := by rw [List.getElem_set_ne (Ne.symm hkA)]
            refine ⟨⟨j + 1, wn, by omega, by simp; omega, ?_, rfl, fun h => hwn (by omega), hby.trans (hb3.mono hby.size)⟩, by simp [intOf]⟩
            rw [show bs.length - (j + 1) = k from by omega, List.drop_eq_getElem_cons hkd, hel, misC_cons, ← List.append_assoc, ← List.append_assoc, ← List.append_assoc, ← str_append _ [62], ← str_append _ (nmS bs[k]), ← str_append _ [60, 47]]
            rfl
        · obtain rfl : j = bs.length := by omega
          rw [Nat.sub_self] at hwn
          rw [Nat.sub_self, List.drop_zero, show misO bs ++ misC (bs.set A z) = misD bs A z from rfl] at hsz2 ⊢
          have hAl : A < bs.length := by omega
          have hwn2 := hwn (Nat.zero_le _)
          subst hwn2
          have hcA := hcell _ hby A _ (List.getElem?_eq_getElem hAl)
          have hxA := hb bs[A] (List.getElem_mem hAl)
          have hdb : Bytes (misD bs A z) := mis_bytes_set
          have hdl := misD_len bs A z
          have hcv : ∀ (W : World), (convert 9 25 (.string (strOfNums (misD bs A z)))).run Tryd.prog W = .ok (.slice (some ⟨W.heap.size, 0, none⟩) (strOfNums (misD bs A z)).size (grownCap W (strOfNums (misD bs A z)).size 0 5)) (W.drew.alloc (.cells (bytesRow (strOfNums (misD bs A z)) (grownCap W (strOfNums (misD bs A z)).size 0 5)) 5 ((bytesRow (strOfNums (misD bs A z)) (grownCap W (strOfNums (misD bs A z)).size 0 5)).size, (bytesRow (strOfNums (misD bs A z)) (grownCap W (strOfNums (misD bs A z)).size 0 5)).size + 1))) := fun W => bytes_row W _
          have hal := fun cap fr => all_str (w := wy) hsz2 hdb (hE.below hby) (by rw [hdl]; omega) cap fr 0 0 0 0 0 0
          have hrd := fun w' W e => mis_read (w := w') (W := W) (e := e) (l := bs) (A := A) (z := z) (by omega) hAl
          have hby2 := fun cap fr => ((Below.refl wy.heap.size wy).alloc (Nat.le_refl _) (.cells (bytesRow (strOfNums (misD bs A z)) cap) 5 fr)).drew
          clear hdl hdb
          have ht1 : Int.tmod bs[A] 26 = bs[A] % 26 := Int.tmod_eq_emod_of_nonneg hxA.1
          have ht2 : Int.tmod z 26 = z % 26 := Int.tmod_eq_emod_of_nonneg hz.1
          by_cases hsame : bs[A] % 26 = z % 26
          · go_wp2_with (go_at_call 13; go_loud (refine (hal _ _).mono ?_; clear hal hcv; intro e w2 hR2; obtain ⟨ov, fa, rfl, hb2⟩ := (hrd _ _ _ hR2).1 hsame; clear hrd; have hbw := hby.trans (((hby2 _ _).trans (hb2.mono (hby2 _ _).size)).mono hby.size); have hcA2 := hcell _ hbw A _ (List.getElem?_eq_getElem hAl); clear hR2 hb2 hby2 hcell))
            go_ret
            exact ⟨rfl, hbw⟩
          · generalize (4 * bs.length + 5 * (bs.length - 1 - A)) = wn at *
            go_wp2_with (go_at_call 13; go_loud (refine (hal _ _).mono ?_; clear hal hcv; intro e w2 hR2; obtain ⟨ov, rfl, hb2⟩ := (hrd _ _ _ hR2).2 hsame; clear hrd; have hbw := hby.trans (((hby2 _ _).trans (hb2.mono (hby2 _ _).size)).mono hby.size); have hcA2 := hcell _ hbw A _ (List.getElem?_eq_getElem hAl); clear hR2 hb2 hby2 hcell))
            go_ret
            exact ⟨rfl, hbw⟩
end Go.Proofs.YtgbodhlofebajaaDoorX
end
