/- What is proved: the law NsSame answers true. Conditions: none. -/
import Derived.Test.YtdelafoijplleaaNsSameLaw
import Derived.Laws.BytesArg
set_option linter.unusedVariables false
namespace Go.Proofs.YtdelafoijplleaaN
open Go.RowKit Go.Shelf Go.Proofs.YtdelafoijplleaaW.PrintWords
theorem conv1 (w : World) (x : Int) : (convert 23 9 (.slice (some ⟨w.heap.size, 0, none⟩) 1 1)).run Try.prog (w.alloc (.cells #[.int .u8 x] 5)) = .ok (.string (strOfNums [x])) (w.alloc (.cells #[.int .u8 x] 5)) :=
  run_convert_bytes_arg _ 23 5 Try.underlying23 Try.underlying5 _ 0 1 1 [x] rfl (fun i hi => by
    obtain rfl : i = 0 := by omega
    exact new_cell w _ _ 0 rfl) 9 Try.underlying9
theorem conv2 (w : World) (y x : Int) : (convert 23 9 (.slice (some ⟨w.heap.size + 1, 0, none⟩) 1 1)).run Try.prog ((w.alloc (.cells #[.int .u8 y] 5)).alloc (.cells #[.int .u8 x] 5)) = .ok (.string (strOfNums [x])) ((w.alloc (.cells #[.int .u8 y] 5)).alloc (.cells #[.int .u8 x] 5)) := by
  have h := conv1 (w.alloc (.cells #[.int .u8 y] 5)) x
  rw [World.size_alloc] at h
  exact h
theorem conv3 (w : World) (z y x : Int) : (convert 23 9 (.slice (some ⟨w.heap.size + 1 + 1, 0, none⟩) 1 1)).run Try.prog (((w.alloc (.cells #[.int .u8 z] 5)).alloc (.cells #[.int .u8 y] 5)).alloc (.cells #[.int .u8 x] 5)) = .ok (.string (strOfNums [x])) (((w.alloc (.cells #[.int .u8 z] 5)).alloc (.cells #[.int .u8 y] 5)).alloc (.cells #[.int .u8 x] 5)) := by
  have h := conv2 (w.alloc (.cells #[.int .u8 z] 5)) y x
  rw [World.size_alloc] at h
  exact h
theorem new_c' (w : World) : Calls Try.prog 7 #[] w fun e W' => ∃ p, w.heap.size = p ∧ e = .returned (.pointer (some ⟨p, 0, none⟩)) ∧ Sc W' p (.slice none 0 0) [] ∧ Below w.heap.size w W' := by
  refine (new_c w).mono ?_
  rintro e W' ⟨rfl, rfl⟩
  exact ⟨_, rfl, rfl, Sc_new _ _, (Below.refl _ w).alloc (Nat.le_refl _) _⟩
theorem XAttrs_row {w : World} {base : Nat} {v : Value} {xs : List XA} (h : w.ownsRow base 27 3 v xs.length (flatX xs)) : XAttrs w v xs := by
  have h1 := h
  rcases h.2 with ⟨rfl, h0⟩ | ⟨g, cap, cur, rfl, _⟩
  · rw [List.length_eq_zero_iff] at h0
    subst h0
    exact ⟨none, 0, rfl, fun i hi => absurd hi (Nat.not_lt_zero _)⟩
  · refine ⟨_, cap, rfl, fun i hi => ⟨_, rfl, ?_⟩⟩
    obtain ⟨a, b, c⟩ := flatX_get xs i hi
    simp only [plain_add, Nat.zero_add]
    have e : ∀ j, (⟨g, 0, none⟩ : Addr).add j = ⟨g, j, none⟩ := fun j => by rw [plain_add, Nat.zero_add]
    exact ⟨(e _) ▸ h1.cells (g := g) rfl _ _ a, (e _) ▸ h1.cells (g := g) rfl _ _ b, (e _) ▸ h1.cells (g := g) rfl _ _ c⟩
theorem infoX : (Try.prog.info? 27).map (fun i => (i.zero, i.size, i.bytes)) = some (some (.agg #[.string ⟨#[]⟩, .string ⟨#[]⟩, .int .i64 0]), 3, 40) := by kernel_rfl
def xA (P Q sp : ByteArray) : List XA := [(⟨#[120, 109, 108, 110, 115, 58]⟩ ++ P, sp, 0), (⟨#[120, 109, 108, 110, 115, 58]⟩ ++ Q, sp, 5), (⟨#[120, 109, 108, 110, 115]⟩, sp, 9)]
def xB (P : ByteArray) : List XA := [(P ++ ⟨#[58, 120]⟩, ⟨#[49]⟩, 11), (⟨#[120]⟩, ⟨#[50]⟩, 12)]
def xC (P Q : ByteArray) : List XA := [(P ++ ⟨#[58, 120]⟩, ⟨#[49]⟩, 11), (Q ++ ⟨#[58, 120]⟩, ⟨#[50]⟩, 12)]
theorem bsz (a : Array UInt8) : (⟨a⟩ : ByteArray).size = a.size := rfl
theorem okSp_of {sp : ByteArray} (h : (((sp.size : Int) ≤ 300 ∧ sp.toList.isEmpty = false) ∧ (sp.toList == [104, 116, 116, 112, 58, 47, 47, 119, 119, 119, 46, 119, 51, 46, 111, 114, 103, 47, 88, 77, 76, 47, 49, 57, 57, 56, 47, 110, 97, 109, 101, 115, 112, 97, 99, 101]) = false) ∧
    (sp.toList == [104, 116, 116, 112, 58, 47, 47, 119, 119, 119, 46, 119, 51, 46, 111, 114, 103, 47, 50, 48, 48, 48, 47, 120, 109, 108, 110, 115, 47]) = false) : OkSp sp := by
  obtain ⟨⟨⟨_, h1⟩, h2⟩, h3⟩ := h
  rw [ByteArray.toList_eq] at h1 h2 h3
  exact ⟨beq_eq_false_iff_ne.1 h2, beq_eq_false_iff_ne.1 h3, List.isEmpty_eq_false_iff.1 h1⟩
theorem Fr.cell {w w' : World} {p : Nat} {sv : Value} (h : Fr w w' p sv) {a : Addr} {v : Value} (hc : w.cell? a = some v) (hp : a.block ≠ p) (hs : sv.ownBlock ≠ some a.block) : w'.cell? a = some v :=
  (World.cell?_of_block (h.block a.block (lt_of_cell hc) hp hs)).trans hc
theorem Sc.own_lt {w : World} {p : Nat} {sv : Value} {L : List Binds} (h : Sc w p sv L) {k : Nat} (hk : sv.ownBlock = some k) : k < w.heap.size := by
  obtain ⟨els, h1, _⟩ := h.rows
  exact (h1.lt k hk).2
theorem XAttrs_nil (w : World) : XAttrs w (.slice none 0 0) [] := ⟨none, 0, rfl, fun i hi => absurd hi (Nat.not_lt_zero _)⟩
/-- The block of a scope's slice behind a call, and one that is neither the elder's nor new. -/
theorem own_ne {sv sv' : Value} {n k : Nat} (h : sv'.ownBlock = sv.ownBlock ∨ ∃ j, sv'.ownBlock = some j ∧ n ≤ j) (hk : k < n) (hne : sv.ownBlock ≠ some k) : sv'.ownBlock ≠ some k := by
  rcases h with e | ⟨j, e, hj⟩
  · rw [e]; exact hne
  · rw [e]; intro e2; cases e2; omega
set_option maxRecDepth 100000 in
set_option maxHeartbeats 4000000 in
theorem same_walk (a b c : Int) (sp P Q LL : ByteArray) (w : World) (ha : 0 ≤ a ∧ a ≤ 255) (hb : 0 ≤ b ∧ b ≤ 255) (hc : 0 ≤ c ∧ c ≤ 255)
    (hp : ⟨#[112]⟩ ++ strOfNums [97 + a % 26] = P) (hq : ⟨#[113]⟩ ++ strOfNums [97 + b % 26] = Q) (hl : ⟨#[108]⟩ ++ strOfNums [97 + c % 26] = LL) (zp : P.size = 2) (zq : Q.size = 2) (zl : LL.size = 2)
    (L0 L1 : List Binds) (n0 : L0.length = 1) (n1 : L1.length = 2)
    (hO : OkSp sp → openS [] (P ++ ⟨#[58]⟩ ++ LL) 0 (xA P Q sp ++ xB P) = (.ok ((sp, LL), [((sp, ⟨#[120]⟩), ⟨#[49]⟩, 11), ((⟨#[]⟩, ⟨#[120]⟩), ⟨#[50]⟩, 12)]), L0))
    (hO2 : openS L0 LL 0 [] = (.ok ((sp, LL), []), L1))
    (hO3 : openS L1 LL 0 (xC P Q) = (.error (12, 5), L1))
    (hR : resolveS L1 (Q ++ ⟨#[58]⟩ ++ LL) false = ((sp, LL), 0)) :
    Calls Try.prog 3 #[.int .u8 a, .int .u8 b, .string sp, .int .u8 c] w fun e W' => e = .returned (.bool true) ∧ Below w.heap.size w W' := by
  have hkn := known_c w
  have hcv := conv1
  have hcv2 := conv2
  have hcv3 := conv3
  obtain ⟨i0, hi, hz0, hz1, hz2⟩ := info_parts infoX
  go_enter Try.func3, Try.ntmps3
  go_wp2_with (first | (have _t := hkn; go_at_call 6; go_loud (refine hkn.mono ?_; clear hkn; rintro e w1 ⟨rfl, hb1⟩)) | (go_at_call 7; go_loud (refine (new_c' _).mono ?_; rintro e w2 ⟨p, hpw, rfl, hS2, hb2⟩; clear hcv hcv2 hcv3; have hok := okSp_of (sp := sp) (by assumption); have hnews := cells_new (w2.alloc (.cells #[.string (⟨#[120, 109, 108, 110, 115, 58]⟩ ++ P), .string sp, .int .i64 0, .string (⟨#[120, 109, 108, 110, 115, 58]⟩ ++ Q), .string sp, .int .i64 5, .string ⟨#[120, 109, 108, 110, 115]⟩, .string sp, .int .i64 9] 27)) (flatX (xB P)) 27; rw [World.size_alloc] at hnews)) | (at_builtin; go_loud (refine wpList_append_own_at _ rfl _ _ 28 rfl w2.heap.size 27 i0 (.agg #[.string ⟨#[]⟩, .string ⟨#[]⟩, .int .i64 0]) 3 40 Try.underlying28 hi hz0 hz1 hz2 rfl (by decide) _ 3 (flatX (xA P Q sp)) rfl (World.ownsRow.alloc (World.ownsRow_lit (e := 27) (size := 3) w2 _ 3 (Nat.le_refl _) (by decide) rfl) _) ⟨w2.heap.size + 1, 0, none⟩ 2 2 (flatX (xB P)) rfl rfl hnews (by simp [Value.oneCell', flatX, xB]) (by decide) (by decide) (by simp; omega) ?_; intro v3 w3 hown3 hg3 _ hloc3; clear hnews; have hown3' : w3.ownsRow w2.heap.size 27 3 v3 (xA P Q sp ++ xB P).length (flatX (xA P Q sp ++ xB P)) := hown3; have hb3 : Below w2.heap.size w2 w3 := (((Below.refl w2.heap.size w2).alloc (Nat.le_refl _) _).alloc (by simp) _).grown hg3 (by simp; omega) (fun j e => by cases e; exact Nat.le_refl _); have hS3 := hS2.below hb3; have ho1 := open_c hS3 (by simp) 1 0 (P ++ ⟨#[58]⟩ ++ LL) ⟨#[]⟩ v3 (xA P Q sp ++ xB P) (by simp [ByteArray.size_append, zp, zl, bsz]) (XAttrs_row hown3') (by simp [xA, xB]) (by simp [xA, xB, ByteArray.size_append, zp, zq, bsz]) (fun k hk => ⟨by simp [Value.ownBlock], by have := (hown3'.lt k hk).1; have := hS2.lt; omega⟩); rw [hO hok] at ho1; obtain ⟨g3, c3, rfl⟩ := row_some (n := 4) hown3')) | (have _t := ho1; go_at_call 8; go_loud (refine ho1.mono ?_; clear ho1; rintro e w4 ⟨sv4, hS4, hF4, hl4, sl4, rfl, hrow4, hdis4⟩; obtain ⟨g4, c4, rfl⟩ := row_some (n := 1) hrow4; have hS4' := hS4.alloc (.cells #[.string sp, .string LL, .slice (some ⟨g4, 0, none⟩) (1 + 1) c4, .int .i64 0] 33); have ho2 := open_c hS4' (by simp [n0]) 1 0 LL ⟨#[]⟩ (.slice none 0 0) [] (by omega) (XAttrs_nil _) (by decide) (by simp) (fun k hk => by simp [Value.ownBlock] at hk); rw [hO2] at ho2)) | (have _t := ho2; go_at_call 8; go_loud (refine ho2.mono ?_; clear ho2; rintro e w5 ⟨sv5, hS5, hF5, hl5, sl5, rfl, hrow5, hdis5⟩; obtain ⟨a5, c5, rfl⟩ := row_slice (n := 0) hrow5; have hk : (flatX (xC P Q)).toArray = #[.string (P ++ ⟨#[58, 120]⟩), .string ⟨#[49]⟩, .int .i64 11, .string (Q ++ ⟨#[58, 120]⟩), .string ⟨#[50]⟩, .int .i64 12] := rfl; have hx3 := XAttrs_new (w5.alloc (.cells #[.string sp, .string LL, .slice a5 0 c5, .int .i64 0] 33)) (xC P Q) 27 2; rw [hk] at hx3; have ho3 := open_c ((hS5.alloc (.cells #[.string sp, .string LL, .slice a5 0 c5, .int .i64 0] 33)).alloc (.cells #[.string (P ++ ⟨#[58, 120]⟩), .string ⟨#[49]⟩, .int .i64 11, .string (Q ++ ⟨#[58, 120]⟩), .string ⟨#[50]⟩, .int .i64 12] 27)) (by simp [n1]) 1 0 LL ⟨#[]⟩ _ (xC P Q) (by omega) hx3 (by simp [xC]) (by simp [xC, ByteArray.size_append, zp, zq, bsz]) (fun k hk => ⟨fun e => by have := hS5.own_lt e; simp [Value.ownBlock] at hk; omega, by have := hS5.lt; simp [Value.ownBlock] at hk; omega⟩); rw [hO3] at ho3; have hk2 : (xC P Q).length = 2 := rfl; rw [hk2] at ho3; simp only [World.size_alloc] at ho3)) | (have _t := ho3; go_at_call 8; go_loud (refine ho3.mono ?_; clear ho3; rintro e w6 ⟨sv6, hS6, hF6, hl6, he6⟩; unfold zeroTag at he6; simp only at he6; subst he6; have hr := Resolve_c (hS6.alloc (.cells #[.string ⟨#[]⟩, .string ⟨#[]⟩, .slice none 0 0, .int .i64 0] 33)) (by simp [n1]) (Q ++ ⟨#[58]⟩ ++ LL) (by simp [ByteArray.size_append, zq, zl, bsz]); rw [hR] at hr; unfold nameV at hr)) | (have _t := hr; go_at_call 9; go_loud (refine hr.mono ?_; clear hr; rintro e w7 ⟨rfl, hb7⟩; have hS8 := ((hS6.alloc (.cells #[.string ⟨#[]⟩, .string ⟨#[]⟩, .slice none 0 0, .int .i64 0] 33)).below hb7).alloc (.cells #[.string sp, .string LL] 30); have hd := depth_c hS8; rw [n1] at hd; have up6 : ∀ k i v, (w5.alloc (.cells #[.string sp, .string LL, .slice a5 0 c5, .int .i64 0] 33)).cell? ⟨k, i, none⟩ = some v → k ≠ p → sv5.ownBlock ≠ some k → (w7.alloc (.cells #[.string sp, .string LL] 30)).cell? ⟨k, i, none⟩ = some v := fun k i v h1 h2 h4 => cellA (cellB hb7 (cellA (hF6.cell (cellA h1 _) h2 h4) _) (lt_of_cell (cellA (hF6.cell (cellA h1 _) h2 h4) _))) _; have up : ∀ k i v, (w4.alloc (.cells #[.string sp, .string LL, .slice (some ⟨g4, 0, none⟩) (1 + 1) c4, .int .i64 0] 33)).cell? ⟨k, i, none⟩ = some v → k ≠ p → sv4.ownBlock ≠ some k → sv5.ownBlock ≠ some k → (w7.alloc (.cells #[.string sp, .string LL] 30)).cell? ⟨k, i, none⟩ = some v := fun k i v h1 h2 h3 h4 => up6 k i v (cellA (hF5.cell h1 h2 h3) _) h2 h4; have n4p : w4.heap.size ≠ p := (by have := hS4.lt; omega); have n44 : sv4.ownBlock ≠ some w4.heap.size := (fun e => by have := hS4.own_lt e; omega); have n45 : sv5.ownBlock ≠ some w4.heap.size := own_ne hl5 (by simp) n44; have n5p : w5.heap.size ≠ p := (by have := hS5.lt; omega); have n55 : sv5.ownBlock ≠ some w5.heap.size := (fun e => by have := hS5.own_lt e; omega); have ng := hdis4 g4 rfl; have lg := (hrow4.lt g4 rfl).2; have ng5 : sv5.ownBlock ≠ some g4 := own_ne hl5 (by simp; omega) ng.1; have c10 := up _ 0 _ (new_cell w4 #[.string sp, .string LL, .slice (some ⟨g4, 0, none⟩) (1 + 1) c4, .int .i64 0] 33 0 rfl) n4p n44 n45; have c11 := up _ 1 _ (new_cell w4 #[.string sp, .string LL, .slice (some ⟨g4, 0, none⟩) (1 + 1) c4, .int .i64 0] 33 1 rfl) n4p n44 n45; have c12 := up _ 2 _ (new_cell w4 #[.string sp, .string LL, .slice (some ⟨g4, 0, none⟩) (1 + 1) c4, .int .i64 0] 33 2 rfl) n4p n44 n45; have c20 := up6 _ 0 _ (new_cell w5 #[.string sp, .string LL, .slice a5 0 c5, .int .i64 0] 33 0 rfl) n5p n55; have c21 := up6 _ 1 _ (new_cell w5 #[.string sp, .string LL, .slice a5 0 c5, .int .i64 0] 33 1 rfl) n5p n55; have r0 := up g4 0 (.string sp) (cellA (hrow4.cells (g := g4) rfl 0 _ rfl) _) ng.2 ng.1 ng5; have r4 := up g4 4 (.string ⟨#[]⟩) (cellA (hrow4.cells (g := g4) rfl 4 _ rfl) _) ng.2 ng.1 ng5)) | (have _t := hd; go_at_call 10; go_loud (refine hd.mono ?_; clear hd; rintro e w9 ⟨rfl, rfl⟩)))
  all_goals first | (go_ret; exact ⟨rfl, hb1⟩) | skip
  go_ret
  refine ⟨rfl, ?_⟩
  have hwp : w.heap.size ≤ p := by
    have := hb1.size
    rw [← hpw]
    simp
    omega
  have b1 := ((hb1.alloc hb1.size (.cells #[.int .u8 (97 + a % 26)] 5)).alloc (by have := hb1.size; simp; omega) (.cells #[.int .u8 (97 + b % 26)] 5)).alloc (by have := hb1.size; simp; omega) (.cells #[.int .u8 (97 + c % 26)] 5)
  have b2 := b1.trans (hb2.mono b1.size)
  have b3 := b2.trans (hb3.mono b2.size)
  have b4 := hF4.below hwp (fun k hk => by simp [Value.ownBlock] at hk) b3 b3.size
  have hs4 : ∀ k, sv4.ownBlock = some k → w.heap.size ≤ k := by
    intro k hk
    rcases hl4 with e | ⟨j, e, hj⟩
    · rw [e] at hk
      simp [Value.ownBlock] at hk
    · rw [e] at hk
      cases hk
      exact Nat.le_trans b3.size hj
  have b4' := b4.alloc b4.size (.cells #[.string sp, .string LL, .slice (some ⟨g4, 0, none⟩) (1 + 1) c4, .int .i64 0] 33)
  have b5 := hF5.below hwp hs4 b4' b4'.size
  have hs5 : ∀ k, sv5.ownBlock = some k → w.heap.size ≤ k := by
    intro k hk
    rcases hl5 with e | ⟨j, e, hj⟩
    · exact hs4 k (by rw [← e]; exact hk)
    · rw [e] at hk
      cases hk
      exact Nat.le_trans b4'.size hj
  have b5' := b5.alloc b5.size (.cells #[.string sp, .string LL, .slice a5 0 c5, .int .i64 0] 33)
  have b5x := b5'.alloc b5'.size (.cells #[.string (P ++ ⟨#[58, 120]⟩), .string ⟨#[49]⟩, .int .i64 11, .string (Q ++ ⟨#[58, 120]⟩), .string ⟨#[50]⟩, .int .i64 12] 27)
  have b6 := hF6.below hwp hs5 b5x b5x.size
  have b6' := b6.alloc b6.size (.cells #[.string ⟨#[]⟩, .string ⟨#[]⟩, .slice none 0 0, .int .i64 0] 33)
  have b7 := b6'.trans (hb7.mono b6'.size)
  exact b7.alloc b7.size _
def let26 (a : Int) : Fin 26 := ⟨(a % 26).toNat, by omega⟩
theorem lt2_of (h : UInt8) (a : Int) : ⟨#[h]⟩ ++ strOfNums [97 + a % 26] = mkB (lt2 h (let26 a)) := by
  rw [ByteArray.ext_iff]
  have e : (97 + a % 26).toNat = 97 + (let26 a).val := by unfold let26; simp; omega
  apply Array.toList_inj.1
  rw [ByteArray.data_append, Array.toList_append, strOfNums_data]
  simp only [List.map_cons, List.map_nil, e]
  rfl
theorem mk_app (l m : List UInt8) : mkB l ++ mkB m = mkB (l ++ m) := by
  rw [ByteArray.ext_iff, ByteArray.data_append]
  apply Array.toList_inj.1
  rw [Array.toList_append]
  unfold mkB
  simp
theorem same_c (a b c : Int) (sp : ByteArray) (w : World) (ha : 0 ≤ a ∧ a ≤ 255) (hb : 0 ≤ b ∧ b ≤ 255) (hc : 0 ≤ c ∧ c ≤ 255) :
    Calls Try.prog 3 #[.int .u8 a, .int .u8 b, .string sp, .int .u8 c] w fun e W' => e = .returned (.bool true) ∧ Below w.heap.size w W' := by
  have e1 : ∀ i j : Fin 26, xA (mkB (lt2 112 i)) (mkB (lt2 113 j)) sp ++ xB (mkB (lt2 112 i)) = sX1 i j sp := by
    intro i j
    unfold xA xB sX1
    rw [show (⟨#[120, 109, 108, 110, 115, 58]⟩ : ByteArray) = mkB ownC from rfl, show (⟨#[58, 120]⟩ : ByteArray) = mkB [58, 120] from rfl, mk_app, mk_app, mk_app]
    rfl
  have e3 : ∀ i j : Fin 26, xC (mkB (lt2 112 i)) (mkB (lt2 113 j)) = sX3 i j := by
    intro i j
    unfold xC sX3
    rw [show (⟨#[58, 120]⟩ : ByteArray) = mkB [58, 120] from rfl, mk_app, mk_app]
    rfl
  have e5 : ∀ (h : UInt8) (i j : Fin 26), mkB (lt2 h i) ++ ⟨#[58]⟩ ++ mkB (lt2 108 j) = mkB (lt2 h i ++ 58 :: lt2 108 j) := by
    intro h i j
    rw [show (⟨#[58]⟩ : ByteArray) = mkB [58] from rfl, mk_app, mk_app, List.append_assoc]
    rfl
  refine same_walk a b c sp _ _ _ w ha hb hc (lt2_of 112 a) (lt2_of 113 b) (lt2_of 108 c) rfl rfl rfl (sL (let26 a) (let26 b) sp 0) (sL (let26 a) (let26 b) sp 1) rfl rfl ?_ (s_open2 _ _ _ sp) ?_ ?_
  · intro h
    rw [e1, e5]
    exact s_open1 _ _ _ h
  · rw [e3]
    exact s_open3 _ _ _ sp
  · rw [e5]
    exact res_ql _ _ _ sp 1
end Go.Proofs.YtdelafoijplleaaN
