/- What is proved: the law NsInner answers true. Conditions: none. -/
import Derived.Test.YtdelafoijplleaaNsInnerLaw
set_option linter.unusedVariables false
namespace Go.Proofs.YtdelafoijplleaaN
open Go.RowKit Go.Maps Go.Shelf Go.Proofs.YtdelafoijplleaaW.PrintWords
theorem map_not_block {w : World} {b : Nat} {m : Binds} (hM : SMap w b m) {cs : Array Value} {t : TypeId} {o : Nat × Nat} {g : Nat} (hg : w.heap[g]? = some (.cells cs t o)) : g ≠ b := by
  intro e
  obtain ⟨es, clock, hb, _⟩ := hM.out
  rw [e, hb] at hg
  cases hg
theorem Sc.grown {w w' : World} {p : Nat} {sv : Value} {L : List Binds} (h : Sc w p sv L) {row : Option Nat} (hg : w.grownBy w' row) (hp : some p ≠ row) (hs : sv.ownBlock = none ∨ sv.ownBlock ≠ row) (hm : ∀ b m, SMap w b m → some b ≠ row) : Sc w' p sv L := by
  obtain ⟨els, h1, h2, h3⟩ := h.rows
  exact ⟨hg.cell h.cell hp, (World.frozen?_of_block (hg.block p h.lt hp)).trans h.frozen, ⟨els, h1.kept hg hs, h2, fun e he => (h3 e he).kept hg (hm _ _ (h3 e he))⟩, h.apart⟩
theorem infoS : (Try.prog.info? 9).map (fun i => (i.zero, i.size, i.bytes)) = some (some (.string ⟨#[]⟩), 1, 16) := by kernel_rfl
def wantL (zs : List Int) : List Value := zs.map fun z => .string (spO z)
theorem wantL_snoc (zs : List Int) (z : Int) : wantL (zs ++ [z]) = wantL zs ++ [.string (spO z)] := by
  unfold wantL
  rw [List.map_append]
  rfl
set_option maxRecDepth 100000 in
set_option maxHeartbeats 8000000 in
theorem inner_c (a : Option Addr) (cap : Nat) (xs : List Int) (w : World) (hc : ∀ i (h : i < xs.length), ∃ x, a = some x ∧ w.cell? (x.add i) = some (.int .u8 xs[i])) (hb : ∀ z ∈ xs, 0 ≤ z ∧ z ≤ 255) :
    Calls Try.prog 5 #[.slice a xs.length cap] w fun e W' => e = .returned (.bool true) ∧ Below w.heap.size w W' := by
  have hkn := known_c w
  obtain ⟨i0, hi, hz0, hz1, hz2⟩ := info_parts infoS
  go_enter Try.func5, Try.ntmps5
  go_wp2_with (first | (have _t := hkn; go_at_call 6; refine hkn.mono ?_; clear hkn; rintro e w1 ⟨rfl, hb1⟩) | (go_at_call 7; refine (new_c' _).mono ?_; rintro e w2 ⟨p, hpw, rfl, hS2, hb2⟩))
  all_goals first | (go_ret; exact ⟨rfl, hb1⟩) | skip
  have hlen : xs.length ≤ 40 := by omega
  have hwp : w.heap.size ≤ p := by have := hb1.size; omega
  have hB2 : Below w.heap.size w w2 := hb1.trans (hb2.mono hb1.size)
  have hp2 := hS2.lt
  go_loopw [4, 5] (fun v i wr => ∃ (k : Nat) (sv : Value), k ≤ xs.length ∧ i = .int .i64 k ∧ Sc wr p sv (inL (xs.take k)) ∧ wr.ownsRow w2.heap.size 9 1 v k (wantL (xs.take k)) ∧ (∀ b, v.ownBlock = some b → sv.ownBlock ≠ some b) ∧ (∀ b, sv.ownBlock = some b → w.heap.size ≤ b) ∧ Below w.heap.size w wr ∧ w2.heap.size ≤ wr.heap.size)
    (fun _ i _ => xs.length - (intOf i).toNat)
  case atStart => exact ⟨0, _, Nat.zero_le _, rfl, hS2, World.ownsRow_nil _ _ _ _, fun b hb => by simp [Value.ownBlock] at hb, fun b hb => by simp [Value.ownBlock] at hb, hB2, Nat.le_refl _⟩
  case round =>
    obtain ⟨k, sv, hk, rfl, hS, hov, hvs, hsw, hBr, h2r⟩ := hrel
    generalize u4 = v at *
    have hvp : ∀ b, v.ownBlock = some b → b ≠ p := fun b hb => by have := (hov.lt b hb).1; omega
    by_cases hlt : k < xs.length
    · obtain ⟨x, rfl, hcx⟩ := hc k hlt
      have hzb := hb xs[k] (List.getElem_mem hlt)
      have hcr := cellB hBr hcx (lt_of_cell hcx)
      have htk := take_snoc xs k hlt
      generalize xs[k] = z at hcr hzb htk
      have hsz0 := spO_size z
      by_cases h4 : 0 < z % 4
      · have hcv := conv1 wr (97 + z % 26)
        obtain ⟨sp, hsp⟩ : ∃ sp, (⟨#[117]⟩ : ByteArray) ++ strOfNums [97 + z % 26] = sp := ⟨_, rfl⟩
        have hspo : spO z = sp := by unfold spO; rw [if_pos h4, hsp]
        have hsz : sp.size ≤ 2 := by rw [← hspo]; exact hsz0
        have hSW : Sc (wr.alloc (.cells #[.int .u8 (97 + z % 26)] 5)) p sv (inL (xs.take k)) := hS.alloc _
        have hBW : Below w.heap.size w (wr.alloc (.cells #[.int .u8 (97 + z % 26)] 5)) := hBr.alloc hBr.size _
        have hovW : ((wr.alloc (.cells #[.int .u8 (97 + z % 26)] 5))).ownsRow w2.heap.size 9 1 v k (wantL (xs.take k)) := hov.alloc _
        have hx3 := XAttrs_new (wr.alloc (.cells #[.int .u8 (97 + z % 26)] 5)) [(⟨#[120, 109, 108, 110, 115]⟩, sp, 0)] 27 1
        have hk1 : (flatX [(⟨#[120, 109, 108, 110, 115]⟩, sp, 0)]).toArray = #[.string ⟨#[120, 109, 108, 110, 115]⟩, .string sp, .int .i64 0] := rfl
        have hk2 : [((⟨#[120, 109, 108, 110, 115]⟩ : ByteArray), (sp : ByteArray), (0 : Int))].length = 1 := rfl
        rw [hk1] at hx3
        have ho := open_c (hSW.alloc (.cells #[.string ⟨#[120, 109, 108, 110, 115]⟩, .string sp, .int .i64 0] 27)) (by rw [inL_len, List.length_take]; omega) 1 0 ⟨#[97]⟩ ⟨#[]⟩ _ [(⟨#[120, 109, 108, 110, 115]⟩, sp, 0)] (by decide) hx3 (by simp) (by intro y hy; simp at hy; rw [hy]; simp [bsz]) (fun b hb => by have e9 := Option.some.inj hb; have e9' : ((wr.alloc (.cells #[.int .u8 (97 + z % 26)] 5))).heap.size = b := e9; exact ⟨fun e => by have h9 := hSW.own_lt e; omega, fun e => by have h9 := hSW.lt; omega⟩)
        rw [open_inner _ hsz, hk2] at ho
        simp only [World.size_alloc] at ho
        go_wp2_with (first | (have _t := ho; go_at_call 8; go_loud (refine ho.mono ?_; clear ho; rintro e w5 ⟨sv5, hS5, hF5, hl5, sl5, rfl, hrow5, hdis5⟩; obtain ⟨a5, c5, rfl⟩ := row_slice (n := 0) hrow5; have hov5 : w5.ownsRow w2.heap.size 9 1 v k (wantL (xs.take k)) := (ownsRow_of_blocks (hovW.alloc (.cells #[.string ⟨#[120, 109, 108, 110, 115]⟩, .string sp, .int .i64 0] 27)) (fun b hb => hF5.block b ((hovW.alloc (.cells #[.string ⟨#[120, 109, 108, 110, 115]⟩, .string sp, .int .i64 0] 27)).lt b hb).2 (hvp b hb) (hvs b hb))); have hnews := cells_new (w5.alloc (.cells #[.string sp, .string ⟨#[97]⟩, .slice a5 0 c5, .int .i64 0] 33)) [.string sp] 9; rw [World.size_alloc] at hnews; have hl5' := hl5)) | (have _t := hl5'; at_builtin; go_loud (clear hl5'; refine wpList_append_own_at _ rfl _ _ 54 rfl w2.heap.size 9 i0 (.string ⟨#[]⟩) 1 16 Try.underlying54 hi hz0 hz1 hz2 rfl (by decide) _ _ _ rfl ((hov5.alloc _).alloc _) ⟨w5.heap.size + 1, 0, none⟩ 1 1 [.string sp] rfl rfl hnews (by simp [Value.oneCell']) (by unfold maxLen; omega) (by omega) (by have h8 := hF5.size; simp only [World.size_alloc] at h8 ⊢; omega) ?_; intro v9 w9 hown9 hg9 _ hloc9; have t7 := hg9.cell (cellA (new_cell w5 #[.string sp, .string ⟨#[97]⟩, .slice a5 0 c5, .int .i64 0] 33 0 rfl) _) (fun e => absurd (hov5.lt w5.heap.size e.symm).2 (Nat.lt_irrefl _)); have t7b := hg9.cell (cellA (new_cell w5 #[.string sp, .string ⟨#[97]⟩, .slice a5 0 c5, .int .i64 0] 33 1 rfl) _) (fun e => absurd (hov5.lt w5.heap.size e.symm).2 (Nat.lt_irrefl _)))))
        have hs9 := hg9.size
        have hs5 := hF5.size
        simp only [World.size_alloc] at hs9 hs5
        have hw2 : w2.heap.size ≤ w5.heap.size := by omega
        have hlc := fun b hb => ((hovW.alloc (.cells #[.string ⟨#[120, 109, 108, 110, 115]⟩, .string sp, .int .i64 0] 27)).lt b hb).2
        refine ⟨⟨k + 1, sv5, by omega, by simp, ?_, ?_, ?_, ?_, ?_, by omega⟩, by simp [intOf]; omega⟩
        · rw [htk, inL_snoc, hspo]
          refine ((Sc.alloc (L := inL (xs.take k) ++ [[(⟨#[]⟩, sp)]]) hS5 _).alloc _).grown hg9 (fun e => hvp p e.symm rfl) ?_ (fun b m hM e => map_not_row hM ((hov5.alloc _).alloc _) e.symm)
          cases hq : sv5.ownBlock with
          | none => exact .inl rfl
          | some b => exact .inr (fun e => own_ne hl5 (hlc b e.symm) (hvs b e.symm) hq)
        · rw [htk, wantL_snoc, hspo]
          exact hown9
        · intro b hb9
          rcases hloc9 with e | e
          · rw [e] at hb9
            exact own_ne hl5 (hlc b hb9) (hvs b hb9)
          · intro e2
            have h7 := hS5.own_lt e2
            rw [e] at hb9
            have h8 := Option.some.inj hb9
            simp only [World.size_alloc] at h8
            omega
        · intro b hb5
          rcases hl5 with e | ⟨j, e, hj⟩
          · exact hsw b (by rw [← e]; exact hb5)
          · rw [e] at hb5
            cases hb5
            have := hBW.size
            try simp only [World.size_alloc] at hj
            try simp only [World.size_alloc] at this
            omega
        · have b5 := hF5.below hwp hsw (hBW.alloc hBW.size (.cells #[.string ⟨#[120, 109, 108, 110, 115]⟩, .string sp, .int .i64 0] 27)) (by have := (hBW.alloc hBW.size (.cells #[.string ⟨#[120, 109, 108, 110, 115]⟩, .string sp, .int .i64 0] 27)).size; exact this)
          have b6 := (b5.alloc b5.size (.cells #[.string sp, .string ⟨#[97]⟩, .slice a5 0 c5, .int .i64 0] 33))
          have b7 := b6.alloc b6.size (.cells #[.string sp] 9)
          exact b7.grown hg9 b7.size (fun b e => by have := (hov.lt b e).1; have := hB2.size; omega)
      · have hspo : spO z = ⟨#[]⟩ := by unfold spO; rw [if_neg h4]
        have hsz : (⟨#[]⟩ : ByteArray).size ≤ 2 := by decide
        have hSW : Sc wr p sv (inL (xs.take k)) := hS
        have hBW : Below w.heap.size w wr := hBr
        have hovW : (wr).ownsRow w2.heap.size 9 1 v k (wantL (xs.take k)) := hov
        have hx3 := XAttrs_new wr [(⟨#[120, 109, 108, 110, 115]⟩, (⟨#[]⟩ : ByteArray), 0)] 27 1
        have hk1 : (flatX [(⟨#[120, 109, 108, 110, 115]⟩, (⟨#[]⟩ : ByteArray), 0)]).toArray = #[.string ⟨#[120, 109, 108, 110, 115]⟩, .string (⟨#[]⟩ : ByteArray), .int .i64 0] := rfl
        have hk2 : [((⟨#[120, 109, 108, 110, 115]⟩ : ByteArray), ((⟨#[]⟩ : ByteArray) : ByteArray), (0 : Int))].length = 1 := rfl
        rw [hk1] at hx3
        have ho := open_c (hSW.alloc (.cells #[.string ⟨#[120, 109, 108, 110, 115]⟩, .string (⟨#[]⟩ : ByteArray), .int .i64 0] 27)) (by rw [inL_len, List.length_take]; omega) 1 0 ⟨#[97]⟩ ⟨#[]⟩ _ [(⟨#[120, 109, 108, 110, 115]⟩, (⟨#[]⟩ : ByteArray), 0)] (by decide) hx3 (by simp) (by intro y hy; simp at hy; rw [hy]; simp [bsz]) (fun b hb => by have e9 := Option.some.inj hb; have e9' : (wr).heap.size = b := e9; exact ⟨fun e => by have h9 := hSW.own_lt e; omega, fun e => by have h9 := hSW.lt; omega⟩)
        rw [open_inner _ hsz, hk2] at ho
        
        go_wp2_with (first | (have _t := ho; go_at_call 8; go_loud (refine ho.mono ?_; clear ho; rintro e w5 ⟨sv5, hS5, hF5, hl5, sl5, rfl, hrow5, hdis5⟩; obtain ⟨a5, c5, rfl⟩ := row_slice (n := 0) hrow5; have hov5 : w5.ownsRow w2.heap.size 9 1 v k (wantL (xs.take k)) := (ownsRow_of_blocks (hovW.alloc (.cells #[.string ⟨#[120, 109, 108, 110, 115]⟩, .string (⟨#[]⟩ : ByteArray), .int .i64 0] 27)) (fun b hb => hF5.block b ((hovW.alloc (.cells #[.string ⟨#[120, 109, 108, 110, 115]⟩, .string (⟨#[]⟩ : ByteArray), .int .i64 0] 27)).lt b hb).2 (hvp b hb) (hvs b hb))); have hnews := cells_new (w5.alloc (.cells #[.string (⟨#[]⟩ : ByteArray), .string ⟨#[97]⟩, .slice a5 0 c5, .int .i64 0] 33)) [.string (⟨#[]⟩ : ByteArray)] 9; rw [World.size_alloc] at hnews; have hl5' := hl5)) | (have _t := hl5'; at_builtin; go_loud (clear hl5'; refine wpList_append_own_at _ rfl _ _ 54 rfl w2.heap.size 9 i0 (.string ⟨#[]⟩) 1 16 Try.underlying54 hi hz0 hz1 hz2 rfl (by decide) _ _ _ rfl ((hov5.alloc _).alloc _) ⟨w5.heap.size + 1, 0, none⟩ 1 1 [.string (⟨#[]⟩ : ByteArray)] rfl rfl hnews (by simp [Value.oneCell']) (by unfold maxLen; omega) (by omega) (by have h8 := hF5.size; simp only [World.size_alloc] at h8 ⊢; omega) ?_; intro v9 w9 hown9 hg9 _ hloc9; have t7 := hg9.cell (cellA (new_cell w5 #[.string (⟨#[]⟩ : ByteArray), .string ⟨#[97]⟩, .slice a5 0 c5, .int .i64 0] 33 0 rfl) _) (fun e => absurd (hov5.lt w5.heap.size e.symm).2 (Nat.lt_irrefl _)); have t7b := hg9.cell (cellA (new_cell w5 #[.string (⟨#[]⟩ : ByteArray), .string ⟨#[97]⟩, .slice a5 0 c5, .int .i64 0] 33 1 rfl) _) (fun e => absurd (hov5.lt w5.heap.size e.symm).2 (Nat.lt_irrefl _)))))
        have hs9 := hg9.size
        have hs5 := hF5.size
        simp only [World.size_alloc] at hs9 hs5
        have hw2 : w2.heap.size ≤ w5.heap.size := by omega
        have hlc := fun b hb => ((hovW.alloc (.cells #[.string ⟨#[120, 109, 108, 110, 115]⟩, .string (⟨#[]⟩ : ByteArray), .int .i64 0] 27)).lt b hb).2
        refine ⟨⟨k + 1, sv5, by omega, by simp, ?_, ?_, ?_, ?_, ?_, by omega⟩, by simp [intOf]; omega⟩
        · rw [htk, inL_snoc, hspo]
          refine ((Sc.alloc (L := inL (xs.take k) ++ [[(⟨#[]⟩, (⟨#[]⟩ : ByteArray))]]) hS5 _).alloc _).grown hg9 (fun e => hvp p e.symm rfl) ?_ (fun b m hM e => map_not_row hM ((hov5.alloc _).alloc _) e.symm)
          cases hq : sv5.ownBlock with
          | none => exact .inl rfl
          | some b => exact .inr (fun e => own_ne hl5 (hlc b e.symm) (hvs b e.symm) hq)
        · rw [htk, wantL_snoc, hspo]
          exact hown9
        · intro b hb9
          rcases hloc9 with e | e
          · rw [e] at hb9
            exact own_ne hl5 (hlc b hb9) (hvs b hb9)
          · intro e2
            have h7 := hS5.own_lt e2
            rw [e] at hb9
            have h8 := Option.some.inj hb9
            simp only [World.size_alloc] at h8
            omega
        · intro b hb5
          rcases hl5 with e | ⟨j, e, hj⟩
          · exact hsw b (by rw [← e]; exact hb5)
          · rw [e] at hb5
            cases hb5
            have := hBW.size
            try simp only [World.size_alloc] at hj
            try simp only [World.size_alloc] at this
            omega
        · have b5 := hF5.below hwp hsw (hBW.alloc hBW.size (.cells #[.string ⟨#[120, 109, 108, 110, 115]⟩, .string (⟨#[]⟩ : ByteArray), .int .i64 0] 27)) (by have := (hBW.alloc hBW.size (.cells #[.string ⟨#[120, 109, 108, 110, 115]⟩, .string (⟨#[]⟩ : ByteArray), .int .i64 0] 27)).size; exact this)
          have b6 := (b5.alloc b5.size (.cells #[.string (⟨#[]⟩ : ByteArray), .string ⟨#[97]⟩, .slice a5 0 c5, .int .i64 0] 33))
          have b7 := b6.alloc b6.size (.cells #[.string (⟨#[]⟩ : ByteArray)] 9)
          exact b7.grown hg9 b7.size (fun b e => by have := (hov.lt b e).1; have := hB2.size; omega)
    · obtain rfl : k = xs.length := by omega
      rename World => wl
      rw [List.take_length] at hS hov
      obtain ⟨va, vc, rfl⟩ := row_slice hov
      go_wp2
      go_loopw [10] (fun i wr => ∃ (k : Nat) (sv : Value), k ≤ xs.length ∧ i = .int .i64 ((k : Int) - 1) ∧ Sc wr p sv (inL (xs.take k)) ∧ wr.ownsRow w2.heap.size 9 1 (.slice va xs.length vc) xs.length (wantL xs) ∧ (∀ b, (Value.slice va xs.length vc).ownBlock = some b → sv.ownBlock ≠ some b) ∧ (∀ b, sv.ownBlock = some b → w.heap.size ≤ b) ∧ Below w.heap.size w wr ∧ w2.heap.size ≤ wr.heap.size)
        (fun i _ => (intOf i + 1).toNat)
      case atStart => exact ⟨xs.length, sv, Nat.le_refl _, rfl, by rw [List.take_length]; exact hS, hov, hvs, hsw, hBr, h2r⟩
      case round =>
        rename World => wq
        obtain ⟨k, sq, hk2, rfl, hSq, hovq, hvq, hsq, hBq, h2q⟩ := hrel
        rcases Nat.eq_zero_or_pos k with rfl | hpos
        · have hS0 : Sc wq p sq [] := hSq
          have hd := depth_c hS0
          have hbn := binds_all hS0 (by simp) ⟨by decide, fun m hm => by cases hm⟩
          rw [bindsL_nil] at hbn
          go_wp2_with (first | (go_at_call 10; refine hd.mono ?_; rintro e w5 ⟨rfl, rfl⟩) | (go_at_call 12; go_loud (refine hbn.mono ?_; rintro e w6 ⟨vb, rfl, hrb, hbb⟩; obtain ⟨ab, cb, rfl⟩ := row_slice hrb)))
          go_ret
          exact ⟨rfl, hBq.trans (hbb.mono hBq.size)⟩
        · obtain ⟨n, rfl⟩ : ∃ n, k = n + 1 := ⟨k - 1, by omega⟩
          have hn : n < xs.length := by omega
          rw [take_snoc xs n hn] at hSq
          obtain ⟨g, rfl⟩ : ∃ g, va = some ⟨g, 0, none⟩ := by
            rcases hovq.2 with ⟨_, h0⟩ | ⟨g, cap, cur, e, _⟩
            · omega
            · simp only [Value.slice.injEq] at e
              exact ⟨g, e.1⟩
          have ha : (⟨g, 0, none⟩ : Addr).add n = ⟨g, n, none⟩ := by unfold Addr.add; split <;> simp_all
          have hcw := hovq.cells (g := g) rfl n (.string (spO xs[n])) (by unfold wantL; rw [List.getElem?_map, List.getElem?_eq_getElem hn]; rfl)
          rw [ha] at hcw
          have hlt9 : (xs.take n).length ≤ 40 := by rw [List.length_take]; omega
          generalize xs[n] = z at hSq hcw
          have hsp := space_c hSq (by rw [inL_len]; simp; omega) ⟨#[]⟩
          rw [inL_snoc, space_last] at hsp
          have hi1 : ((n + 1 : Nat) : Int) - 1 = (n : Int) := by omega
          by_cases h0 : spO z = ⟨#[]⟩
          · rw [h0] at hsp hcw
            go_wp2_with (first | (have _t := hsp; go_at_call 14; go_loud (refine hsp.mono ?_; clear hsp; rintro e w5 ⟨rfl, hb5⟩; have hS5 := hSq.below hb5; have hbn := binds_all hS5 (by rw [inL_len]; simp; omega) (small_inL _ (by simp; omega)); rw [bindsL_in, if_pos h0] at hbn; have hc5 := cellB hb5 hcw (lt_of_cell hcw))) | (have _t := hbn; go_at_call 12; go_loud (refine hbn.mono ?_; clear hbn; rintro e w6 ⟨vb, rfl, hrb, hb6⟩; obtain ⟨ab, cb, rfl⟩ := row_slice hrb; have hS6 := hS5.below hb6; have hcl := close_some hS6 (by rw [inL_len]; simp; omega) (by rw [inL_snoc]; simp); have hc6 := cellB hb6 hc5 (lt_of_cell hc5))) | (have _t := hcl; go_at_call 13; go_loud (refine hcl.mono ?_; clear hcl; rintro e w7 ⟨rfl, sv7, hS7, hsv7, hF7⟩)))
            go_roundw
            case rel =>
              have hB6 := (hBq.trans (hb5.mono hBq.size)).trans (hb6.mono (by have := hBq.size; have := hb5.size; omega))
              have hov6 : w6.ownsRow w2.heap.size 9 1 (.slice (some ⟨g, 0, none⟩) xs.length vc) xs.length (wantL xs) := ownsRow_of_blocks (ownsRow_of_blocks hovq (fun b hb => hb5.block b (hovq.lt b hb).2)) (fun b hb => hb6.block b (by have := (hovq.lt b hb).2; have := hb5.size; omega))
              have s5 := hb5.size
              have s6 := hb6.size
              have s7 := hF7.size
              refine ⟨n, sv7, by omega, by first | rfl | (congr 1; omega), by rw [inL_drop] at hS7; exact hS7, ownsRow_of_blocks hov6 (fun b hb => hF7.block b (hov6.lt b hb).2 (hvp b hb) (hvq b hb)), fun b hb => by rw [hsv7]; exact hvq b hb, fun b hb => hsq b (by rw [← hsv7]; exact hb), hF7.below hwp hsq hB6 hB6.size, by omega⟩
            case measure => simp [intOf]
          · have h0' : (spO z).toList.isEmpty = false := by rw [ByteArray.toList_eq]; exact List.isEmpty_eq_false_iff.2 (fun e => h0 (by rw [ByteArray.ext_iff]; apply Array.toList_inj.1; rw [e]))
            go_wp2_with (first | (have _t := hsp; go_at_call 14; go_loud (refine hsp.mono ?_; clear hsp; rintro e w5 ⟨rfl, hb5⟩; have hS5 := hSq.below hb5; have hbn := binds_all hS5 (by rw [inL_len]; simp; omega) (small_inL _ (by simp; omega)); rw [bindsL_in, if_neg h0] at hbn; have hc5 := cellB hb5 hcw (lt_of_cell hcw))) | (have _t := hbn; go_at_call 12; go_loud (refine hbn.mono ?_; clear hbn; rintro e w6 ⟨vb, rfl, hrb, hb6⟩; obtain ⟨ab, cb, rfl⟩ := row_slice hrb; have hS6 := hS5.below hb6; have hcl := close_some hS6 (by rw [inL_len]; simp; omega) (by rw [inL_snoc]; simp); have hc6 := cellB hb6 hc5 (lt_of_cell hc5))) | (have _t := hcl; go_at_call 13; go_loud (refine hcl.mono ?_; clear hcl; rintro e w7 ⟨rfl, sv7, hS7, hsv7, hF7⟩)))
            go_roundw
            case rel =>
              have hB6 := (hBq.trans (hb5.mono hBq.size)).trans (hb6.mono (by have := hBq.size; have := hb5.size; omega))
              have hov6 : w6.ownsRow w2.heap.size 9 1 (.slice (some ⟨g, 0, none⟩) xs.length vc) xs.length (wantL xs) := ownsRow_of_blocks (ownsRow_of_blocks hovq (fun b hb => hb5.block b (hovq.lt b hb).2)) (fun b hb => hb6.block b (by have := (hovq.lt b hb).2; have := hb5.size; omega))
              have s5 := hb5.size
              have s6 := hb6.size
              have s7 := hF7.size
              refine ⟨n, sv7, by omega, by first | rfl | (congr 1; omega), by rw [inL_drop] at hS7; exact hS7, ownsRow_of_blocks hov6 (fun b hb => hF7.block b (hov6.lt b hb).2 (hvp b hb) (hvq b hb)), fun b hb => by rw [hsv7]; exact hvq b hb, fun b hb => hsq b (by rw [← hsv7]; exact hb), hF7.below hwp hsq hB6 hB6.size, by omega⟩
            case measure => simp [intOf]
end Go.Proofs.YtdelafoijplleaaN
