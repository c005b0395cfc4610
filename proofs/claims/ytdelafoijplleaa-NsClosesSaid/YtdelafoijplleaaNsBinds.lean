/- What is proved: Binds tells all prefixes that stand for a space in a scope, sorted. Conditions: those of the scope; fewer bindings than 2^40, prefixes of at most maxLen bytes. -/
import Derived.Test.YtdelafoijplleaaNsIter
import Derived.Test.YtdelafoijplleaaNsOpen
set_option linter.unusedVariables false
namespace Go.Proofs.YtdelafoijplleaaN
open Go.RowKit Go.Maps Go.Shelf Go.Sort Go.Proofs.YtdelafoijplleaaW.PrintWords
/-- The bounds that a scope's entries keep. -/
def Small (L : List Binds) : Prop := sumL L < 1099511627776 ∧ ∀ m ∈ L, ∀ p ∈ m, p.1.size ≤ maxLen
theorem Small.take {L : List Binds} (h : Small L) (k : Nat) (hk : k < L.length) : sumL (L.take k) + L[k].length ≤ sumL L := by
  have e : L = L.take k ++ L[k] :: L.drop (k + 1) := by
    rw [← List.drop_eq_getElem_cons hk, List.take_append_drop]
  have e2 : sumL L = sumL (L.take k) + (L[k].length + sumL (L.drop (k + 1))) := by
    have e3 := congrArg sumL e
    rw [e3]
    unfold sumL
    rw [List.map_append, List.sum_append, List.map_cons, List.sum_cons]
  omega
theorem take_snoc {α : Type} (L : List α) (k : Nat) (hk : k < L.length) : L.take (k + 1) = L.take k ++ [L[k]] := by
  rw [List.take_add_one, List.getElem?_eq_getElem hk]
  rfl
theorem infoB : (Try.prog.info? 52).map (fun i => (i.zero, i.size, i.bytes)) = some (some (.agg #[.string ⟨#[]⟩, .string ⟨#[]⟩]), 2, 32) := by kernel_rfl
theorem keep_of' (x c : ByteArray) : keepE (.string x.data.toList, (.lit (.string c.data.toList) : DU)) = !(c.toList.isEmpty || x.toList == [120, 109, 108]) := by
  rw [ByteArray.toList_eq, ByteArray.toList_eq]
  unfold keepE xmlK
  cases c.data.toList <;> simp [Lit.sameKey]
theorem keep_of (k : List UInt8) (v : ByteArray) : keepE (.string k, (.lit (.string v.data.toList) : DU)) = !(v.toList.isEmpty || k == [120, 109, 108]) := by
  rw [ByteArray.toList_eq]
  unfold keepE xmlK
  cases v.data.toList <;> simp [Lit.sameKey]
theorem flatB_take (l : List (ByteArray × ByteArray)) (k : Nat) (hk : k < l.length) : flatB (l.take (k + 1)) = flatB (l.take k) ++ [.string l[k].1, .string l[k].2] := by
  rw [take_snoc l k hk]
  unfold flatB
  rw [List.flatMap_append]
  rfl
theorem flatB_len (l : List (ByteArray × ByteArray)) : (flatB l).length = l.length * 2 := by
  induction l with
  | nil => rfl
  | cons a t ih => simp only [flatB, List.flatMap_cons] at ih ⊢; rw [List.length_append, ih]; simp; omega
theorem bindsL_get (L : List Binds) (j : Nat) (h : j < (bindsL L).length) (h' : j < ((strKeys (keptD L)).mergeSort fun x y => decide (x ≤ y)).length) : (bindsL L)[j] = (⟨((strKeys (keptD L)).mergeSort fun x y => decide (x ≤ y))[j].toArray⟩, txtOf ((keptD L).atKey (.string ((strKeys (keptD L)).mergeSort fun x y => decide (x ≤ y))[j]) (.lit (.string [])))) := by
  simp only [bindsL, List.getElem_map]
set_option maxRecDepth 100000 in
set_option maxHeartbeats 4000000 in
theorem binds_all {w : World} {p : Nat} {sv : Value} {L : List Binds} (h : Sc w p sv L) (hL : L.length < 1099511627776) (hsm : Small L) :
    Calls Try.prog 12 #[.pointer (some ⟨p, 0, none⟩)] w fun e W' => ∃ v, e = .returned v ∧ W'.ownsRow w.heap.size 52 2 v (bindsL L).length (flatB (bindsL L)) ∧ Below w.heap.size w W' := by
  have hmm := @run_makeMap Try.prog
  obtain ⟨els, e1, e2, e3⟩ := h.rows
  have hel : els.length = L.length := by rw [← e2, List.length_map]
  obtain ⟨sa, scap, rfl⟩ := h.slice
  have hc0 := cellA h.cell (.map #[] 0)
  have hB0 : Below w.heap.size w (w.alloc (.map #[] 0)) := (Below.refl _ w).alloc (Nat.le_refl _) _
  have hO0 : (w.alloc (.map #[] 0)).ownsMap Try.prog 9 strR w.heap.size 0 (.map []) := World.ownsMap_made w _ _ _
  go_enter Try.func12, Try.ntmps12
  go_wp2
  go_loopw [17] (fun i wr => ∃ k : Nat, k ≤ L.length ∧ i = .int .i64 k ∧ wr.ownsMap Try.prog 9 strR w.heap.size (sumL (L.take k)) (allD (L.take k)) ∧ Below w.heap.size w wr)
    (fun i _ => L.length - (intOf i).toNat)
  case atStart => exact ⟨0, Nat.zero_le _, rfl, hO0, hB0⟩
  case round =>
    obtain ⟨k, hk, rfl, hO, hBr⟩ := hrel
    by_cases hlt : k < L.length
    · have hke : k < els.length := by omega
      obtain ⟨g, rfl⟩ : ∃ g, sa = some ⟨g, 0, none⟩ := by
        rcases e1.2 with ⟨_, h0⟩ | ⟨g, cap, cur, e, _⟩
        · omega
        · simp only [Value.slice.injEq] at e
          exact ⟨g, e.1⟩
      have ha : (⟨g, 0, none⟩ : Addr).add k = ⟨g, k, none⟩ := by unfold Addr.add; split <;> simp_all
      have hce0 := e1.cells (g := g) rfl k (.map (some els[k].1)) (by simp [hke])
      rw [ha] at hce0
      have hce := cellB hBr hce0 (lt_of_cell hce0)
      have hM0 := e3 els[k] (List.getElem_mem hke)
      have hM := hM0.of_block (hBr.block _ hM0.lt)
      have hLk : L[k] = els[k].2 := by simp [← e2]
      have hsum := hsm.take k hlt
      have hks := hsm.2 L[k] (List.getElem_mem hlt)
      have h1 := hsm.1
      have hbl := hM0.lt
      rw [hLk] at hsum hks
      have htk : L.take (k + 1) = L.take k ++ [els[k].2] := by rw [take_snoc L k hlt, hLk]
      clear hce0 hM0 hLk
      generalize els[k] = ek at *
      obtain ⟨eb, em⟩ := ek
      simp only at hce hM hsum hks htk hbl
      have hOs := hM.owns Try.underlying9 (by unfold maxLen; omega) hks
      go_wp2_with (go_at_call 19; go_loud (refine (copy_c _ _ _ _ _ _ _ hO hOs (by omega) (by rw [size_datD]; unfold maxLen; omega)).mono ?_; rintro e w5 ⟨rfl, hO5, _, hg5⟩))
      go_roundw
      case rel =>
        refine ⟨k + 1, by omega, by simp, ?_, hBr.grown hg5 hBr.size (fun j e => by cases e; exact Nat.le_refl _)⟩
        rw [htk, allD_snoc, sumL_snoc]
        rw [size_datD] at hO5
        exact hO5
      case measure => simp [intOf]; omega
    · obtain rfl : k = L.length := by omega
      rename World => wb
      rw [List.take_length] at hO
      obtain ⟨es0, hD, hap, hkeys⟩ := hO.entries key_law
      rw [hD] at hO
      have hkD : keptD L = .map (es0.filter keepE) := by unfold keptD; rw [hD]; rfl
      have h1 := hsm.1
      go_wp2_with (first | (at_range; go_loud (refine wpList_range_own _ rfl _ 61 rfl 9 9 key_law Try.underlying61 strR w.heap.size _ _ rfl hO ?_; intro w6 hrg0 hg0 hs0)) | go_in)
      go_frame
      go_loopw [6] (fun _ wq => ∃ (left : Lit → Bool) (cnt : Nat), wq.ranges Try.prog 9 strR w.heap.size wb.heap.size (sumL L) (Ks es0 left) left cnt ∧ Below w.heap.size w wq)
        (fun _ wq => wq.rangeLeft w.heap.size wb.heap.size)
      case atStart => exact ⟨_, _, by rw [Ks_start hkeys]; exact hrg0, hBr.grown hg0 hBr.size (fun j e => by cases e)⟩
      case round =>
        obtain ⟨left, cnt, hrg, hBq⟩ := hrel
        rename World => wq
        have hrn := hrg.ne
        have hrl := hrg.lt
        have hszq := hBr.size
        go_wp2_with (first | (at_next; go_loud (refine wpList_next_ranges _ rfl _ rfl 9 key_law strR Value.string Value.string (fun key kl hk => by obtain ⟨x, e, _⟩ := Maps.keyOf_str Try.underlying9 hk; exact ⟨_, e⟩) (fun v y hv => by obtain ⟨s, e, _⟩ := strR_inv hv; exact ⟨s, e⟩) w.heap.size wb.heap.size (sumL L) _ _ _ rfl hrg ?_ ?_)) | go_in)
        · intro _ hl0
          rw [Ks_end hl0, ← hkD] at hrg
          have hOk := hrg.owns
          have hszk : Maps.size (keptD L) ≤ sumL L := hOk.size_le
          have hso := sorted_c _ _ _ wq hOk (by unfold maxLen; omega) (by omega)
          go_wp2_with (first | (go_at_call 21; refine (keys_c _ _).mono ?_; rintro e w7 ⟨rfl, rfl⟩) | (have _t := hso; go_at_call 20; go_loud (refine hso.mono ?_; clear hso; rintro e w8 ⟨v, ss, rfl, hS, hrow, hnil, hb8⟩; obtain ⟨ka, kc, rfl⟩ := row_slice hrow)))
          have hsk : (ss.mergeSort fun x y => decide (x ≤ y)) = (strKeys (keptD L)).mergeSort fun x y => decide (x ≤ y) := mergeSort_of_perm hS
          rw [hsk] at hrow
          have hlen : ss.length = (bindsL L).length := by unfold bindsL; rw [List.length_map, List.length_mergeSort, hS.length_eq]
          have hlek : ss.length = ((strKeys (keptD L)).mergeSort fun x y => decide (x ≤ y)).length := by rw [List.length_mergeSort, hS.length_eq]
          have hlsz : ss.length ≤ sumL L := by
            have := hS.length_eq
            have e4 : (strKeys (keptD L)).length = Maps.size (keptD L) := by rw [hkD]; simp [strKeys, Maps.size]
            omega
          have hq8 : Below w.heap.size w w8 := (hBq.alloc hBq.size _).trans (hb8.mono (by have := hBq.size; simp; omega))
          have hwq := hBq.size
          have hmq : w.heap.size < wq.heap.size := hOk.lt
          obtain ⟨i0, hi, hz0, hz1, hz2⟩ := info_parts infoB
          go_loopw [8, 44] (fun v i wz => ∃ j : Nat, j ≤ ss.length ∧ i = .int .i64 j ∧ wz.ownsRow w8.heap.size 52 2 v j (flatB ((bindsL L).take j)) ∧ Below w8.heap.size w8 wz)
            (fun _ i _ => ss.length - (intOf i).toNat)
          case atStart => exact ⟨0, Nat.zero_le _, rfl, World.ownsRow_nil _ _ _ _, Below.refl _ _⟩
          case round =>
            rename World => wz
            obtain ⟨j, hj, rfl, hov, hBz⟩ := hrel
            by_cases hjl : j < ss.length
            · have hjs : j < ((strKeys (keptD L)).mergeSort fun x y => decide (x ≤ y)).length := by omega
              have hjb : j < (bindsL L).length := by omega
              obtain ⟨g, rfl⟩ : ∃ g, ka = some ⟨g, 0, none⟩ := by
                rcases hrow.2 with ⟨_, h0⟩ | ⟨g, cap, cur, e, _⟩
                · omega
                · simp only [Value.slice.injEq] at e
                  exact ⟨g, e.1⟩
              have ha : (⟨g, 0, none⟩ : Addr).add j = ⟨g, j, none⟩ := by unfold Addr.add; split <;> simp_all
              have hce0 := hrow.cells (g := g) rfl j (encStr ((strKeys (keptD L)).mergeSort fun x y => decide (x ≤ y))[j]) (by simp [hjs])
              rw [ha] at hce0
              have hce := cellB hBz hce0 (lt_of_cell hce0)
              have hmem : ((strKeys (keptD L)).mergeSort fun x y => decide (x ≤ y))[j] ∈ strKeys (keptD L) := (List.mergeSort_perm _ _).mem_iff.1 (List.getElem_mem hjs)
              have hbj := bindsL_get L j hjb hjs
              have hO8 : wz.ownsMap Try.prog 9 strR w.heap.size (sumL L) (keptD L) := by
                obtain ⟨es, clock, hb, F, hs, hD⟩ := hOk
                exact ⟨es, clock, (hBz.block _ (by have := hb8.size; simp at this; omega)).trans ((hb8.block _ (by simp; omega)).trans ((Below.heap_alloc _ _ _ hmq).trans hb)), F, hs, hD⟩
              generalize ((strKeys (keptD L)).mergeSort fun x y => decide (x ≤ y))[j] = x at *
              have hxl : x.length ≤ maxLen := by
                obtain ⟨es, hDk, hkk⟩ := hO8.keysOf
                rw [hDk] at hmem
                obtain ⟨q, hq, rfl⟩ := List.mem_map.1 hmem
                obtain ⟨v, hv⟩ := hkk q hq
                obtain ⟨x', _, e5, h6⟩ := Maps.keyOf_str Try.underlying9 hv
                rw [e5]
                exact h6
              have hz : (zeroValue 9).run Try.prog wz = .ok (.string ⟨#[]⟩) wz := by kernel_rfl
              have hkx : keyOf Try.prog 9 (encStr x) = some (.string x) := keyOf_str_mk Try.underlying9 (s := ⟨x.toArray⟩) (by simpa [ByteArray.size] using hxl)
              obtain ⟨v0, ps, hrun, hR⟩ := hO8.lookup key_law Try.underlying61 hz (zd := .lit (.string [])) (zp := []) rfl hkx
              obtain ⟨s, rfl, hy⟩ := strR_inv hR
              have hbs : (bindsL L)[j] = (⟨x.toArray⟩, s) := by
                rw [hbj, (Prod.mk.inj hy).1]
                rfl
              have hrow2 := flatB_take (bindsL L) j hjb
              rw [hbs] at hrow2
              have hnews := cells_new wz [.string ⟨x.toArray⟩, .string s] 52
              go_wp2_with (at_builtin; go_loud (refine wpList_append_own_at _ rfl _ _ 49 rfl w8.heap.size 52 i0 (.agg #[.string ⟨#[]⟩, .string ⟨#[]⟩]) 2 32 Try.underlying49 hi hz0 hz1 hz2 rfl (by decide) _ _ _ rfl (hov.alloc _) ⟨wz.heap.size, 0, none⟩ 1 1 [.string ⟨x.toArray⟩, .string s] rfl rfl hnews (by simp [Value.oneCell']) (by unfold maxLen; omega) (by omega) (by have := hBz.size; simp; omega) ?_; intro v9 w9 hown9 hg9 _ hloc9))
              go_roundw
              case rel =>
                refine ⟨v9, _, .int .i64 ((j : Int) + 1), ⟨j + 1, by omega, by simp, by rw [hrow2]; exact hown9, ?_⟩, rfl, rfl, rfl⟩
                refine (hBz.alloc hBz.size _).grown hg9 (by have := hBz.size; simp; omega) (fun k e => ?_)
                exact (hov.lt k e).1
              case measure => simp [intOf]; omega
            · obtain rfl : j = ss.length := by omega
              go_wp2
              go_ret
              rw [List.take_of_length_le (by omega), hlen] at hov
              exact ⟨_, rfl, own_weaken hov (by have := hq8.size; omega), hq8.trans (hBz.mono hq8.size)⟩
        · intro x c kl y yp w1 cnt1 hkey hlx hv hat hrg1 hlt1 hg1 hs1 hen
          have hq1 := hBq.grown hg1 hBq.size (fun j e => by cases e; exact hszq)
          obtain rfl : kl = .string x.data.toList := by
            obtain ⟨x', ex, e, _⟩ := Maps.keyOf_str Try.underlying9 hkey
            rw [e, Value.string.inj ex]
          rw [strR_mk] at hv
          cases hv
          have hkp := keep_of' x c
          have hkk : WideAt.IsKeyLit (Lit.string x.data.toList) := key_law.key hkey
          go_wp2_with (first | (at_delete; go_loud (refine wpList_delete_ranges _ rfl _ _ 61 9 rfl 9 key_law Try.underlying61 strR w.heap.size wb.heap.size (sumL L) _ _ _ rfl hrg1 _ _ rfl hkey ?_; intro w2 cnt2 hrg2 hle hturn; go_frame)) | go_in)
          all_goals try rw [strike_twice] at hrg2
          all_goals first
            | exact ⟨⟨_, cnt2, by rw [← Ks_struck hap hkk hlx hat (by rw [hkp]; first | (simp [*]; done) | (simp_all; done))]; exact hrg2, hq1.grown hturn.grown hq1.size (fun j e => by cases e; exact Nat.le_refl _)⟩, by rw [hrg2.left_eq, hrg.left_eq]; omega⟩
            | exact ⟨⟨_, cnt1, by rw [← Ks_stays hap hkk hlx hat (by rw [hkp]; simp [*])]; exact hrg1, hq1⟩, by rw [hrg1.left_eq, hrg.left_eq]; exact hlt1⟩
end Go.Proofs.YtdelafoijplleaaN
