/- What is proved: the law NsCloses answers true. Conditions: the acts read as they lie. -/
import Derived.Test.YtdelafoijplleaaNsClosesLaw
import Derived.Test.YtdelafoijplleaaNsSame
import Derived.StillTailTactics
set_option linter.unusedVariables false
namespace Go.Proofs.YtdelafoijplleaaN
open Go.RowKit Go.Shelf Go.Proofs.YtdelafoijplleaaW.PrintWords
theorem ActsAt.below {w w' : World} {la : Option Addr} {acts : List AC} (h : ActsAt w la acts) (hb : Below w.heap.size w w') : ActsAt w' la acts := by
  intro i hi
  obtain ⟨q, av, e, c1, c2, c3, hx⟩ := h i hi
  exact ⟨q, av, e, cellB hb c1 (lt_of_cell c1), cellB hb c2 (lt_of_cell c2), cellB hb c3 (lt_of_cell c3), hx.below hb⟩
theorem OpenOut.plain {w W : World} {p : Nat} {sv : Value} {at_ : Int} {r : Except (Int × Int) ((ByteArray × ByteArray) × List NA) × List Binds} {e : Ending} (h : OpenOut w p sv at_ r e W) :
    ∃ sv' v0 v1 v2, e = .returned (.tuple #[v0, v1, v2]) ∧ Sc W p sv' r.2 ∧ Fr w W p sv ∧ (sv'.ownBlock = sv.ownBlock ∨ ∃ k, sv'.ownBlock = some k ∧ w.heap.size ≤ k) := by
  obtain ⟨sv', h1, h2, h3, h4⟩ := h
  obtain ⟨r1, L⟩ := r
  cases r1 with
  | error x =>
    obtain ⟨pl, er⟩ := x
    exact ⟨sv', _, _, _, h4, h1, h2, h3⟩
  | ok x =>
    obtain ⟨n, l⟩ := x
    obtain ⟨sl, he, _⟩ := h4
    exact ⟨sv', _, _, _, he, h1, h2, h3⟩
theorem take_drop {α : Type} (L0 M : List α) (j : Nat) (h : 0 < j) (hj : j ≤ M.length) : (L0 ++ M.take j).dropLast = L0 ++ M.take (j - 1) := by
  obtain ⟨i, rfl⟩ : ∃ i, j = i + 1 := ⟨j - 1, by omega⟩
  rw [take_snoc M i (by omega), ← List.append_assoc, List.dropLast_concat, Nat.add_sub_cancel]
theorem row_at {w : World} {base n size : Nat} {e : TypeId} {a : Option Addr} {c m : Nat} {xs : List Value} (h : w.ownsRow base e size (.slice a m c) n xs) (hn : 0 < n) : ∃ g, a = some ⟨g, 0, none⟩ := by
  rcases h.2 with ⟨_, h0⟩ | ⟨g, cap, cur, e, _⟩
  · omega
  · simp only [Value.slice.injEq] at e
    exact ⟨g, e.1⟩
theorem row_max {w : World} {base n size : Nat} {e : TypeId} {v : Value} {xs : List Value} (h : w.ownsRow base e size v n xs) : n ≤ 9223372036854775807 := by
  rcases h.2 with ⟨_, h0⟩ | ⟨g, cap, cur, _, _, _, h1, h2, _⟩
  · omega
  · unfold maxLen at h2
    omega
theorem flatB_get : ∀ (l : List (ByteArray × ByteArray)) (i : Nat) (h : i < l.length), (flatB l)[i * 2]? = some (.string l[i].1) ∧ (flatB l)[i * 2 + 1]? = some (.string l[i].2)
  | x :: t, 0, _ => by simp [flatB]
  | x :: t, i + 1, h => by
    obtain ⟨h1, h2⟩ := flatB_get t i (by simpa using h)
    have e : flatB (x :: t) = [.string x.1, .string x.2] ++ flatB t := by simp [flatB]
    rw [e]
    refine ⟨?_, ?_⟩
    · rw [show (i + 1) * 2 = 2 + i * 2 by omega, List.getElem?_append_right (by simp)]
      simpa using h1
    · rw [show (i + 1) * 2 + 1 = 2 + (i * 2 + 1) by omega, List.getElem?_append_right (by simp)]
      simpa using h2
/-- A name in block B and a row of bindings that stay while the scope is written. -/
def KeepW (p B : Nat) (rs rl : ByteArray) (v : Value) (bl : List (ByteArray × ByteArray)) (wr : World) (sv : Value) : Prop :=
  p < B ∧ wr.cell? ⟨B, 0, none⟩ = some (.string rs) ∧ wr.cell? ⟨B, 1, none⟩ = some (.string rl) ∧ wr.ownsRow (B + 1) 52 2 v bl.length (flatB bl) ∧ (∀ b, v.ownBlock = some b → sv.ownBlock ≠ some b) ∧ sv.ownBlock ≠ some B
theorem KeepW.below {p B : Nat} {rs rl : ByteArray} {v : Value} {bl : List (ByteArray × ByteArray)} {wr w' : World} {sv : Value} (h : KeepW p B rs rl v bl wr sv) (hb : Below wr.heap.size wr w') : KeepW p B rs rl v bl w' sv := by
  obtain ⟨h0, h1, h2, h3, h4, h5⟩ := h
  exact ⟨h0, cellB hb h1 (lt_of_cell h1), cellB hb h2 (lt_of_cell h2), ownsRow_of_blocks h3 (fun b e => hb.block b (h3.lt b e).2), h4, h5⟩
theorem KeepW.fr {p B : Nat} {rs rl : ByteArray} {v : Value} {bl : List (ByteArray × ByteArray)} {wr w' : World} {sv sv' : Value} (h : KeepW p B rs rl v bl wr sv) (hF : Fr wr w' p sv) (hl : sv'.ownBlock = sv.ownBlock ∨ ∃ k, sv'.ownBlock = some k ∧ wr.heap.size ≤ k) : KeepW p B rs rl v bl w' sv' := by
  obtain ⟨h0, h1, h2, h3, h4, h5⟩ := h
  have hB := lt_of_cell h1
  have hn : B ≠ p := by omega
  refine ⟨h0, hF.cell h1 hn h5, hF.cell h2 hn h5, ownsRow_of_blocks h3 (fun b e => hF.block b (h3.lt b e).2 (by have := (h3.lt b e).1; omega) (h4 b e)), fun b e => own_ne hl (h3.lt b e).2 (h4 b e), own_ne hl hB h5⟩
def scLen (p : Nat) (w : World) : Nat := match w.cell? ⟨p, 0, none⟩ with
  | some (.slice _ n _) => n
  | _ => 0
theorem Sc.scLen {w : World} {p : Nat} {sv : Value} {L : List Binds} (h : Sc w p sv L) : scLen p w = L.length := by
  obtain ⟨a, cap, rfl⟩ := h.slice
  unfold YtdelafoijplleaaN.scLen
  rw [h.cell]
set_option maxRecDepth 100000 in
set_option maxHeartbeats 8000000 in
theorem closes_c (la lb : Option Addr) (lc ld : Nat) (acts more : List AC) (ask : ByteArray) (w : World) (hA : ActsAt w la acts) (hM : ActsAt w lb more) (hbA : BigA acts) (hbM : BigA more) :
    Calls Try.prog 4 #[.slice la acts.length lc, .slice lb more.length ld, .string ask] w fun e W' => e = .returned (.bool true) ∧ Below w.heap.size w W' := by
  have hkn := known_c w
  go_enter Try.func4, Try.ntmps4
  go_wp2_with (first | (have _t := hkn; go_at_call 6; refine hkn.mono ?_; clear hkn; rintro e w1 ⟨rfl, hb1⟩; have hf1 := few_c la lc acts w1 (hA.below hb1) hbA) | (have _t := hf1; go_at_call 11; go_loud (refine hf1.mono ?_; clear hf1; rintro e w2 ⟨b1, rfl, hfin1, hb2⟩; have hb2w := hb1.trans (hb2.mono hb1.size); have hf2 := few_c lb ld more w2 (hM.below hb2w) hbM; cases b1)) | (have _t := hf2; go_at_call 11; go_loud (refine hf2.mono ?_; clear hf2; rintro e w3 ⟨b2, rfl, hfin2, hb3⟩; have hb3w := hb2w.trans (hb3.mono hb2w.size); cases b2)) | (go_at_call 7; refine (new_c' _).mono ?_; rintro e w4 ⟨p, hpw, rfl, hS4, hb4⟩))
  all_goals first | (go_ret; exact ⟨rfl, hb3w⟩) | (go_ret; exact ⟨rfl, hb2w⟩) | skip
  have hfA : Fine acts := by simpa using hfin1
  have hfM : Fine more := by simpa using hfin2
  have hwp : w.heap.size ≤ p := by have := hb3w.size; omega
  have hB4 : Below w.heap.size w w4 := hb3w.trans (hb4.mono hb3w.size)
  go_loopw [8] (fun i wr => ∃ (k : Nat) (sv : Value), k ≤ acts.length ∧ i = .int .i64 k ∧ Sc wr p sv (actsS [] (acts.take k)) ∧ (∀ b, sv.ownBlock = some b → w.heap.size ≤ b) ∧ Below w.heap.size w wr)
    (fun i _ => acts.length - (intOf i).toNat)
  case atStart => exact ⟨0, _, Nat.zero_le _, rfl, hS4, fun b hb => by simp [Value.ownBlock] at hb, hB4⟩
  case round =>
    rename World => wr
    obtain ⟨k, sv, hk, rfl, hS, hsw, hBr⟩ := hrel
    by_cases hlt : k < acts.length
    · obtain ⟨q, av, rfl, c1, c2, c3, hx⟩ := hA k hlt
      obtain ⟨aa, acap, rfl, hcs⟩ := id hx
      obtain ⟨av, hav0⟩ : ∃ av, av = Value.slice aa acts[k].attrs.length acap := ⟨_, rfl⟩
      rw [← hav0] at c2 hx
      have hfa : FineA acts[k] := hfA.2 _ (List.getElem_mem hlt)
      have htk := take_snoc acts k hlt
      have hbd := Bd.acts (acts.take k) Bd.nil (fun a ha => hfA.2 a (List.mem_of_mem_take ha))
      have hkl : (acts.take k).length = k := by rw [List.length_take]; omega
      have hfl := hfA.1
      have d1 : wr.drew.cell? ⟨(q.add (k * 4)).block, (q.add (k * 4)).off + 1, none⟩ = some (.string acts[k].name) := cellB hBr c1 (lt_of_cell c1)
      have d2 : wr.drew.cell? ⟨(q.add (k * 4)).block, (q.add (k * 4)).off + 2, none⟩ = some av := cellB hBr c2 (lt_of_cell c2)
      have hxr : XAttrs wr.drew av acts[k].attrs := hx.below hBr.drew
      have hSd : Sc wr.drew p sv (actsS [] (acts.take k)) := hS.below ((Below.refl _ wr).drew)
      have hav : acts[k].attrs ≠ [] → ∀ b, av.ownBlock = some b → sv.ownBlock ≠ some b ∧ b ≠ p := by
        intro hne b hb
        rw [hav0] at hb
        obtain ⟨q', rfl, e0, _⟩ := hcs 0 (List.length_pos_iff.2 hne)
        have hl := lt_of_cell e0
        rw [add_block] at hl
        have e9 : q'.block = b := Option.some.inj hb
        exact ⟨fun e => by have := hsw b e; omega, fun e => by omega⟩
      generalize acts[k] = ac at hfa htk d1 hxr hav hav0
      subst hav0
      have ho := open_c0 hSd (by have := hbd.len; omega) 1 0 ac.name ⟨#[]⟩ (.slice aa ac.attrs.length acap) ac.attrs (by have := hfa.1; omega) hxr (by have := hfa.2.1; omega) (fun x hx => by have := hfa.2.2 x hx; omega) hav
      go_wp2
      go_still_tail 12, (by kernel_rfl)
      change wpList _ _ _ _ _ wr.drew
      have hBd : Below w.heap.size w wr.drew := hBr.drew
      go_wp2_with (have _t := ho; go_at_call 8; go_loud (refine ho.mono ?_; clear ho; rintro e wN hoN; obtain ⟨svN, v0, v1, v2, rfl, hSN, hFN, hlN⟩ := hoN.plain))
      refine ⟨⟨k + 1, svN, by omega, by simp, by rw [htk, actsS_snoc]; exact hSN, ?_, hFN.below hwp hsw hBd hBd.size⟩, by simp [intOf]; omega⟩
      intro b hb5
      rcases hlN with e | ⟨j, e, hj⟩
      · exact hsw b (by rw [← e]; exact hb5)
      · rw [e] at hb5
        cases hb5
        exact Nat.le_trans hBd.size hj
    · obtain rfl : k = acts.length := by omega
      rename World => wl
      rw [List.take_length] at hS
      have hbd0 := Bd.acts acts Bd.nil hfA.2
      have hlA := hfA.1
      have hlM := hfM.1
      rw [Nat.zero_add] at hbd0
      obtain ⟨M, hLM⟩ := actsS_more more (actsS [] acts)
      generalize actsS [] acts = L0 at hS hbd0 hLM
      have hl0 := hbd0.len
      obtain ⟨bl, hbl⟩ : ∃ bl, bindsL L0 = bl := ⟨_, rfl⟩
      have hres := Resolve_c hS (by omega) ask (by omega)
      obtain ⟨⟨⟨rs, rl⟩, re⟩, hrv⟩ : ∃ rv, resolveS L0 ask false = rv := ⟨_, rfl⟩
      rw [hrv] at hres
      unfold nameV at hres
      simp only at hres
      go_wp2_with (first | (have _t := hres; go_at_call 9; go_loud (refine hres.mono ?_; clear hres; rintro e w5 ⟨rfl, hb5⟩; have hS5 := (hS.below hb5).alloc (.cells #[.string rs, .string rl] 30); have hbn := binds_all hS5 (by omega) (hbd0.small (by omega)); rw [hbl] at hbn)) | (have _t := hbn; go_at_call 12; go_loud (refine hbn.mono ?_; clear hbn; rintro e w6 ⟨v6, rfl, hr6, hb6⟩; obtain ⟨a6, c6, rfl⟩ := row_slice hr6; have hS6 := hS5.below hb6; have hdp := depth_c hS6)) | (have _t := hdp; go_at_call 10; go_loud (refine hdp.mono ?_; clear hdp; rintro e w7 ⟨rfl, hw7⟩; subst w7)))
      have hB5 := hBr.trans (hb5.mono hBr.size)
      have hs5 := hb5.size
      have hsl := hS.lt
      have hB6 : Below w.heap.size w w6 := (hB5.alloc hB5.size (.cells #[.string rs, .string rl] 30)).trans (hb6.mono (by have := hB5.size; simp; omega))
      have hK : KeepW p w5.heap.size rs rl (.slice a6 bl.length c6) bl w6 sv := ⟨by omega, cellB hb6 (new_cell w5 #[.string rs, .string rl] 30 0 rfl) (by simp), cellB hb6 (new_cell w5 #[.string rs, .string rl] 30 1 rfl) (by simp), by rw [World.size_alloc] at hr6; exact hr6, fun b e e2 => by have h8 := (hr6.lt b e).1; have h9 := hS.own_lt e2; simp only [World.size_alloc] at h8; omega, fun e2 => by have h9 := hS.own_lt e2; omega⟩
      clear hr6 hb6 hb5
      go_loopw [13] (fun i wr => ∃ (k : Nat) (sv : Value), k ≤ more.length ∧ i = .int .i64 k ∧ Sc wr p sv (actsS L0 (more.take k)) ∧ (∀ b, sv.ownBlock = some b → w.heap.size ≤ b) ∧ Below w.heap.size w wr ∧ KeepW p w5.heap.size rs rl (.slice a6 bl.length c6) bl wr sv)
        (fun i _ => more.length - (intOf i).toNat)
      case atStart => exact ⟨0, _, Nat.zero_le _, rfl, hS6, hsw, hB6, hK⟩
      case round =>
        rename World => wr
        obtain ⟨k, sv, hk, rfl, hS, hsw, hBr, hKr⟩ := hrel
        by_cases hlt : k < more.length
        · obtain ⟨q, av, rfl, c1, c2, c3, hx⟩ := hM k hlt
          obtain ⟨aa, acap, rfl, hcs⟩ := id hx
          obtain ⟨av, hav0⟩ : ∃ av, av = Value.slice aa more[k].attrs.length acap := ⟨_, rfl⟩
          rw [← hav0] at c2 hx
          have hfa : FineA more[k] := hfM.2 _ (List.getElem_mem hlt)
          have htk := take_snoc more k hlt
          have hbd := Bd.acts (more.take k) hbd0 (fun a ha => hfM.2 a (List.mem_of_mem_take ha))
          have hkl : (more.take k).length = k := by rw [List.length_take]; omega
          have hfl := hfM.1
          have d1 : wr.drew.cell? ⟨(q.add (k * 4)).block, (q.add (k * 4)).off + 1, none⟩ = some (.string more[k].name) := cellB hBr c1 (lt_of_cell c1)
          have d2 : wr.drew.cell? ⟨(q.add (k * 4)).block, (q.add (k * 4)).off + 2, none⟩ = some av := cellB hBr c2 (lt_of_cell c2)
          have hxr : XAttrs wr.drew av more[k].attrs := hx.below hBr.drew
          have hSd : Sc wr.drew p sv (actsS L0 (more.take k)) := hS.below ((Below.refl _ wr).drew)
          have hav : more[k].attrs ≠ [] → ∀ b, av.ownBlock = some b → sv.ownBlock ≠ some b ∧ b ≠ p := by
            intro hne b hb
            rw [hav0] at hb
            obtain ⟨q', rfl, e0, _⟩ := hcs 0 (List.length_pos_iff.2 hne)
            have hl := lt_of_cell e0
            rw [add_block] at hl
            have e9 : q'.block = b := Option.some.inj hb
            exact ⟨fun e => by have := hsw b e; omega, fun e => by omega⟩
          generalize more[k] = ac at hfa htk d1 hxr hav hav0
          subst hav0
          have ho := open_c0 hSd (by have := hbd.len; omega) 1 0 ac.name ⟨#[]⟩ (.slice aa ac.attrs.length acap) ac.attrs (by have := hfa.1; omega) hxr (by have := hfa.2.1; omega) (fun x hx => by have := hfa.2.2 x hx; omega) hav
          go_wp2
          go_still_tail 12, (by kernel_rfl)
          change wpList _ _ _ _ _ wr.drew
          have hBd : Below w.heap.size w wr.drew := hBr.drew
          go_wp2_with (have _t := ho; go_at_call 8; go_loud (refine ho.mono ?_; clear ho; rintro e wN hoN; obtain ⟨svN, v0, v1, v2, rfl, hSN, hFN, hlN⟩ := hoN.plain))
          refine ⟨⟨k + 1, svN, by omega, by simp, by rw [htk, actsS_snoc]; exact hSN, ?_, hFN.below hwp hsw hBd hBd.size, (hKr.below ((Below.refl _ wr).drew)).fr hFN hlN⟩, by simp [intOf]; omega⟩
          intro b hb5
          rcases hlN with e | ⟨j, e, hj⟩
          · exact hsw b (by rw [← e]; exact hb5)
          · rw [e] at hb5
            cases hb5
            exact Nat.le_trans hBd.size hj
        · obtain rfl : k = more.length := by omega
          rename World => wm
          rw [List.take_length, hLM] at hS
          go_wp2
          go_loopw [82] (fun _ wr => ∃ (j : Nat) (sc : Value), j ≤ M.length ∧ Sc wr p sc (L0 ++ M.take j) ∧ (∀ b, sc.ownBlock = some b → w.heap.size ≤ b) ∧ Below w.heap.size w wr ∧ KeepW p w5.heap.size rs rl (.slice a6 bl.length c6) bl wr sc)
            (fun _ wr => scLen p wr)
          case atStart => exact ⟨M.length, _, Nat.le_refl _, by rw [List.take_length]; exact hS, hsw, hBr, hKr⟩
          case round =>
            rename World => wc
            obtain ⟨j, sc, hj, hSc, hsc, hBc, hKc⟩ := hrel
            have hML : (L0 ++ M).length ≤ 120 := by
              have h9 := (Bd.acts more hbd0 hfM.2).len
              rw [hLM] at h9
              omega
            have hjl : (L0 ++ M.take j).length = L0.length + j := by rw [List.length_append, List.length_take]; omega
            have hjm : L0.length + j ≤ 120 := by rw [List.length_append] at hML; omega
            have hdp := depth_c hSc
            rw [hjl] at hdp
            rcases Nat.eq_zero_or_pos j with rfl | hpos
            · rw [List.take_zero, List.append_nil] at hSc
              have hres := Resolve_c hSc (by omega) ask (by omega)
              rw [hrv] at hres
              unfold nameV at hres
              simp only at hres
              go_wp2_with (first | (have _t := hdp; go_at_call 10; go_loud (refine hdp.mono ?_; clear hdp; rintro e w7 ⟨rfl, hw7⟩; subst w7)) | (have _t := hres; go_at_call 9; go_loud (refine hres.mono ?_; clear hres; rintro e w9 ⟨rfl, hb9⟩; have hS9 := (hSc.below hb9).alloc (.cells #[.string rs, .string rl] 30); have hK9 := (hKc.below hb9).below ((Below.refl _ w9).alloc (Nat.le_refl _) (.cells #[.string rs, .string rl] 30)); have hbn := binds_all hS9 (by omega) (hbd0.small (by omega)); rw [hbl] at hbn)) | (have _t := hbn; go_at_call 12; go_loud (refine hbn.mono ?_; clear hbn; rintro e w10 ⟨v10, rfl, hr10, hb10⟩; obtain ⟨a10, c10, rfl⟩ := row_slice hr10; obtain ⟨k0, k1, k2, k3, k4, k5⟩ := hK9.below hb10; have n0 := cellB hb10 (new_cell w9 #[.string rs, .string rl] 30 0 rfl) (by simp); have n1 := cellB hb10 (new_cell w9 #[.string rs, .string rl] 30 1 rfl) (by simp))))
              have hbm := row_max k3
              have hB9 := hBc.trans (hb9.mono hBc.size)
              have hBf : Below w.heap.size w w10 := (hB9.alloc hB9.size (.cells #[.string rs, .string rl] 30)).trans (hb10.mono (by have := hB9.size; simp; omega))
              go_loopw [17] (fun i wr => ∃ k : Nat, k ≤ bl.length ∧ i = .int .i64 k ∧ Below w10.heap.size w10 wr)
                (fun i _ => bl.length - (intOf i).toNat)
              case atStart => exact ⟨0, Nat.zero_le _, rfl, Below.refl _ _⟩
              case round =>
                rename World => wz
                obtain ⟨k, hk, rfl, hBz⟩ := hrel
                by_cases hlt : k < bl.length
                · obtain ⟨g6, rfl⟩ : ∃ g, a6 = some ⟨g, 0, none⟩ := row_at k3 (by omega)
                  obtain ⟨g10, rfl⟩ : ∃ g, a10 = some ⟨g, 0, none⟩ := row_at hr10 (by omega)
                  obtain ⟨f0, f1⟩ := flatB_get bl k hlt
                  have r0 := k3.cells (g := g6) rfl _ _ f0
                  have r1 := k3.cells (g := g6) rfl _ _ f1
                  have s0 := hr10.cells (g := g10) rfl _ _ f0
                  have s1 := hr10.cells (g := g10) rfl _ _ f1
                  rw [plain_add, Nat.zero_add] at r0 r1 s0 s1
                  have r0' := cellB hBz r0 (lt_of_cell r0)
                  have r1' := cellB hBz r1 (lt_of_cell r1)
                  have s0' := cellB hBz s0 (lt_of_cell s0)
                  have s1' := cellB hBz s1 (lt_of_cell s1)
                  generalize bl[k] = bk at r0' r1' s0' s1'
                  clear r0 r1 s0 s1 f0 f1
                  obtain ⟨b1, b2⟩ := bk
                  simp only at r0' r1' s0' s1'
                  go_wp2
                  go_region
                  go_wp2
                  exact ⟨⟨k + 1, by omega, by simp, hBz.drew⟩, by simp [intOf]; omega⟩
                · obtain rfl : k = bl.length := by omega
                  go_wp2
                  go_ret
                  exact ⟨rfl, hBf.trans (hBz.mono hBf.size)⟩
            · have hcl := close_some hSc (by rw [hjl]; omega) (fun e => by rw [e] at hjl; simp at hjl; omega)
              have hd := take_drop L0 M j hpos hj
              rw [hd] at hcl
              go_wp2_with (first | (have _t := hdp; go_at_call 10; go_loud (refine hdp.mono ?_; clear hdp; rintro e w7 ⟨rfl, hw7⟩; subst w7)) | (have _t := hcl; go_at_call 13; go_loud (refine hcl.mono ?_; clear hcl; rintro e w8 ⟨rfl, sv8, hS8, hsv8, hF8⟩)))
              have hw8 := hS8.scLen
              rw [List.length_append, List.length_take] at hw8
              refine ⟨⟨j - 1, sv8, by omega, hS8, fun b hb => hsc b (by rw [← hsv8]; exact hb), hF8.below hwp hsc hBc hBc.size, hKc.fr hF8 (.inl hsv8)⟩, by rw [hw8, hSc.scLen, hjl]; omega⟩
end Go.Proofs.YtdelafoijplleaaN
