/- What is proved: what the claims of this seat share, part 12: a program of ours merged it out of our own texts, the print's words and the laid shelf. Conditions: those of each. -/
import Derived.Test.YtgbodhlofebajaaDoorMB11
import Derived.Maps.AppendAt
import Derived.WalkSpells
set_option linter.unusedVariables false
set_option linter.unusedSimpArgs false
section
set_option linter.unusedVariables false
namespace Go.Proofs.YtgbodhlofebajaaDoorX
open Go.RowKit Go.Shelf Go.Proofs.YtgbodhlofebajaaDoor.PXmlBase Go.Proofs.YtgbodhlofebajaaDoorW.PrintWords
section
variable {P : Program} {ops : Array Oper} {rest : List Oper} {o : Oper} {a : Act} {Q : Exit → Act → World → Prop}
/-- append of a row onto an empty one that is not nil, and has no room. -/
theorem append_first {W : World} (hgd : o.guard = none) (s x : Operand) (t e : TypeId) (z : Value) (size bytes : Nat)
    (ho : o.op = .call { callee := .builtin .append, args := #[s, x], argTypes := #[t, t] })
    (ht : P.underlying t = some (.slice e)) (hinfo : (P.info? e).map (fun i => (i.zero, i.size, i.bytes)) = some (some z, size, bytes)) (hzs : z.cells.size = size)
    (b : Addr) (hs : a.eval s = .slice (some b) 0 0)
    (ad : Addr) (m c : Nat) (news : List Value) (hx : a.eval x = .slice (some ad) m c) (hl : news.length = m * size) (hnews : ∀ j u, news[j]? = some u → W.cell? (ad.add j) = some u)
    (hm : 0 < m) (h63 : m ≤ maxLen) (hbytes : m * bytes ≤ 140737488355328)
    (h : ∀ cap zs, m ≤ cap → wpList P ops Q rest (a.put o.dst (.slice (some ⟨W.heap.size, 0, none⟩) m cap)) (W.drew.alloc (.cells (news.toArray ++ zs) e))) :
    wpList P ops Q (o :: rest) a W := by
  obtain ⟨i0, hi, hzz⟩ := Option.map_eq_some_iff.1 hinfo
  simp only [Prod.mk.injEq] at hzz
  obtain ⟨hz0, hz1, hz2⟩ := hzz
  subst hz1
  subst hz2
  have hr := run_append_grow (P := P) W t o.type e i0 z ht hi hz0 b 0 0 [] (by simp) (by simp) ad m c news hl hnews (by omega) (by simp only [maxLen] at h63; omega) (growslice_fits (by omega) (by simpa using hbytes))
  refine wpList_plain hgd fun K hK => ?_
  unfold Oper.wp execOp
  simp only [ho, resolve, invoke, builtin, Sem.run_bind, Sem.run_pure, Result.andThen_ok, List.map_toArray, List.map_cons, List.map_nil, hs, hx, hr]
  refine hK _ _ ?_
  simp only [Nat.zero_add, Array.empty_append]
  exact h _ _ (grownCap_ge W m 0 e)
end
/-- A copy of bs that is new since w. -/
def CloneR (w : World) (bs : List Int) (e : Ending) (W : World) : Prop := ∃ A cap, e = .returned (.slice A bs.length cap) ∧ bs.length ≤ cap ∧ Below w.heap.size w W ∧ ∀ i (h : i < bs.length), ∃ g, A = some ⟨g, 0, none⟩ ∧ w.heap.size ≤ g ∧ W.cell? ⟨g, i, none⟩ = some (.int .u8 bs[i])
set_option maxRecDepth 100000 in
set_option maxHeartbeats 1000000 in
theorem clone_c {w : World} {ad : Option Addr} {c : Nat} {bs : List Int} (hlen : bs.length ≤ 1099511627776) (hnil : ad = none → bs = []) (hrow : ∀ a, ad = some a → ∀ j x, bs[j]? = some x → w.cell? (a.add j) = some (.int .u8 x)) :
    Calls Tryd.prog 29 #[.slice ad bs.length c] w (CloneR w bs) := by
  have q22 : ∀ (w : World) (a : Option Addr) (n c n' c' : Nat), (binOp .eql 25 (.slice a n c) (.slice none n' c')).run Tryd.prog w = .ok (.bool a.isNone) w := fun w a n c n' c' => Lib.run_eql_slice_nil w _ _ a n c n' c' Tryd.underlying25
  go_enter Tryd.func29, Tryd.ntmps29
  cases ad with
  | none =>
    have hb := hnil rfl
    subst hb
    go_wp2
    go_ret
    exact ⟨_, _, rfl, Nat.le_refl _, Below.refl _ _, fun i h => absurd h (by simp)⟩
  | some a =>
    by_cases h0 : bs.length = 0
    · rw [h0]
      go_wp2
      go_ret
      refine ⟨some ⟨w.heap.size, 0, none⟩, 0, ?_, by omega, (Below.refl _ _).alloc (Nat.le_refl _) _, fun i h => absurd h (by omega)⟩
      rw [h0]
      rfl
    · have hne : ∃ n, bs.length = n + 1 := ⟨bs.length - 1, by omega⟩
      have hnews : ∀ o, ∀ j u, (nums .u8 bs)[j]? = some u → (w.alloc o).cell? (a.add j) = some u := by
        intro o j u hu
        simp only [nums, List.getElem?_map, Option.map_eq_some_iff] at hu
        obtain ⟨x, hx, rfl⟩ := hu
        exact (World.cell?_of_block (alloc_old w o _ (lt_of_cell (hrow a rfl j x hx)))).trans (hrow a rfl j x hx)
      go_wp2_with (at_builtin; go_loud (refine append_first (by rfl) _ _ 25 5 (.int .u8 0) 1 1 (by rfl) Tryd.underlying25 (by kernel_rfl) (by rfl) _ (by rfl) a bs.length c (nums .u8 bs) (by rfl) (by simp [nums]) (hnews _) (by omega) (by unfold maxLen; omega) (by omega) ?_; intro cap zs hcap))
      go_ret
      refine ⟨_, cap, rfl, hcap, ((((Below.refl _ _).alloc (Nat.le_refl _) _).drew).alloc (by simp) _), fun i h => ⟨_, rfl, by simp, ?_⟩⟩
      have hh := heap_alloc_new (w.alloc (.cells #[] 5)) (.cells ((nums .u8 bs).toArray ++ zs) 5)
      refine (cell_of_row _ (w.heap.size + 1) i ((nums .u8 bs).toArray ++ zs) 5 (0, 0) ?_).trans ?_
      · have hs : (w.alloc (.cells #[] 5)).heap.size = w.heap.size + 1 := by simp
        rw [hs] at hh
        exact hh
      · simp [nums, Array.getElem?_append, h]
/-- A limit, or the most. -/
def limS (own most : Int) : Int := if own < 1 ∨ own > most then most else own
theorem limit_c (own most : Int) (w : World) : Calls Tryd.prog 28 #[.int .i64 own, .int .i64 most] w fun e w' => e = .returned (.int .i64 (limS own most)) ∧ ∃ n, w' = w.drewN n := by
  refine (xml_limit.calls own most (limS own most) w ?_).mono fun e w' hh => ⟨hh.1, hh.2.out⟩
  unfold xml_limit.f limS
  split
  · rw [if_pos (.inl (by assumption))]
  · split
    · rw [if_pos (.inr (by assumption))]
    · rw [if_neg (by omega)]
def limOf (d n a t : Int) : Lim := ⟨(limS d 64).toNat, (limS n 4096).toNat, (limS a 64).toNat, (limS t 4096).toNat⟩
theorem limS_le (o m : Int) (h : 1 ≤ m) : 1 ≤ limS o m ∧ limS o m ≤ m := by
  unfold limS
  split <;> omega
theorem limOf_ok (d n a t : Int) : LOk (limOf d n a t) := by
  have h1 := limS_le d 64 (by decide)
  have h2 := limS_le n 4096 (by decide)
  have h3 := limS_le a 64 (by decide)
  have h4 := limS_le t 4096 (by decide)
  exact ⟨by show (limS d 64).toNat ≤ _; omega, by show (limS n 4096).toNat ≤ _; omega, by show (limS a 64).toNat ≤ _; omega, by show (limS t 4096).toNat ≤ _; omega⟩
/-- A parser at its begin. -/
def st0 : St := ⟨0, 0, [], 0, 0, 0, [], 0, [], 0, 0⟩
theorem st0_inv (bs : List Int) (L : Lim) : Inv bs L st0 := ⟨⟨Nat.zero_le _, Nat.zero_le _, Nat.zero_le _, Nat.zero_le _, fun n h => (by cases h), Nat.zero_le _⟩, fun e => (by cases e), by decide, fun _ => rfl⟩
/-- The package-level variables lie in w. -/
def EnvW (w : World) : Prop := ∃ w0, Gl w0 ∧ Below w0.heap.size w0 w
/-- A new parser over bs. -/
def NewR (w : World) (bs : List Int) (L : Lim) (e : Ending) (W : World) : Prop := ∃ p T, e = .returned (.pointer (some ⟨p, 0, none⟩)) ∧ PS W p w.heap.size bs L st0 T ∧ Below w.heap.size w W ∧ T.rv = .slice none 0 0 ∧ T.tv = .slice none 0 0 ∧ T.ov = .slice none 0 0
/-- The box of the limits, behind the four stores. -/
abbrev lim4 (w : World) (n1 n2 n3 n4 : Nat) (l0 l1 l2 l3 l4 l5 a0 a1 a2 a3 : Value) : World :=
  ((((((((w.alloc (.cells #[l0, l1, l2, l3, l4, l5] 32)).drewN n1).setCell ⟨w.heap.size, 0, none⟩ a0).drewN n2).setCell ⟨w.heap.size, 1, none⟩ a1).drewN n3).setCell ⟨w.heap.size, 2, none⟩ a2).drewN n4).setCell ⟨w.heap.size, 3, none⟩ a3
theorem lim4_blk (w : World) (n1 n2 n3 n4 : Nat) (l0 l1 l2 l3 l4 l5 a0 a1 a2 a3 : Value) : (lim4 w n1 n2 n3 n4 l0 l1 l2 l3 l4 l5 a0 a1 a2 a3).heap[w.heap.size]? = some (.cells #[a0, a1, a2, a3, l4, l5] 32 (0, 0)) := by
  have h0 := heap_alloc_new w (.cells #[l0, l1, l2, l3, l4, l5] 32)
  unfold lim4
  generalize w.alloc (.cells #[l0, l1, l2, l3, l4, l5] 32) = W0 at *
  have h1 := blk_set (w := W0.drewN n1) (i := 0) (v := a0) h0
  generalize (W0.drewN n1).setCell ⟨w.heap.size, 0, none⟩ a0 = W1 at *
  have h2 := blk_set (w := W1.drewN n2) (i := 1) (v := a1) h1
  generalize (W1.drewN n2).setCell ⟨w.heap.size, 1, none⟩ a1 = W2 at *
  have h3 := blk_set (w := W2.drewN n3) (i := 2) (v := a2) h2
  generalize (W2.drewN n3).setCell ⟨w.heap.size, 2, none⟩ a2 = W3 at *
  exact blk_set (w := W3.drewN n4) (i := 3) (v := a3) h3
theorem Below.drewN {n k : Nat} {a b : World} (h : Below n a b) : Below n a (b.drewN k) := ⟨h.os, h.tape, h.output, h.size, h.block⟩
theorem lim4_below (w : World) (n1 n2 n3 n4 : Nat) (l0 l1 l2 l3 l4 l5 a0 a1 a2 a3 : Value) : Below w.heap.size w (lim4 w n1 n2 n3 n4 l0 l1 l2 l3 l4 l5 a0 a1 a2 a3) := by
  have h0 := (Below.refl w.heap.size w).alloc (Nat.le_refl _) (.cells #[l0, l1, l2, l3, l4, l5] 32)
  have h1 := (Below.drewN (k := n1) h0).setCell (p := ⟨w.heap.size, 0, none⟩) (Nat.le_refl _) a0
  have h2 := (Below.drewN (k := n2) h1).setCell (p := ⟨w.heap.size, 1, none⟩) (Nat.le_refl _) a1
  have h3 := (Below.drewN (k := n3) h2).setCell (p := ⟨w.heap.size, 2, none⟩) (Nat.le_refl _) a2
  exact (Below.drewN (k := n4) h3).setCell (p := ⟨w.heap.size, 3, none⟩) (Nat.le_refl _) a3
theorem lim4_elim {R : World → Prop} {w : World} {n1 n2 n3 n4 : Nat} {l0 l1 l2 l3 l4 l5 a0 a1 a2 a3 : Value} (h : ∀ W, W.heap[w.heap.size]? = some (.cells #[a0, a1, a2, a3, l4, l5] 32 (0, 0)) → Below w.heap.size w W → R W) : R (lim4 w n1 n2 n3 n4 l0 l1 l2 l3 l4 l5 a0 a1 a2 a3) := h _ (lim4_blk _ _ _ _ _ _ _ _ _ _ _ _ _ _ _) (lim4_below _ _ _ _ _ _ _ _ _ _ _ _ _ _ _)
theorem new_leaf {w w6 : World} {A6 : Option Addr} {cap6 : Nat} {bs : List Int} (hb : Bytes bs) (hE : EnvW w) (hlen : bs.length ≤ 1099511627776) (hb6 : Below w.heap.size w w6) (hcap : bs.length ≤ cap6) (hc : ∀ i (h : i < bs.length), ∃ g, A6 = some ⟨g, 0, none⟩ ∧ g < w6.heap.size ∧ w6.cell? ⟨g, i, none⟩ = some (.int .u8 bs[i])) (l0 l1 l2 l3 : Int) (v4 v5 : Value) :
    NewR w bs (limOf l0 l1 l2 l3) (.returned (.pointer (some ⟨w6.heap.size, 0, none⟩))) (w6.alloc (.cells #[.slice A6 bs.length cap6, .int .i64 (limS l0 64), .int .i64 (limS l1 4096), .int .i64 (limS l2 64), .int .i64 (limS l3 4096), v4, v5, .int .i64 0, .int .i64 0, .slice none 0 0, .int .i64 0, .int .i64 0, .int .i64 0, .slice none 0 0, .int .i64 0, .slice none 0 0, .int .i64 0, .int .i64 0] 80)) := by
  have h1 := limS_le l0 64 (by decide)
  have h2 := limS_le l1 4096 (by decide)
  have h3 := limS_le l2 64 (by decide)
  have h4 := limS_le l3 4096 (by decide)
  have e1 : (((limS l0 64).toNat : Nat) : Int) = limS l0 64 := Int.toNat_of_nonneg (by omega)
  have e2 : (((limS l1 4096).toNat : Nat) : Int) = limS l1 4096 := Int.toNat_of_nonneg (by omega)
  have e3 : (((limS l2 64).toNat : Nat) : Int) = limS l2 64 := Int.toNat_of_nonneg (by omega)
  have e4 : (((limS l3 4096).toNat : Nat) : Int) = limS l3 4096 := Int.toNat_of_nonneg (by omega)
  have hn := heap_alloc_new w6 (.cells #[.slice A6 bs.length cap6, .int .i64 (limS l0 64), .int .i64 (limS l1 4096), .int .i64 (limS l2 64), .int .i64 (limS l3 4096), v4, v5, .int .i64 0, .int .i64 0, .slice none 0 0, .int .i64 0, .int .i64 0, .int .i64 0, .slice none 0 0, .int .i64 0, .slice none 0 0, .int .i64 0, .int .i64 0] 80)
  have hbl := (Below.refl w6.heap.size w6).alloc (Nat.le_refl _) (.cells #[.slice A6 bs.length cap6, .int .i64 (limS l0 64), .int .i64 (limS l1 4096), .int .i64 (limS l2 64), .int .i64 (limS l3 4096), v4, v5, .int .i64 0, .int .i64 0, .slice none 0 0, .int .i64 0, .int .i64 0, .int .i64 0, .slice none 0 0, .int .i64 0, .slice none 0 0, .int .i64 0, .int .i64 0] 80)
  generalize w6.alloc _ = W at *
  have hx : ∀ k, PX w6.heap.size ⟨.slice A6 bs.length cap6, v4, v5, .slice none 0 0, .slice none 0 0, .slice none 0 0⟩ k → k = w6.heap.size := by
    intro k hk
    rcases hk with hk | hk | hk | hk
    · exact hk
    · cases hk
    · cases hk
    · cases hk
  refine ⟨w6.heap.size, ⟨.slice A6 bs.length cap6, v4, v5, .slice none 0 0, .slice none 0 0, .slice none 0 0⟩, rfl, ⟨fun i => ?_, fun i => blk_frz hn i, ⟨A6, cap6, rfl, hcap, fun i hi => ?_⟩, hb, hlen, RowAt.nil _ _ _, RowAt.nil _ _ _, ⟨[], RowAt.nil _ _ _, rfl⟩, fun k hk => ?_, ?_, (by intro e; cases e), (by intro e; cases e), (by intro e; cases e), (by intro k e; cases e), (by intro k e; cases e), (by intro k e; cases e)⟩, hb6.trans (hbl.mono hb6.size), rfl, rfl, rfl⟩
  · rw [blk_cell hn i]
    unfold pcells limOf
    simp only [e1, e2, e3, e4]
    exact List.getElem?_toArray
  · obtain ⟨g, q1, q2, q3⟩ := hc i hi
    exact ⟨g, q1, fun hk => by have := hx g hk; omega, (World.cell?_of_block (hbl.block g q2)).trans q3⟩
  · rw [hx k hk]
    exact hb6.size
  · obtain ⟨w0, q1, q2⟩ := hE
    exact ⟨w0, q1, q2.trans ((hb6.trans (hbl.mono hb6.size)).mono q2.size), q2.size⟩
set_option maxRecDepth 100000 in
set_option maxHeartbeats 2000000 in
theorem new_c {w : World} {ad : Option Addr} {c : Nat} {bs : List Int} (hb : Bytes bs) (hE : EnvW w) (hlen : bs.length ≤ 1099511627776) (hnil : ad = none → bs = []) (hrow : ∀ a, ad = some a → ∀ j x, bs[j]? = some x → w.cell? (a.add j) = some (.int .u8 x)) (l0 l1 l2 l3 l4 l5 : Int) :
    Calls Tryd.prog 23 #[.slice ad bs.length c, .agg #[.int .i64 l0, .int .i64 l1, .int .i64 l2, .int .i64 l3, .int .i64 l4, .int .i64 l5]] w (NewR w bs (limOf l0 l1 l2 l3)) := by
  have hl := fun o m w => limit_c o m w
  go_enter Tryd.func23, Tryd.ntmps23
  go_wp2_with (first
    | (go_at_call 28; go_loud (refine (hl _ _ _).mono ?_; rintro e w1 ⟨rfl, n1, rfl⟩)))
  refine lim4_elim (R := fun w5 => Code.wp _ _ _ _ w5) ?_
  intro w5 hk5 hb5
  have hcl : ∀ w', Below w.heap.size w w' → Calls Tryd.prog 29 #[.slice ad bs.length c] w' (CloneR w' bs) := fun w' hb' => clone_c hlen hnil (fun a ha j x hx => by
    exact (World.cell?_of_block (hb'.block _ (lt_of_cell (hrow a ha j x hx)))).trans (hrow a ha j x hx))
  have k0 : w5.cell? ⟨w.heap.size, 0, none⟩ = some (.int .i64 (limS l0 64)) := blk_cell hk5 0
  have k1 : w5.cell? ⟨w.heap.size, 1, none⟩ = some (.int .i64 (limS l1 4096)) := blk_cell hk5 1
  have k2 : w5.cell? ⟨w.heap.size, 2, none⟩ = some (.int .i64 (limS l2 64)) := blk_cell hk5 2
  have k3 : w5.cell? ⟨w.heap.size, 3, none⟩ = some (.int .i64 (limS l3 4096)) := blk_cell hk5 3
  have k4 : w5.cell? ⟨w.heap.size, 4, none⟩ = some (.int .i64 l4) := blk_cell hk5 4
  have k5 : w5.cell? ⟨w.heap.size, 5, none⟩ = some (.int .i64 l5) := blk_cell hk5 5
  have hN5 : w.heap.size < w5.heap.size := lt_of_cell k0
  have hmv : ∀ w' w6, Below w'.heap.size w' w6 → (w' = w5 ∨ w' = w5.drew) → Below w.heap.size w w6 ∧ w.heap.size < w6.heap.size ∧ (∀ i v, w5.cell? ⟨w.heap.size, i, none⟩ = some v → w6.cell? ⟨w.heap.size, i, none⟩ = some v) ∧ w.heap.size < w'.heap.size := by
    intro w' w6 h4 h2
    have h1 : Below w.heap.size w w' := by
      rcases h2 with rfl | rfl
      · exact hb5
      · exact hb5.drew
    have h3 : w'.heap = w5.heap := by
      rcases h2 with rfl | rfl
      · rfl
      · rfl
    have h5 : w.heap.size < w'.heap.size := by rw [h3]; exact hN5
    exact ⟨h1.trans (h4.mono h1.size), Nat.lt_of_lt_of_le h5 h4.size, fun i v hv => (World.cell?_of_block ((h4.block _ h5).trans (by rw [h3]))).trans hv, h5⟩
  clear hrow hnil
  go_region_with (go_at_call 29; go_loud (refine (hcl _ (by first | exact hb5 | exact hb5.drew)).mono ?_; rintro e w6 ⟨A6, cap6, rfl, hcap6, hb6, hc6⟩; obtain ⟨hb56, hl56, hc56, hN6⟩ := hmv _ _ hb6 (by first | exact .inl rfl | exact .inr rfl); clear hmv hcl; have m0 := hc56 0 _ k0; have m1 := hc56 1 _ k1; have m2 := hc56 2 _ k2; have m3 := hc56 3 _ k3; have m4 := hc56 4 _ k4; have m5 := hc56 5 _ k5))
  all_goals (try go_wp2_with fail)
  all_goals
    go_ret
    refine new_leaf hb hE hlen hb56 hcap6 (fun i hi => ?_) l0 l1 l2 l3 _ _
    obtain ⟨g, e1, e2, e3⟩ := hc6 i hi
    exact ⟨g, e1, lt_of_cell e3, e3⟩
/-- Fault. -/
theorem fault_c {w : World} {p B : Nat} {bs : List Int} {L : Lim} {s : St} {T : Tv} (h : PS w p B bs L s T) :
    Calls Tryd.prog 25 #[.pointer (some ⟨p, 0, none⟩)] w fun e W => e = .returned (.tuple #[.int .i64 s.fat, .int .i64 s.ferr]) ∧ ∃ n, W = w.drewN n := by
  have h16 : w.cell? ⟨p, 16, none⟩ = some (.int .i64 s.fat) := h.cells 16
  have h17 : w.cell? ⟨p, 17, none⟩ = some (.int .i64 s.ferr) := h.cells 17
  go_enter Tryd.func25, Tryd.ntmps25
  go_wp2
  go_quiet (fail)
  go_wp2
  refine bodyPost_ret (v := .tuple #[.int .i64 s.fat, .int .i64 s.ferr]) (by simp [results, Tryd.f25, go_sem]) rfl ⟨rfl, _, rfl⟩
end Go.Proofs.YtgbodhlofebajaaDoorX
end
section
set_option linter.unusedVariables false
namespace Go.Proofs.YtgbodhlofebajaaDoorX
open Go.RowKit Go.Shelf Go.Proofs.YtgbodhlofebajaaDoor.PXmlBase Go.Proofs.YtgbodhlofebajaaDoorW.PrintWords
/-- What is still to come, at most. -/
def muS (n : Nat) (s : St) : Nat := if s.state = 3 then 0 else 1 + 20 * (n - s.at_) + s.ready.length
def muW (n p : Nat) (w : World) : Nat := match w.cell? ⟨p, 8, none⟩ with
  | some (.int _ 3) => 0
  | _ => 1 + 20 * (n - atOf p w) + (match w.cell? ⟨p, 15, none⟩ with
    | some (.slice _ k _) => k
    | _ => 0)
theorem PS.muw {w : World} {p B : Nat} {bs : List Int} {L : Lim} {s : St} {T : Tv} (h : PS w p B bs L s T) (n : Nat) : muW n p w = muS n s := by
  obtain ⟨cs, hc, _⟩ := h.ready
  obtain ⟨A, c, hT, _⟩ := hc.slice
  have h15 : w.cell? ⟨p, 15, none⟩ = some (.slice A s.ready.length c) := (h.cells 15).trans (congrArg some hT)
  have h8 : w.cell? ⟨p, 8, none⟩ = some (.int .i64 s.state) := h.cells 8
  have h7 := h.atOf
  unfold muW muS
  rw [h15, h8, h7]
  by_cases h3 : s.state = 3
  · rw [if_pos h3, h3]
    rfl
  · rw [if_neg h3]
    split
    · rename_i e
      simp at e
      omega
    · rfl
theorem Sim.mu {s t : St} (h : Sim s t) (n : Nat) : muS n s = muS n t := by
  rcases h with rfl | ⟨h1, h2, _⟩
  · rfl
  · unfold muS
    rw [if_pos h1, if_pos h2]
/-- All that Next tells, one behind the other; where the parser stands then. -/
def allL (bs : List Int) (L : Lim) : Nat → St → List XE × St
  | 0, t => ([], t)
  | k + 1, t => match nextE bs L t with
    | (none, u) => ([], u)
    | (some x, u) => (x :: (allL bs L k u).1, (allL bs L k u).2)
def restL (bs : List Int) (L : Lim) (k : Nat) : Option XE → St → List XE × St
  | none, u => ([], u)
  | some x, u => (x :: (allL bs L k u).1, (allL bs L k u).2)
theorem allL_rest (bs : List Int) (L : Lim) (k : Nat) (t : St) : allL bs L (k + 1) t = restL bs L k (nextE bs L t).1 (nextE bs L t).2 := by
  show (match nextE bs L t with
    | (none, u) => ([], u)
    | (some x, u) => (x :: (allL bs L k u).1, (allL bs L k u).2)) = _
  rcases nextE bs L t with ⟨_ | x, u⟩
  · rfl
  · rfl
def allE (bs : List Int) (L : Lim) : List XE × St := allL bs L (muS bs.length st0 + 1) st0
theorem fill_good {bs : List Int} {L : Lim} {t : St} (hb : Bytes bs) (h : Inv bs L t) (h3 : t.state = 3 → t.ready = []) :
    ((fillE bs L t).state = 3 ∧ (fillE bs L t).ready = []) ∨ ((fillE bs L t).state ≠ 3 ∧ (fillE bs L t).ready ≠ [] ∧ Inv bs L (fillE bs L t) ∧ (fillE bs L t).at_ ≤ bs.length ∧ muS bs.length (fillE bs L t) ≤ muS bs.length t) := by
  unfold fillE
  split
  · rename_i hc
    obtain ⟨hr, h4⟩ := hc
    unfold stepE
    split
    · rename_i s1 hs
      obtain ⟨k1, k2⟩ := body_good hb h hr h4 hs
      rcases k2 with ⟨k2, k3⟩ | ⟨k2, k3⟩
      · by_cases hs3 : s1.state = 3
        · exfalso
          unfold bodyS at hs
          have h5 := h.top
          split at hs
          · rename_i e
            unfold beginS at hs
            split at hs
            · cases hs
            · split at hs
              · rename_i hcc
                split at hs
                · cases hs
                · rename_i a ha
                  have g2 := (declaration_le hb (by omega) ha).2
                  have := (root_good hb h.good hr g2 hs).2.1.2.1
                  omega
              · have := (root_good hb h.good hr h.good.le hs).2.1.2.1
                omega
          · split at hs
            · have := (contentL_good hb _ _ _ h.good ⟨h.fin, by omega, by omega⟩ (by omega) hs).2.1.2.1
              omega
            · split at hs
              · unfold behindS at hs
                split at hs
                · cases hs
                · split at hs
                  · split at hs <;> cases hs
                  · cases hs
                    exact k2 hr
              · omega
        · refine .inr ⟨hs3, k2, k1, k1.good.le, ?_⟩
          unfold muS
          rw [if_neg hs3, if_neg h4, hr]
          have := k1.good.few
          have := k1.good.le
          simp only [List.length_nil]
          omega
      · exact .inl ⟨k3, k2⟩
    · exact .inl ⟨rfl, hr⟩
  · rename_i hc
    by_cases h4 : t.state = 3
    · exact .inl ⟨h4, h3 h4⟩
    · exact .inr ⟨h4, fun e => hc ⟨e, h4⟩, h, h.good.le, Nat.le_refl _⟩
theorem next_good {bs : List Int} {L : Lim} {t : St} (hb : Bytes bs) (h : Inv bs L t) (h3 : t.state = 3 → t.ready = []) :
    match nextE bs L t with
    | (none, u) => u.state = 3
    | (some _, u) => u.state ≠ 3 ∧ Inv bs L u ∧ muS bs.length u < muS bs.length t := by
  have hf := fill_good hb h h3
  unfold nextE popE
  cases hr : (fillE bs L t).ready with
  | nil =>
    rcases hf with ⟨h1, _⟩ | ⟨_, h2, _⟩
    · exact h1
    · exact absurd hr h2
  | cons x r =>
    rcases hf with ⟨_, h2⟩ | ⟨h1, h2, h4, h5, h6⟩
    · rw [h2] at hr
      cases hr
    · refine ⟨h1, ⟨⟨h4.good.le, h4.good.nodes, h4.good.opn, h4.good.text, h4.good.names, ?_⟩, h4.fin, h4.top, h4.zero⟩, ?_⟩
      · have := h4.good.few
        rw [hr] at this
        simp only [List.length_cons] at this
        show r.length ≤ 10
        omega
      · refine Nat.lt_of_lt_of_le ?_ h6
        unfold muS
        rw [if_neg h1]
        simp only [h1, if_false]
        rw [hr, List.length_cons]
        omega
def zero5 : List Value := [.int .i64 0, .int .i64 0, .string ⟨#[]⟩, .string ⟨#[]⟩, .slice none 0 0]
theorem ownsRow_of_blocks {w w' : World} {base : Nat} {e : TypeId} {size : Nat} {v : Value} {n : Nat} {xs : List Value} (h : w.ownsRow base e size v n xs) (hb : ∀ k, v.ownBlock = some k → w'.heap[k]? = w.heap[k]?) : w'.ownsRow base e size v n xs := by
  refine ⟨h.1, ?_⟩
  rcases h.2 with h2 | ⟨g, cap, cur, rfl, h3, hg, r⟩
  · exact .inl h2
  · exact .inr ⟨g, cap, cur, rfl, h3, (hb g (by simp [Value.ownBlock])).trans hg, r⟩
theorem RowAt.of_own {w : World} {base : Nat} {e : TypeId} {size : Nat} {v : Value} {n : Nat} {xs : List Value} (h : w.ownsRow base e size v n xs) : RowAt w e size v n xs := by
  refine ⟨h.1, ?_⟩
  rcases h.2 with h2 | ⟨g, cap, cur, rfl, h3, hg, h4, h5, h6, h7⟩
  · exact .inl h2
  · exact .inr ⟨g, 0, cap, cur, rfl, hg, h4, h5, by omega, by simpa using h7⟩
/-- The cells of the event that stands next, or of none. -/
def EvCells (w : World) (X : Nat → Prop) (o : Option XE) (ec : List Value) : Prop := match o with
  | none => ec = zero5
  | some x => EvRows w X [x] ec
/-- The cells of what Next tells. -/
def EvOut (W : World) (p : Nat) (T : Tv) (o : Option XE) (ec : List Value) : Prop := match o with
  | none => ec = zero5
  | some x => ∃ av, ec = [.int .i64 x.kind, .int .i64 x.at_, txt x.name, txt x.text, av] ∧ AttrRow W av x.attrs ∧ ∀ k, av.ownBlock = some k → ¬ PX p T k
/-- Between two rounds of All. -/
structure AL (w wr : World) (p : Nat) (bs : List Int) (L : Lim) (R : List XE × St) (ov : Value) (q : Nat) (o : Option XE) (s t : St) (T : Tv) (es : List XE) (ec : List Value) : Prop where
  ps : PS wr p w.heap.size bs L s T
  sim : Sim s t
  live : o.isSome = true → Inv bs L t ∧ t.state ≠ 3
  below : Below w.heap.size w wr
  row : ∃ cs, wr.ownsRow w.heap.size 35 5 ov es.length cs ∧ EvRows wr (PX p T) es cs
  rowf : ∀ k, ov.ownBlock = some k → ¬ PX p T k ∧ k ≠ q
  nil0 : es = [] → ov = .slice none 0 0
  blk : wr.heap[q]? = some (.cells ec.toArray 35 (0, 0))
  qf : w.heap.size ≤ q
  qx : ¬ PX p T q
  ev : EvCells wr (PX p T) o ec
  len : es.length + muS bs.length t + (if o.isSome = true then 1 else 0) ≤ 20000100
  res : ∃ k, (o.isSome = true → muS bs.length t < k) ∧ R = (es ++ (restL bs L k o t).1, (restL bs L k o t).2)
theorem EvRows.on {w w' : World} {X X' : Nat → Prop} (hb : ∀ k c, w.heap[k]? = some (.cells c 37 (0, 0)) → ¬ X k → w'.heap[k]? = w.heap[k]? ∧ ¬ X' k) : ∀ {es : List XE} {cs : List Value}, EvRows w X es cs → EvRows w' X' es cs
  | [], cs, h => h
  | x :: t, cs, h => by
    obtain ⟨av, rest, h1, h2, h3, h4⟩ := h
    refine ⟨av, rest, h1, RowAt.move h2 (fun k hk => ?_), fun k hk => ?_, h4.on hb⟩
    · rcases h2.2 with ⟨rfl, _⟩ | ⟨g, off, cap, cur, rfl, hg, _⟩
      · simp [Value.ownBlock] at hk
      · simp [Value.ownBlock] at hk
        subst hk
        exact (hb _ _ hg (h3 _ (by simp [Value.ownBlock]))).1
    · rcases h2.2 with ⟨rfl, _⟩ | ⟨g, off, cap, cur, rfl, hg, _⟩
      · simp [Value.ownBlock] at hk
      · simp [Value.ownBlock] at hk
        subst hk
        exact (hb _ _ hg (h3 _ (by simp [Value.ownBlock]))).2
/-- Behind a call of Next. -/
theorem AL.mk2 {w w8 W Wf : World} {p q : Nat} {bs : List Int} {L : Lim} {R : List XE × St} {ov : Value} {s' t : St} {T T' : Tv} {es : List XE} {cs ec : List Value}
    (hI : Inv bs L t) (h3 : t.state = 3 → t.ready = [])
    (hS : PS Wf p w.heap.size bs L s' T') (hsim : Sim s' (nextE bs L t).2) (hFx : Fx w8 W p T T')
    (hag : ∀ k, k < W.heap.size → k ≠ q → Wf.heap[k]? = W.heap[k]?) (hqW : ∀ c, W.heap[q]? ≠ some (.cells c 37 (0, 0))) (hb : Below w.heap.size w Wf)
    (hrow : w8.ownsRow w.heap.size 35 5 ov es.length cs) (hev : EvRows w8 (PX p T) es cs) (hrowf : ∀ k, ov.ownBlock = some k → ¬ PX p T k ∧ k ≠ q) (hnil : es = [] → ov = .slice none 0 0)
    (hblk : Wf.heap[q]? = some (.cells ec.toArray 35 (0, 0))) (hqf : w.heap.size ≤ q) (hqx : ¬ PX p T' q)
    (hout : EvOut W p T' (nextE bs L t).1 ec)
    (hlen : es.length + muS bs.length t ≤ 20000100) (hres : ∃ k, muS bs.length t < k ∧ R = (es ++ (allL bs L k t).1, (allL bs L k t).2)) :
    AL w Wf p bs L R ov q (nextE bs L t).1 s' (nextE bs L t).2 T' es ec := by
  have hg := next_good (L := L) hS.bytes hI h3
  have hmv : ∀ {es : List XE} {cs : List Value}, EvRows W (PX p T') es cs → EvRows Wf (PX p T') es cs := fun h => h.on (fun k c hk hx => ⟨hag k (blk_lt hk) (fun e => hqW c (e ▸ hk)), hx⟩)
  have hlt8 : ∀ k, k < w8.heap.size → ¬ PX p T k → ¬ PX p T' k := fun k hk hx hx2 => (hFx.grow k hx2).elim hx (by omega)
  refine ⟨hS, hsim, fun ho => ?_, hb, ⟨cs, ownsRow_of_blocks hrow (fun k hk => ?_), hmv (hev.on fun k c hk hx => ⟨hFx.block k (blk_lt hk) hx, hlt8 k (blk_lt hk) hx⟩)⟩, fun k hk => ?_, hnil, hblk, hqf, hqx, ?_, ?_, ?_⟩
  · cases hn : nextE bs L t with
    | mk o u =>
      rw [hn] at hg ho
      cases o with
      | none => cases ho
      | some x => exact ⟨hg.2.1, hg.1⟩
  · obtain ⟨h2, h4⟩ := hrowf k hk
    have hk8 := (hrow.lt k hk).2
    exact (hag k (Nat.lt_of_lt_of_le hk8 hFx.size) h4).trans (hFx.block k hk8 h2)
  · obtain ⟨h2, h4⟩ := hrowf k hk
    exact ⟨hlt8 k (hrow.lt k hk).2 h2, h4⟩
  · cases hn : nextE bs L t with
    | mk o u =>
      rw [hn] at hout
      cases o with
      | none => exact hout
      | some x =>
        obtain ⟨av, h1, h2, h4⟩ := hout
        exact hmv (es := [x]) ⟨av, [], h1, h2, h4, rfl⟩
  · cases hn : nextE bs L t with
    | mk o u =>
      rw [hn] at hg
      cases o with
      | none =>
        have : muS bs.length u = 0 := if_pos hg
        show es.length + muS bs.length u + 0 ≤ _
        omega
      | some x =>
        have := hg.2.2
        show es.length + muS bs.length u + 1 ≤ _
        omega
  · obtain ⟨k, hk, hr⟩ := hres
    cases k with
    | zero => omega
    | succ k =>
      rw [allL_rest] at hr
      refine ⟨k, fun ho => ?_, hr⟩
      cases hn : nextE bs L t with
      | mk o u =>
        rw [hn] at hg ho
        cases o with
        | none => cases ho
        | some x =>
          have := hg.2.2
          show muS bs.length u < k
          omega
/-- A row of events of the call's own has grown: the parser stands. -/
theorem PS.grew {w w' : World} {p B : Nat} {bs : List Int} {L : Lim} {s : St} {T : Tv} {row : Option Nat} (h : PS w p B bs L s T) (hg : w.grownBy w' row) (hv : ∀ k, row = some k → ¬ PX p T k ∧ B ≤ k ∧ ∃ cur z, w.heap[k]? = some (.cells cur 35 (0, 0)) ∧ cur[0]? = some (.int .i64 z)) : PS w' p B bs L s T := by
  have hset : ∀ k, k < w.heap.size → row ≠ some k → w'.heap[k]? = w.heap[k]? := fun k hk hx => hg.block k hk (fun e => hx e.symm)
  have hlt := h.xlt
  have hX : ∀ k, PX p T k → w'.heap[k]? = w.heap[k]? := fun k hk => hset k (hlt k hk) (fun e => (hv k e).1 hk)
  have hp := hX p (.inl rfl)
  refine ⟨fun j => (World.cell?_of_block hp).trans (h.cells j), fun j => (World.frozen?_of_block hp).trans (h.frz j), ?_, h.bytes, h.small, h.opn.move fun k hk => hX k (.inr (.inl hk)), h.text.move fun k hk => hX k (.inr (.inr (.inl hk))), ?_, h.base, ?_, h.po, h.pt, h.pr, h.ot, h.or_, h.tr⟩
  · obtain ⟨ba, cap, h1, h2, h3⟩ := h.row
    refine ⟨ba, cap, h1, h2, fun j hj => ?_⟩
    obtain ⟨g, e, hgx, hc⟩ := h3 j hj
    refine ⟨g, e, hgx, (World.cell?_of_block (hset g (lt_of_cell hc) (fun e2 => ?_))).trans hc⟩
    obtain ⟨g', e', _, hc'⟩ := h3 0 (by omega)
    rw [e'] at e
    cases e
    obtain ⟨_, _, cur, z, q1, q2⟩ := hv _ e2
    rw [blk_cell q1 0, q2] at hc'
    cases hc'
  · obtain ⟨cs, h1, h2⟩ := h.ready
    refine ⟨cs, h1.move fun k hk => hX k (.inr (.inr (.inr hk))), h2.on fun k c hk hx => ⟨hset k (blk_lt hk) (fun e => ?_), hx⟩⟩
    obtain ⟨_, _, cur, z, q1, q2⟩ := hv _ e
    rw [q1] at hk
    simp at hk
  · obtain ⟨w0, h1, h2, h3⟩ := h.env
    refine ⟨w0, h1, ⟨hg.os.trans h2.os, hg.tape.trans h2.tape, hg.output.trans h2.output, Nat.le_trans h2.size hg.size, fun k hk => (hset k (Nat.lt_of_lt_of_le hk h2.size) (fun e => ?_)).trans (h2.block k hk)⟩, h3⟩
    have := (hv k e).2.1
    omega
theorem PS.lower {w W : World} {p B : Nat} {bs : List Int} {L : Lim} {s : St} {T : Tv} (h : PS W p B bs L s T) (hE : EnvW w) (hb : Below w.heap.size w W) (hB : w.heap.size ≤ B) : PS W p w.heap.size bs L s T :=
  ⟨h.cells, h.frz, h.row, h.bytes, h.small, h.opn, h.text, h.ready, fun k hk => Nat.le_trans hB (h.base k hk), (by
    obtain ⟨w0, h1, h2⟩ := hE
    exact ⟨w0, h1, h2.trans (hb.mono h2.size), h2.size⟩), h.po, h.pt, h.pr, h.ot, h.or_, h.tr⟩
/-- The cells of what Next tells. -/
theorem OutNx.cells {W : World} {p : Nat} {T : Tv} {o : Option XE} {e : Ending} (h : OutNx W p T o e) : ∃ (k a : Int) (n t : ByteArray) (A : Option Addr) (m c : Nat), e = .returned (.tuple #[.agg #[.int .i64 k, .int .i64 a, .string n, .string t, .slice A m c], .bool o.isSome]) ∧ EvOut W p T o [.int .i64 k, .int .i64 a, .string n, .string t, .slice A m c] := by
  cases o with
  | none => exact ⟨0, 0, ⟨#[]⟩, ⟨#[]⟩, none, 0, 0, h, rfl⟩
  | some x =>
    obtain ⟨av, h1, h2, h3⟩ := h
    obtain ⟨A, c, rfl, _⟩ := h2.slice
    exact ⟨x.kind, x.at_, strOfNums x.name, strOfNums x.text, A, _, c, h1, _, rfl, h2, h3⟩
theorem w5s_blk {w : World} {b : Nat} {cs : Array Value} {t : TypeId} (h : w.heap[b]? = some (.cells cs t (0, 0))) (h5 : cs.size = 5) (x0 x1 x2 x3 x4 : Value) : (w5s w b x0 x1 x2 x3 x4).heap[b]? = some (.cells [x0, x1, x2, x3, x4].toArray t (0, 0)) := by
  unfold w5s
  have b1 := blk_set (i := 0) (v := x0) h
  generalize w.setCell ⟨b, 0, none⟩ x0 = w1 at *
  have b2 := blk_set (i := 1) (v := x1) b1
  generalize w1.setCell ⟨b, 1, none⟩ x1 = w2 at *
  have b3 := blk_set (i := 2) (v := x2) b2
  generalize w2.setCell ⟨b, 2, none⟩ x2 = w3 at *
  have b4 := blk_set (i := 3) (v := x3) b3
  generalize w3.setCell ⟨b, 3, none⟩ x3 = w4 at *
  have b5 := blk_set (i := 4) (v := x4) b4
  refine b5.trans (congrArg (fun a => some (Obj.cells a t (0, 0))) ?_)
  clear b1 b2 b3 b4 b5 h
  match cs, h5 with
  | ⟨[a0, a1, a2, a3, a4]⟩, _ => rfl
theorem all_round {w w7 W wr : World} {p q : Nat} {bs : List Int} {L : Lim} {R : List XE × St} {ov v7 : Value} {x : XE} {s s' t : St} {T T' : Tv} {es : List XE} {cs ec : List Value} {o5 : Array Value} {x0 x1 x2 x3 x4 : Value}
    (hA : AL w wr p bs L R ov q (some x) s t T es ec) (hS7 : PS w7 p w.heap.size bs L s T) (hb7 : Below w.heap.size w w7) (h05 : ∃ z, o5[0]? = some (.int .i64 z)) (h5 : o5.size = 5)
    (hown7 : w7.ownsRow w.heap.size 35 5 v7 (es.length + 1) (cs ++ ec)) (hev7 : EvRows w7 (PX p T) (es ++ [x]) (cs ++ ec)) (hv7 : ∀ k, v7.ownBlock = some k → ¬ PX p T k)
    (hF : Fx (w7.alloc (.cells o5 35)) W p T T') (hS' : PS W p w.heap.size bs L s' T') (hsim : Sim s' (nextE bs L t).2) (hout : EvOut W p T' (nextE bs L t).1 [x0, x1, x2, x3, x4]) :
    AL w (w5s W w7.heap.size x0 x1 x2 x3 x4) p bs L R v7 w7.heap.size (nextE bs L t).1 s' (nextE bs L t).2 T' (es ++ [x]) [x0, x1, x2, x3, x4] ∧ muW bs.length p (w5s W w7.heap.size x0 x1 x2 x3 x4) < muW bs.length p wr := by
  obtain ⟨hI, hst⟩ := hA.live rfl
  have hb8 := (Below.refl w7.heap.size w7).alloc (Nat.le_refl _) (.cells o5 35)
  have h78 : (w7.alloc (.cells o5 35)).heap.size = w7.heap.size + 1 := by simp
  have hblk8 := heap_alloc_new w7 (.cells o5 35)
  generalize w7.alloc (.cells o5 35) = w8 at *
  have hx7 : ¬ PX p T w7.heap.size := fun hx => Nat.lt_irrefl _ (hS7.xlt _ hx)
  have hxW : ¬ PX p T' w7.heap.size := fun hx => (hF.grow _ hx).elim hx7 (by omega)
  have hblkW := (hF.block _ (by omega) hx7).trans hblk8
  have hrow8 := ownsRow_of_blocks hown7 (w' := w8) (fun k hk => hb8.block k (hown7.lt k hk).2)
  have hev8 := hev7.on (w' := w8) (X' := PX p T) (fun k c hk hx => ⟨hb8.block k (blk_lt hk), hx⟩)
  have hbW : Below w.heap.size w W := by
    have hbx := hb7.trans (hb8.mono hb7.size)
    refine ⟨hF.os.trans hbx.os, hF.tape.trans hbx.tape, hF.output.trans hbx.output, Nat.le_trans hbx.size hF.size, fun k hk => (hF.block k (Nat.lt_of_lt_of_le hk hbx.size) (fun hx => ?_)).trans (hbx.block k hk)⟩
    have := hS7.base k hx
    omega
  have hSf := hS'.off5 hblkW h05 hxW hb7.size x0 x1 x2 x3 x4
  have hset := set5_block W w7.heap.size x0 x1 x2 x3 x4
  have hsz := w5s_size W w7.heap.size x0 x1 x2 x3 x4
  have hrest := w5s_rest W w7.heap.size x0 x1 x2 x3 x4
  have hblkf := w5s_blk hblkW h5 x0 x1 x2 x3 x4
  generalize w5s W w7.heap.size x0 x1 x2 x3 x4 = Wf at *
  have hmu1 := hSf.muw bs.length
  have hmu2 := hA.ps.muw bs.length
  have hg := next_good (L := L) hS7.bytes hI (fun e => absurd e hst)
  have hlen := hA.len
  simp only [Option.isSome_some, if_true] at hlen
  obtain ⟨k, hk, hr⟩ := hA.res
  refine ⟨AL.mk2 (w8 := w8) (W := W) hI (fun e => absurd e hst) hSf hsim hF (fun k _ hk => hset k hk) (fun c e => ?_) ⟨hrest.1.trans hbW.os, hrest.2.1.trans hbW.tape, hrest.2.2.trans hbW.output, by rw [hsz]; exact hbW.size, fun j hj => (hset j (by have := hb7.size; omega)).trans (hbW.block j hj)⟩ (by rw [List.length_append]; exact hrow8) hev8 (fun k hk => ⟨hv7 k hk, by have := (hown7.lt k hk).2; omega⟩) (fun e => absurd e (by simp)) hblkf hb7.size hxW hout (by rw [List.length_append, List.length_singleton]; omega) ⟨k, hk rfl, ?_⟩, ?_⟩
  · rw [hblkW] at e
    simp at e
  · rw [hr]
    simp [restL]
  · rw [hmu1, hmu2, hsim.mu, hA.sim.mu]
    revert hg
    cases nextE bs L t with
    | mk o u =>
      cases o with
      | none =>
        intro hg
        show muS bs.length u < _
        unfold muS
        rw [if_pos hg, if_neg hst]
        omega
      | some y =>
        intro hg
        exact hg.2.2
end Go.Proofs.YtgbodhlofebajaaDoorX
end
section
set_option linter.unusedVariables false
namespace Go.Proofs.YtgbodhlofebajaaDoorX
open Go.RowKit Go.Shelf Go.Proofs.YtgbodhlofebajaaDoor.PXmlBase Go.Proofs.YtgbodhlofebajaaDoorW.PrintWords
/-- All's answer. -/
def AllR (w : World) (R : List XE × St) (e : Ending) (W : World) : Prop := ∃ ov cs, e = .returned (.tuple #[ov, .int .i64 R.2.fat, .int .i64 R.2.ferr]) ∧ Below w.heap.size w W ∧ W.ownsRow w.heap.size 35 5 ov R.1.length cs ∧ EvRows W (fun _ => False) R.1 cs
section
variable {P : Program} {ops : Array Oper} {rest : List Oper} {o : Oper} {a : Act} {Q : Exit → Act → World → Prop}
/-- append onto a row of the call's own. -/
theorem append_own {W : World} (hgd : o.guard = none) (s x : Operand) (t e : TypeId) (z : Value) (size bytes : Nat)
    (ho : o.op = .call { callee := .builtin .append, args := #[s, x], argTypes := #[t, t] })
    (ht : P.underlying t = some (.slice e)) (hinfo : (P.info? e).map (fun i => (i.zero, i.size, i.bytes)) = some (some z, size, bytes)) (hzs : z.cells.size = size) (hsz : 0 < size)
    (base : Nat) (v : Value) (n : Nat) (xs : List Value) (hs : a.eval s = v) (hown : W.ownsRow base e size v n xs)
    (ad : Addr) (m c : Nat) (news : List Value) (hx : a.eval x = .slice (some ad) m c) (hl : news.length = m * size) (hnews : ∀ j u, news[j]? = some u → W.cell? (ad.add j) = some u) (h1 : ∀ u ∈ news, u.oneCell' = true)
    (h63 : n + m ≤ maxLen) (hbytes : (n + m) * bytes ≤ 140737488355328) (hbase : base ≤ W.heap.size)
    (h : ∀ v' w', w'.ownsRow base e size v' (n + m) (xs ++ news) → W.grownBy w' v.ownBlock → (v'.ownBlock = v.ownBlock ∨ v'.ownBlock = some W.heap.size) → wpList P ops Q rest (a.put o.dst v') w') :
    wpList P ops Q (o :: rest) a W := by
  obtain ⟨i0, hi, hzz⟩ := Option.map_eq_some_iff.1 hinfo
  simp only [Prod.mk.injEq] at hzz
  obtain ⟨hz0, hz1, hz2⟩ := hzz
  exact wpList_append_own_at W hgd s x t ho base e i0 z size bytes ht hi hz0 hz1 hz2 hzs hsz v n xs hs hown ad m c news hx hl hnews h1 h63 hbytes hbase fun v' w' q1 q2 _ q4 => h v' w' q1 q2 q4
end
theorem row_lit {w : World} {base n : Nat} {e : TypeId} {size : Nat} {v : Value} {xs : List Value} (h : w.ownsRow base e size v n xs) : ∃ a c, v = .slice a n c := by
  rcases h.2 with ⟨rfl, h0⟩ | ⟨g, cap, cur, rfl, _⟩
  · exact ⟨none, 0, by rw [h0]⟩
  · exact ⟨_, _, rfl⟩
theorem all_first {w w2 W : World} {p B : Nat} {bs : List Int} {L : Lim} {s' : St} {T T' : Tv} {k a : Int} {n t : ByteArray} {A : Option Addr} {m c : Nat} (hlen : bs.length ≤ 1000000)
    (hE : EnvW w) (hB : w.heap.size ≤ B) (hb2 : Below w.heap.size w w2) (hS : PS W p B bs L s' T') (hF : Fx w2 W p T T') (hx2 : ∀ k, PX p T k → w.heap.size ≤ k) (hsim : Sim s' (nextE bs L st0).2)
    (hout : EvOut W p T' (nextE bs L st0).1 [.int .i64 k, .int .i64 a, .string n, .string t, .slice A m c]) :
    AL w (W.alloc (.cells #[.int .i64 k, .int .i64 a, .string n, .string t, .slice A m c] 35)) p bs L (allE bs L) (.slice none 0 0) W.heap.size (nextE bs L st0).1 s' (nextE bs L st0).2 T' [] [.int .i64 k, .int .i64 a, .string n, .string t, .slice A m c] := by
  have hbW : Below w.heap.size w W := ⟨hF.os.trans hb2.os, hF.tape.trans hb2.tape, hF.output.trans hb2.output, Nat.le_trans hb2.size hF.size, fun k hk => (hF.block k (Nat.lt_of_lt_of_le hk hb2.size) (fun hx => by have := hx2 k hx; omega)).trans (hb2.block k hk)⟩
  have hbA := (Below.refl W.heap.size W).alloc (Nat.le_refl _) (.cells #[.int .i64 k, .int .i64 a, .string n, .string t, .slice A m c] 35)
  have hbf := hbW.trans (hbA.mono hbW.size)
  have hblk := heap_alloc_new W (.cells #[.int .i64 k, .int .i64 a, .string n, .string t, .slice A m c] 35)
  have hSf := (hS.below hbA).lower hE hbf hB
  have hlt := hS.xlt
  refine AL.mk2 (w8 := w2) (W := W) (st0_inv bs L) (fun e => by cases e) hSf hsim hF (fun k hk _ => hbA.block k hk) (fun c e => ?_) hbf (World.ownsRow_nil _ _ _ _) rfl (fun k hk => by cases hk) (fun _ => rfl) hblk hbW.size (fun hx => by have := hlt _ hx; omega) hout ?_ ⟨_, Nat.lt_succ_self _, rfl⟩
  · have := blk_lt e
    omega
  · show 0 + muS bs.length st0 ≤ _
    unfold muS st0
    simp
    omega
theorem all_grow {w wr : World} {p q : Nat} {bs : List Int} {L : Lim} {R : List XE × St} {Ao : Option Addr} {co : Nat} {x : XE} {s t : St} {T : Tv} {es : List XE} {ec cs : List Value} {Aa : Option Addr} {ca : Nat}
    (hA : AL w wr p bs L R (.slice Ao es.length co) q (some x) s t T es ec) (hcx : ([.int .i64 x.kind, .int .i64 x.at_, txt x.name, txt x.text, .slice Aa x.attrs.length ca] : List Value) = ec)
    (hown : wr.ownsRow w.heap.size 35 5 (.slice Ao es.length co) es.length cs) (hevs : EvRows wr (PX p T) es cs) : ∀ v7 w7, w7.ownsRow w.heap.size 35 5 v7 (es.length + 1) (cs ++ ec) → (wr.alloc (.cells ec.toArray 35)).grownBy w7 (Value.slice Ao es.length co).ownBlock →
      (v7.ownBlock = (Value.slice Ao es.length co).ownBlock ∨ v7.ownBlock = some (wr.alloc (.cells ec.toArray 35)).heap.size) →
      PS w7 p w.heap.size bs L s T ∧ Below w.heap.size w w7 ∧ EvRows w7 (PX p T) (es ++ [x]) (cs ++ ec) ∧ (∀ k, v7.ownBlock = some k → ¬ PX p T k) ∧
      w7.cell? ⟨q, 0, none⟩ = some (.int .i64 x.kind) ∧ w7.cell? ⟨q, 1, none⟩ = some (.int .i64 x.at_) ∧ w7.cell? ⟨q, 2, none⟩ = some (.string (strOfNums x.name)) ∧ w7.cell? ⟨q, 3, none⟩ = some (.string (strOfNums x.text)) ∧ w7.cell? ⟨q, 4, none⟩ = some (.slice Aa x.attrs.length ca) := by
  intro v7 w7 hown7 hg7 hat7
  have hql : q < wr.heap.size := blk_lt hA.blk
  have hba := (Below.refl wr.heap.size wr).alloc (Nat.le_refl _) (.cells ec.toArray 35)
  have hsa : (wr.alloc (.cells ec.toArray 35)).heap.size = wr.heap.size + 1 := by simp
  have hSa := hA.ps.below hba
  have hevx : EvRows wr (PX p T) [x] ec := hA.ev
  have heva := (hevs.append hevx).on (w' := wr.alloc (.cells ec.toArray 35)) (X' := PX p T) (fun k c hk hx => ⟨hba.block k (blk_lt hk), hx⟩)
  generalize wr.alloc (.cells ec.toArray 35) = wa at *
  have hrow : ∀ k, (Value.slice Ao es.length co).ownBlock = some k → ∃ cur z, wa.heap[k]? = some (.cells cur 35 (0, 0)) ∧ cur[0]? = some (.int .i64 z) := by
    intro k hk
    rcases hown.2 with ⟨e1, e2⟩ | ⟨g, cap, cur, e1, hg, h1, h2, h3, h4, h5⟩
    · rw [e1] at hk
      simp [Value.ownBlock] at hk
    · rw [e1] at hk
      simp [Value.ownBlock] at hk
      subst hk
      refine ⟨cur, ?_⟩
      cases es with
      | nil =>
        have := hA.nil0 rfl
        rw [e1] at this
        cases this
      | cons y r =>
        obtain ⟨a8, rest8, e8, _⟩ := hevs
        refine ⟨y.kind, (hba.block _ (blk_lt h1)).trans h1, ?_⟩
        rw [e8] at h5
        have : (cur.toList.take ((y :: r).length * 5))[0]? = some (.int .i64 y.kind) := by rw [h5]; rfl
        rw [List.getElem?_take] at this
        split at this
        · simpa using this
        · cases this
  have hk7 : ∀ k, k < wr.heap.size → (Value.slice Ao es.length co).ownBlock ≠ some k → w7.heap[k]? = wr.heap[k]? := fun k hk hn => (hg7.block k (by omega) (fun e => hn e.symm)).trans (hba.block k hk)
  have hqo : (Value.slice Ao es.length co).ownBlock ≠ some q := fun e => (hA.rowf q e).2 rfl
  have hS7 := hSa.grew hg7 (fun k hk => ⟨(hA.rowf k hk).1, (hown.lt k hk).1, hrow k hk⟩)
  have hsz := hA.below.size
  have hblk := (hk7 q hql hqo).trans hA.blk
  subst hcx
  refine ⟨hS7, ⟨hg7.os.trans (hba.os.trans hA.below.os), hg7.tape.trans (hba.tape.trans hA.below.tape), hg7.output.trans (hba.output.trans hA.below.output), Nat.le_trans hsz (Nat.le_trans hba.size hg7.size), fun k hk => (hk7 k (by omega) (fun e => by have := (hown.lt k e).1; omega)).trans (hA.below.block k hk)⟩, heva.on (fun k c hk hx => ⟨hg7.block k (blk_lt hk) (fun e => ?_), hx⟩), fun k hk hx => ?_, blk_cell hblk 0, blk_cell hblk 1, blk_cell hblk 2, blk_cell hblk 3, blk_cell hblk 4⟩
  · obtain ⟨cur, z, q1, _⟩ := hrow k e.symm
    rw [q1] at hk
    simp at hk
  · have hxl := hA.ps.xlt k hx
    rcases hat7 with e | e
    · exact (hA.rowf k (e ▸ hk)).1 hx
    · rw [hk] at e
      cases e
      omega
set_option maxRecDepth 100000 in
set_option maxHeartbeats 4000000 in
theorem all_c {w : World} {ad : Option Addr} {c : Nat} {bs : List Int} (hb : Bytes bs) (hE : EnvW w) (hlen : bs.length ≤ 1000000) (hnil : ad = none → bs = []) (hrow : ∀ a, ad = some a → ∀ j x, bs[j]? = some x → w.cell? (a.add j) = some (.int .u8 x)) (l0 l1 l2 l3 l4 l5 : Int) :
    Calls Tryd.prog 13 #[.slice ad bs.length c, .agg #[.int .i64 l0, .int .i64 l1, .int .i64 l2, .int .i64 l3, .int .i64 l4, .int .i64 l5]] w (AllR w (allE bs (limOf l0 l1 l2 l3))) := by
  have hn : ∀ w', Below w.heap.size w w' → Calls Tryd.prog 23 #[.slice ad bs.length c, .agg #[.int .i64 l0, .int .i64 l1, .int .i64 l2, .int .i64 l3, .int .i64 l4, .int .i64 l5]] w' (NewR w' bs (limOf l0 l1 l2 l3)) := fun w' hb' => new_c hb (by
    obtain ⟨w0, h1, h2⟩ := hE
    exact ⟨w0, h1, h2.trans (hb'.mono h2.size)⟩) (by omega) hnil (fun a ha j x hx => by
    exact (World.cell?_of_block (hb'.block _ (lt_of_cell (hrow a ha j x hx)))).trans (hrow a ha j x hx)) l0 l1 l2 l3 l4 l5
  have hL := limOf_ok l0 l1 l2 l3
  generalize limOf l0 l1 l2 l3 = L at *
  have hb1 := (Below.refl w.heap.size w).alloc (Nat.le_refl _) (.cells #[.int .i64 l0, .int .i64 l1, .int .i64 l2, .int .i64 l3, .int .i64 l4, .int .i64 l5] 32)
  go_enter Tryd.func13, Tryd.ntmps13
  clear hrow hnil
  have t1 := True.intro
  go_wp2_with (first
    | (have _t := t1
       go_at_call 23
       go_loud (clear _t t1
                refine (hn _ (by first | exact hb1 | exact hb1.drew)).mono ?_
                clear hn
                rintro e w2 ⟨p, T, rfl, hS2, hb2, e1, e2, e3⟩
                have hb12 := hb1.trans (hb2.mono hb1.size)
                have t2 := True.intro))
    | (have _t := t2
       go_at_call 24
       go_loud (clear _t t2
                refine (nextE_c hS2 hL (st0_inv bs L) (.inl rfl)).mono ?_
                rintro e w3 ⟨s3, T3, hS3, hF3, hsim3, hout3⟩
                obtain ⟨k3, a3, n3, t3, A3, m3, c3, rfl, hev3⟩ := hout3.cells)))
  have hAL := all_first hlen hE (by simp) hb12 hS3 hF3 (fun k hk => by have := hS2.base k hk; simp at this; omega) hsim3 hev3
  generalize (w3.alloc (.cells #[.int .i64 k3, .int .i64 a3, .string n3, .string t3, .slice A3 m3 c3] 35)) = w4 at *
  generalize hR : allE bs L = R at *
  generalize hoo : (nextE bs L st0).1 = o0 at *
  generalize (nextE bs L st0).2 = t0 at *
  go_loopw [8, 9, 10] (fun ov ev bv wr => ∃ (q : Nat) (o : Option XE) (s t : St) (T : Tv) (es : List XE) (ec : List Value), ev = .pointer (some ⟨q, 0, none⟩) ∧ bv = .bool o.isSome ∧ AL w wr p bs L R ov q o s t T es ec) (fun _ _ _ wr => muW bs.length p wr)
  case atStart => exact ⟨_, _, _, _, _, _, _, rfl, rfl, hAL⟩
  case round =>
    rename World => wr
    obtain ⟨q, o, s, t, T, es, ec, rfl, rfl, hA⟩ := hrel
    clear hAL
    obtain ⟨cs, hown, hevs⟩ := hA.row
    obtain ⟨Ao, co, eo⟩ := row_lit hown
    subst eo
    cases o with
    | none =>
      have hfc := fault_c hA.ps
      obtain ⟨k, _, hr⟩ := hA.res
      obtain ⟨_, _, f1, f2, _, _⟩ := hA.sim.eqs
      simp only [restL, List.append_nil] at hr
      go_wp2_with (go_at_call 25; go_loud (refine hfc.mono ?_; clear hfc; rintro e w9 ⟨rfl, n9, rfl⟩))
      refine bodyPost_ret (v := .tuple #[.slice Ao es.length co, .int .i64 s.fat, .int .i64 s.ferr]) (by
        simp [results, Tryd.f13, go_sem]
        exact ⟨f1.symm, f2.symm⟩) rfl ?_
      refine ⟨.slice Ao es.length co, cs, ?_, Below.drewN hA.below, ?_, ?_⟩
      · rw [hr, f1, f2]
      · rw [hr]
        exact hown
      · rw [hr]
        exact EvRows.on (w := wr) (w' := wr.drewN n9) (X' := fun _ => False) (fun k c _ _ => ⟨rfl, fun h => h⟩) hevs
    | some x =>
      obtain ⟨av, rest, hec, hav, hax, hrest⟩ := hA.ev
      rw [show rest = [] from hrest] at hec
      subst hec
      obtain ⟨Aa, ca, e9, _⟩ := hav.slice
      subst e9
      have hblk := hA.blk
      have hql : q < wr.heap.size := blk_lt hblk
      have z0 : wr.cell? ⟨q, 0, none⟩ = some (.int .i64 x.kind) := blk_cell hblk 0
      have z1 : wr.cell? ⟨q, 1, none⟩ = some (.int .i64 x.at_) := blk_cell hblk 1
      have z2 : wr.cell? ⟨q, 2, none⟩ = some (.string (strOfNums x.name)) := blk_cell hblk 2
      have z3 : wr.cell? ⟨q, 3, none⟩ = some (.string (strOfNums x.text)) := blk_cell hblk 3
      have z4 : wr.cell? ⟨q, 4, none⟩ = some (.slice Aa x.attrs.length ca) := blk_cell hblk 4
      generalize hcx : ([.int .i64 x.kind, .int .i64 x.at_, txt x.name, txt x.text, .slice Aa x.attrs.length ca] : List Value) = ec at *
      have hba := (Below.refl wr.heap.size wr).alloc (Nat.le_refl _) (.cells ec.toArray 35)
      have hSa := hA.ps.below hba
      have howna := ownsRow_of_blocks hown (w' := wr.alloc (.cells ec.toArray 35)) (fun k hk => hba.block k (hown.lt k hk).2)
      have hevx : EvRows wr (PX p T) [x] ec := hA.ev
      have heva := (hevs.append hevx).on (w' := wr.alloc (.cells ec.toArray 35)) (X' := PX p T) (fun k c hk hx => ⟨hba.block k (blk_lt hk), hx⟩)
      have hnews := new_cells wr ec 35
      have hone := hevx.one
      have hlen5 : ec.length = 1 * 5 := hevx.len
      have hlenb := hA.len
      simp only [Option.isSome_some, if_true] at hlenb
      have hsb := hA.below.size
      obtain ⟨hI, hst⟩ := hA.live rfl
      have hn7 := all_grow hA hcx hown hevs
      subst hcx
      have t5 := True.intro
      go_wp2_with (first
        | (have _t := t5
           at_builtin
           go_loud (clear _t t5
                    refine append_own (by rfl) _ _ 27 35 zeroE 5 72 (by rfl) Tryd.underlying27 (by kernel_rfl) (by rfl) (by decide) w.heap.size _ es.length cs (by rfl) howna _ 1 _ _ (by rfl) hlen5 hnews hone (by unfold maxLen; omega) (by omega) (by simp; omega) ?_
                    intro v7 w7 hown7 hg7 hat7
                    obtain ⟨A7, c7, e7⟩ := row_lit hown7
                    subst e7
                    obtain ⟨hS7, hb7, hev7, hv7, y0, y1, y2, y3, y4⟩ := hn7 _ _ hown7 hg7 hat7
                    clear hn7
                    have hb8 := (Below.refl w7.heap.size w7).alloc (Nat.le_refl _) (.cells #[.int .i64 x.kind, .int .i64 x.at_, .string (strOfNums x.name), .string (strOfNums x.text), .slice Aa x.attrs.length ca] 35)
                    have hS8 := hS7.below hb8
                    have hbl8 := heap_alloc_new w7 (.cells #[.int .i64 x.kind, .int .i64 x.at_, .string (strOfNums x.name), .string (strOfNums x.text), .slice Aa x.attrs.length ca] 35)
                    have hx7 : ¬ PX p T w7.heap.size := fun hx => Nat.lt_irrefl _ (hS7.xlt _ hx)
                    have t6 := True.intro))
        | (have _t := t6
           go_at_call 24
           go_loud (clear _t t6
                    refine (nextE_c hS8 hL hI hA.sim).mono ?_
                    rintro e w9 ⟨s9, T9, hS9, hF9, hsim9, hout9⟩
                    obtain ⟨k9, a9, n9, t9, A9, m9, c9, rfl, hev9⟩ := hout9.cells
                    have hbl9 := (hF9.block w7.heap.size (by simp) hx7).trans hbl8
                    have v0 := blk_cell hbl9 0
                    have v1 := blk_cell hbl9 1
                    have v2 := blk_cell hbl9 2
                    have v3 := blk_cell hbl9 3
                    have v4 := blk_cell hbl9 4
                    have g0 := blk_frz hbl9 0
                    have g1 := blk_frz hbl9 1
                    have g2 := blk_frz hbl9 2
                    have g3 := blk_frz hbl9 3
                    have g4 := blk_frz hbl9 4)))
      obtain ⟨r1, r2⟩ := all_round hA hS7 hb7 ⟨_, rfl⟩ rfl hown7 hev7 hv7 hF9 hS9 hsim9 hev9
      exact ⟨⟨_, _, _, _, _, _, _, rfl, rfl, r1⟩, r2⟩
end Go.Proofs.YtgbodhlofebajaaDoorX
end
