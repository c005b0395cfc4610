/- What is proved: a map of texts is a map that the kit's laws own; what is left of a map behind deletes in a range. Conditions: fewer entries and bytes than maxLen. -/
import Derived.Test.YtdelafoijplleaaNsScope
import Derived.Maps.RangeWalk
import Derived.Maps.Ext
import Derived.Sort.KeysCollected
import Derived.Lib.SlMapMerge
set_option linter.unusedVariables false
namespace Go.Proofs.YtdelafoijplleaaN
open Go.RowKit Go.Shelf Go.Maps
abbrev DU := DataW Unit
/-- How a text reads, whatever its length. -/
def strR : Value → Option (DU × List MemPlace)
  | .string s => some (.lit (.string s.data.toList), [])
  | _ => none
theorem strR_mk (s : ByteArray) : strR (.string s) = some (.lit (.string s.data.toList), []) := rfl
theorem strR_inv {v : Value} {y : DU × List MemPlace} (h : strR v = some y) : ∃ s : ByteArray, v = .string s ∧ y = (.lit (.string s.data.toList), []) := by
  cases v <;> simp [strR] at h
  exact ⟨_, rfl, h.symm⟩
def entD (m : Binds) : List (Lit × DU) := m.map fun p => (Lit.string p.1.data.toList, .lit (.string p.2.data.toList))
/-- What a map of texts reads as. -/
def datD (m : Binds) : DU := .map ((entD m).foldr DataW.insert [])
theorem keyOf_str_mk {P : Program} {k : TypeId} (hk : P.underlying k = some .string) {s : ByteArray} (hs : s.size ≤ maxLen) : keyOf P k (.string s) = some (.string s.data.toList) := by
  simp [keyOf, hk, mapKey, hs]
theorem rd_str {P : Program} {k : TypeId} (hk : P.underlying k = some .string) {x : MapEntry} {a b : ByteArray} (h1 : x.key = .string a) (h2 : x.val = .string b) (ha : a.size ≤ maxLen) :
    WideElems.rd P k strR x = some (Lit.string a.data.toList, (.lit (.string b.data.toList) : DU)) := by
  unfold WideElems.rd
  rw [h1, keyOf_str_mk hk ha, h2, strR_mk]
  rfl
theorem rg_list {P : Program} {k : TypeId} (hk : P.underlying k = some .string) : ∀ (es : List MapEntry) (m : Binds), es.map (fun e => (e.key, e.val)) = m.map (fun p => (Value.string p.1, Value.string p.2)) → (∀ p ∈ m, p.1.size ≤ maxLen) →
    (∀ x ∈ es, ∃ y, WideElems.rd P k strR x = some y) ∧ es.map (WideElems.rg P k strR) = entD m
  | [], [], _, _ => ⟨fun _ hx => absurd hx (by simp), rfl⟩
  | [], _ :: _, h, _ => by simp at h
  | _ :: _, [], h, _ => by simp at h
  | e :: es, p :: m, h, hs => by
    simp only [List.map_cons, List.cons.injEq, Prod.mk.injEq] at h
    obtain ⟨⟨hk1, hv1⟩, ht⟩ := h
    have h1 := rd_str hk hk1 hv1 (hs p (List.mem_cons_self ..))
    obtain ⟨i1, i2⟩ := rg_list hk es m ht (fun q hq => hs q (List.mem_cons_of_mem _ hq))
    refine ⟨fun x hx => ?_, ?_⟩
    · rcases List.mem_cons.1 hx with rfl | hx
      · exact ⟨_, h1⟩
      · exact i1 x hx
    · rw [List.map_cons, i2]
      have : WideElems.rg P k strR e = (Lit.string p.1.data.toList, .lit (.string p.2.data.toList)) := by
        rw [WideElems.rg_of h1]
      rw [this]
      rfl
theorem SMap.owns {P : Program} {k : TypeId} (hk : P.underlying k = some .string) {w : World} {b : Nat} {m : Binds} (h : SMap w b m) (hl : m.length ≤ maxLen) (hs : ∀ p ∈ m, p.1.size ≤ maxLen) : w.ownsMap P k strR b m.length (datD m) := by
  obtain ⟨es, clock, hb, he, hst⟩ := h.out
  have hlen : es.size = m.length := by
    have := congrArg List.length he
    simpa using this
  obtain ⟨h1, h2⟩ := rg_list hk es.toList m he hs
  refine ⟨es, clock, hb, ⟨by omega, hst, h1⟩, by omega, ?_⟩
  unfold datD
  rw [h2]
theorem size_datD (m : Binds) : Maps.size (datD m) = m.length := by
  unfold datD
  rw [Maps.size_eq, length_sorted]
  unfold entD
  rw [List.length_map]
/-- All that the first i elements bind, laid one over the other. -/
def allD (L : List Binds) : DU := L.foldl (fun D m => Lib.mergeD D (datD m)) (.map [])
def sumL (L : List Binds) : Nat := (L.map List.length).sum
theorem allD_snoc (L : List Binds) (m : Binds) : allD (L ++ [m]) = Lib.mergeD (allD L) (datD m) := by
  unfold allD
  rw [List.foldl_append]
  rfl
theorem sumL_snoc (L : List Binds) (m : Binds) : sumL (L ++ [m]) = sumL L + m.length := by
  unfold sumL
  simp
def xmlK : Lit := .string [120, 109, 108]
/-- Is an entry kept? -/
def keepE (p : Lit × DU) : Bool := !(match p.2 with | .lit (.string []) => true | _ => false) && !(p.1.sameKey xmlK)
/-- Those entries that are kept, or are still to come. -/
def Ks (es0 : List (Lit × DU)) (left : Lit → Bool) : DU := .map (es0.filter fun p => keepE p || left p.1)
variable {es0 : List (Lit × DU)} {left : Lit → Bool}
theorem Ks_start (hkeys : ∀ p ∈ es0, WideAt.IsKeyLit p.1) : Ks es0 (Maps.has (.map es0)) = .map es0 := by
  unfold Ks
  rw [List.filter_eq_self.2 (fun p hp => by
    have : Maps.has (DataW.map es0) p.1 = true := List.any_eq_true.2 ⟨p, hp, WideAt.sameKey_self (hkeys p hp)⟩
    simp [this])]
theorem Ks_end (hl : ∀ kl, left kl = false) : Ks es0 left = .map (es0.filter keepE) := by
  unfold Ks
  congr 1
  exact List.filter_congr (fun p _ => by simp [hl])
theorem Ks_came (hap : es0.Pairwise (fun p q => p.1 ≠ q.1)) {kl : Lit} (hk : WideAt.IsKeyLit kl) (hlk : left kl = true) {d : DU} (hat : ∀ zd, (Ks es0 left).atKey kl zd = d) : ∀ p ∈ es0, p.1 = kl → p.2 = d := by
  intro p hp hpk
  have hm : (kl, p.2) ∈ es0.filter fun p => keepE p || left p.1 := List.mem_filter.2 ⟨by rw [← hpk]; exact hp, by simp [hlk]⟩
  exact (WideAt.atKey_mem .nil hk (hap.filter _) hm).symm.trans (hat .nil)
theorem Ks_struck (hap : es0.Pairwise (fun p q => p.1 ≠ q.1)) {kl : Lit} (hk : WideAt.IsKeyLit kl) (hlk : left kl = true) {d : DU} (hat : ∀ zd, (Ks es0 left).atKey kl zd = d) (hd : keepE (kl, d) = false) : (Ks es0 left).del kl = Ks es0 (fun z => left z && !z.sameKey kl) := by
  have hc := Ks_came hap hk hlk hat
  show DataW.map ((es0.filter fun p => keepE p || left p.1).filter fun p => !p.1.sameKey kl) = _
  unfold Ks
  rw [List.filter_filter]
  congr 1
  refine List.filter_congr (fun p hp => ?_)
  cases hs : p.1.sameKey kl
  · simp [hs]
  · have e : p = (kl, d) := Prod.ext (WideAt.sameKey_eq hs) (hc p hp (WideAt.sameKey_eq hs))
    simp [e, hd, WideAt.sameKey_self hk]
theorem Ks_stays (hap : es0.Pairwise (fun p q => p.1 ≠ q.1)) {kl : Lit} (hk : WideAt.IsKeyLit kl) (hlk : left kl = true) {d : DU} (hat : ∀ zd, (Ks es0 left).atKey kl zd = d) (hd : keepE (kl, d) = true) : Ks es0 left = Ks es0 (fun z => left z && !z.sameKey kl) := by
  have hc := Ks_came hap hk hlk hat
  unfold Ks
  congr 1
  refine List.filter_congr (fun p hp => ?_)
  cases hs : p.1.sameKey kl
  · simp [hs]
  · have e : p = (kl, d) := Prod.ext (WideAt.sameKey_eq hs) (hc p hp (WideAt.sameKey_eq hs))
    simp [e, hd]
def entsOf : DU → List (Lit × DU)
  | .map es => es
  | _ => []
/-- What Binds goes over: the entries that are kept. -/
def keptD (L : List Binds) : DU := .map ((entsOf (allD L)).filter keepE)
def txtOf : DU → ByteArray
  | .lit (.string b) => ⟨b.toArray⟩
  | _ => ⟨#[]⟩
/-- What Binds tells. -/
def bindsL (L : List Binds) : List (ByteArray × ByteArray) := ((strKeys (keptD L)).mergeSort fun x y => decide (x ≤ y)).map fun k => (⟨k.toArray⟩, txtOf ((keptD L).atKey (.string k) (.lit (.string []))))
def flatB (l : List (ByteArray × ByteArray)) : List Value := l.flatMap fun p => [.string p.1, .string p.2]
end Go.Proofs.YtdelafoijplleaaN
