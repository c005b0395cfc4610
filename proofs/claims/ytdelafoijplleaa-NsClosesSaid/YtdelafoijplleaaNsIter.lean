/- What is proved: what maps.Keys, slices.Sorted of its keys and maps.Copy do at this program's map of texts: one application each of the library's contracts. Conditions: fewer entries than maxLen. -/
import Derived.Test.YtdelafoijplleaaIter
import Derived.Test.YtdelafoijplleaaNsMapsD
namespace Go.Proofs.YtdelafoijplleaaN
open Go.RowKit Go.Maps Go.Sort Go.Shelf
theorem sorts_m (m : Nat) : AnyZ.SortsIn Try.prog Try.sorted20_ren Fence.wide m :=
  ⟨fun blk off cap ss W hH hblk hsz => callsIn_wide.2 (AnyM.slices_Sort_string Try.sort28 blk off cap ss W hH hblk hsz),
   fun p cap W => callsIn_wide.2 (AnyM.slices_Sort_string_none Try.sort28 p cap W)⟩
theorem keys_c (mb : Option Nat) (W : World) : Calls Try.prog 21 #[.map mb] W fun e w' => e = .returned (.func (.func 29) #[] #[.pointer (some ⟨W.heap.size, 0, none⟩)]) ∧ w' = W.alloc (.cells #[.map mb] 61) :=
  (callsIn_wide (n := 5)).1 (AnyZ.keys_in Try.keys21 Fence.wide 5 trivial rfl mb W)
set_option maxHeartbeats 1000000 in
theorem sorted_c (b nn : Nat) (D0 : DU) (w : World) (hown : w.ownsMap Try.prog 9 strR b nn D0) (hmax : Maps.size D0 ≤ maxLen) (hbytes : Maps.size D0 * 16 ≤ 140737488355328) :
    Calls Try.prog 20 #[.func (.func 29) #[] #[.pointer (some ⟨w.heap.size, 0, none⟩)]] (w.alloc (.cells #[.map (some b)] 61)) fun e w' => ∃ (v : Value) (ss : List (List UInt8)), e = .returned v ∧ ss.Perm (strKeys D0) ∧
      w'.ownsRow (w.alloc (.cells #[.map (some b)] 61)).heap.size 9 1 v ss.length ((ss.mergeSort (fun x y => decide (x ≤ y))).map encStr) ∧ (v = .slice none 0 0 ↔ ss = []) ∧ Below (w.alloc (.cells #[.map (some b)] 61)).heap.size (w.alloc (.cells #[.map (some b)] 61)) w' := by
  have hbl := hown.lt
  have hseq : SeqGives Fence.wide 2 Try.prog 29 #[.pointer (some ⟨w.heap.size, 0, none⟩)] encStr (fun ss => ss.Perm (strKeys D0)) (Maps.size D0) (w.alloc (.cells #[.map (some b)] 61)) :=
    AnyZ.keys_gives (ρ := Try.keys21_ren) { Try.keys21 with } Fence.wide _ trivial rfl (by omega) w.heap.size b nn D0 _ (by simp) (by simp) (by
      obtain ⟨es, clock, hb, Ft, hs, hD⟩ := hown
      exact ⟨es, clock, (Below.heap_alloc _ _ b hbl).trans hb, Ft, hs, hD⟩)
  exact (callsIn_wide (n := 5)).1 (AnyZ.sorted_in Try.sorted20 Fence.wide 5 trivial trivial trivial trivial rfl (by omega) (sorts_m _) (enters_of Try.func28 (by kernel_rfl) rfl) 29 #[.pointer (some ⟨w.heap.size, 0, none⟩)] trivial (enters_of Try.func29 (by kernel_rfl) rfl) _ _ hmax hbytes _ hseq)
theorem key_law : Keyed Try.prog 9 := string_keyed Try.underlying9
theorem copy_c (bd bs nd ns : Nat) (Dd Ds : DU) (w : World) (hd : w.ownsMap Try.prog 9 strR bd nd Dd) (hs : w.ownsMap Try.prog 9 strR bs ns Ds) (hne : bd ≠ bs) (hroom : nd + Maps.size Ds ≤ maxLen) :
    Calls Try.prog 19 #[.map (some bd), .map (some bs)] w fun e w' => e = .returned (.tuple #[]) ∧ w'.ownsMap Try.prog 9 strR bd (nd + Maps.size Ds) (Lib.mergeD Dd Ds) ∧ w'.ownsMap Try.prog 9 strR bs ns Ds ∧ w.grownBy w' (some bd) :=
  AnyX.maps_Copy Try.copy19 key_law strR bd bs nd ns Dd Ds w hd hs hne hroom
end Go.Proofs.YtdelafoijplleaaN
