/- What is proved: what the claims of this seat share, part 20: a program of ours merged it out of our own texts, the print's words and the laid shelf. Conditions: those of each. -/
import Derived.Test.YtbaokjfhigjpdaaGreatDoorMB19
import Derived.Ground.GgzProg
import Derived.Ground.SlgmProg
import Derived.Ground.SlmpProg
import Derived.Shelf.SlGeneric
import Derived.Shelf.SlIter.Nil
import Derived.Shelf.SlMaps.Copy
import Derived.Shelf.SortM.Plain
import Derived.Shelf.SortM.SortNone
import Derived.Test.YtbaokjfhigjpdaaGreatDoorProg
set_option linter.unusedVariables false
set_option linter.unusedSimpArgs false
section
namespace Go.Proofs
open Go.Shelf
def Tryz.keys68_ren:Go.Shelf.Ren:=⟨fun | 7=>68 | 10=>90 | n=>n,fun | 23=>161 | 26=>9 | 3=>9 | 28=>168 | 0=>0 | 27=>167 | 33=>135 | 4=>4 | n=>n,fun | n=>n⟩
theorem Tryz.keys68:Go.Proofs.SlLaysZ.n7 Tryz.prog Tryz.keys68_ren:={
  mixed:=by kernel_rfl
  f7:=⟨Tryz.f68.name,by decide,Tryz.func68.trans (congrArg some (by kernel_rfl))⟩
  f10:=⟨Tryz.f90.name,by decide,Tryz.func90.trans (congrArg some (by kernel_rfl))⟩
  t0:=Tryz.underlying0
  a0:=Tryz.isAgg0
  z0:=Tryz.sizeOf0
  v0:=Tryz.zeroValue0
  t4:=Tryz.underlying4
  a4:=Tryz.isAgg4
  z4:=Tryz.sizeOf4
  v4:=Tryz.zeroValue4
  t23:=Tryz.underlying161
  a23:=Tryz.isAgg161
  z23:=Tryz.sizeOf161
  v23:=Tryz.zeroValue161
  t26:=Tryz.underlying9
  a26:=Tryz.isAgg9
  z26:=Tryz.sizeOf9
  v26:=Tryz.zeroValue9
  t27:=Tryz.underlying167
  a27:=Tryz.isAgg167
  z27:=Tryz.sizeOf167
  v27:=Tryz.zeroValue167
  t28:=Tryz.underlying168
  a28:=Tryz.isAgg168
  z28:=Tryz.sizeOf168
  v28:=Tryz.zeroValue168
  t33:=Tryz.underlying135
  a33:=Tryz.isAgg135
  z33:=Tryz.sizeOf135
  v33:=Tryz.zeroValue135 }
def Tryz.sorted67_ren:Go.Shelf.Ren:=⟨fun | 6=>67 | 8=>88 | 9=>89 | 11=>125 | 13=>127 | 12=>126 | 23=>174 | 24=>175 | 14=>165 | 15=>166 | 16=>167 | 17=>168 | 18=>169 | 19=>170 | 20=>171 | 21=>172 | 22=>173 | 25=>209 | 26=>210 | 27=>211 | 28=>212 | 29=>213 | 30=>214 | 31=>235 | n=>n,fun | 26=>9 | 28=>168 | 24=>151 | 0=>0 | 3=>3 | 37=>219 | 48=>249 | 50=>251 | 4=>4 | 40=>242 | 39=>241 | 45=>246 | 5=>5 | 9=>9 | 51=>270 | 55=>274 | 57=>294 | 58=>254 | 33=>135 | n=>n,fun | n=>n⟩
theorem Tryz.sorted67:Go.Proofs.SlLaysZ.n6 Tryz.prog Tryz.sorted67_ren:={
  mixed:=by kernel_rfl
  f6:=⟨Tryz.f67.name,by decide,Tryz.func67.trans (congrArg some (by kernel_rfl))⟩
  f8:=⟨Tryz.f88.name,by decide,Tryz.func88.trans (congrArg some (by kernel_rfl))⟩
  f11:=⟨Tryz.f125.name,by decide,Tryz.func125.trans (congrArg some (by kernel_rfl))⟩
  t0:=Tryz.underlying0
  a0:=Tryz.isAgg0
  z0:=Tryz.sizeOf0
  v0:=Tryz.zeroValue0
  t24:=Tryz.underlying151
  a24:=Tryz.isAgg151
  z24:=Tryz.sizeOf151
  v24:=Tryz.zeroValue151
  t26:=Tryz.underlying9
  a26:=Tryz.isAgg9
  z26:=Tryz.sizeOf9
  v26:=Tryz.zeroValue9
  t28:=Tryz.underlying168
  a28:=Tryz.isAgg168
  z28:=Tryz.sizeOf168
  v28:=Tryz.zeroValue168
  i26:=by kernel_rfl }
def Tryz.sort89_ren:Go.Shelf.Ren:=⟨fun | 6=>89 | 8=>127 | 9=>126 | 19=>174 | 20=>175 | 21=>165 | 22=>166 | 23=>167 | 24=>168 | 25=>169 | 26=>170 | 27=>171 | 28=>172 | 29=>173 | 36=>209 | 31=>210 | 32=>211 | 37=>212 | 38=>213 | 39=>214 | 41=>235 | n=>n,fun | 27=>151 | 29=>9 | 3=>3 | 32=>219 | 26=>151 | 0=>0 | 44=>249 | 46=>251 | 4=>4 | 36=>242 | 35=>241 | 41=>246 | 5=>5 | 9=>9 | 53=>270 | 57=>274 | 63=>294 | 64=>254 | n=>n,fun | n=>n⟩
theorem Tryz.sort89:Go.Proofs.SlLaysM.n6 Tryz.prog Tryz.sort89_ren:={
  mixed:=by kernel_rfl
  f6:=⟨Tryz.f89.name,by decide,Tryz.func89.trans (congrArg some (by kernel_rfl))⟩
  f8:=Tryz.func127.trans (congrArg some (by kernel_rfl))
  f9:=⟨Tryz.f126.name,by decide,Tryz.func126.trans (congrArg some (by kernel_rfl))⟩
  f19:=Tryz.func174.trans (congrArg some (by kernel_rfl))
  f20:=Tryz.func175.trans (congrArg some (by kernel_rfl))
  f21:=⟨Tryz.f165.name,by decide,Tryz.func165.trans (congrArg some (by kernel_rfl))⟩
  f22:=⟨Tryz.f166.name,by decide,Tryz.func166.trans (congrArg some (by kernel_rfl))⟩
  f23:=⟨Tryz.f167.name,by decide,Tryz.func167.trans (congrArg some (by kernel_rfl))⟩
  f24:=⟨Tryz.f168.name,by decide,Tryz.func168.trans (congrArg some (by kernel_rfl))⟩
  f25:=⟨Tryz.f169.name,by decide,Tryz.func169.trans (congrArg some (by kernel_rfl))⟩
  f26:=⟨Tryz.f170.name,by decide,Tryz.func170.trans (congrArg some (by kernel_rfl))⟩
  f27:=⟨Tryz.f171.name,by decide,Tryz.func171.trans (congrArg some (by kernel_rfl))⟩
  f28:=⟨Tryz.f172.name,by decide,Tryz.func172.trans (congrArg some (by kernel_rfl))⟩
  f29:=⟨Tryz.f173.name,by decide,Tryz.func173.trans (congrArg some (by kernel_rfl))⟩
  f31:=Tryz.func210.trans (congrArg some (by kernel_rfl))
  f32:=Tryz.func211.trans (congrArg some (by kernel_rfl))
  f36:=⟨Tryz.f209.name,by decide,Tryz.func209.trans (congrArg some (by kernel_rfl))⟩
  f37:=⟨Tryz.f212.name,by decide,Tryz.func212.trans (congrArg some (by kernel_rfl))⟩
  f38:=⟨Tryz.f213.name,by decide,Tryz.func213.trans (congrArg some (by kernel_rfl))⟩
  f39:=⟨Tryz.f214.name,by decide,Tryz.func214.trans (congrArg some (by kernel_rfl))⟩
  f41:=⟨Tryz.f235.name,by decide,Tryz.func235.trans (congrArg some (by kernel_rfl))⟩
  t0:=Tryz.underlying0
  a0:=Tryz.isAgg0
  z0:=Tryz.sizeOf0
  v0:=Tryz.zeroValue0
  t3:=Tryz.underlying3
  a3:=Tryz.isAgg3
  z3:=Tryz.sizeOf3
  v3:=Tryz.zeroValue3
  t4:=Tryz.underlying4
  a4:=Tryz.isAgg4
  z4:=Tryz.sizeOf4
  v4:=Tryz.zeroValue4
  t5:=Tryz.underlying5
  a5:=Tryz.isAgg5
  z5:=Tryz.sizeOf5
  v5:=Tryz.zeroValue5
  t9:=Tryz.underlying9
  a9:=Tryz.isAgg9
  z9:=Tryz.sizeOf9
  v9:=Tryz.zeroValue9
  t26:=Tryz.underlying151
  a26:=Tryz.isAgg151
  z26:=Tryz.sizeOf151
  v26:=Tryz.zeroValue151
  t27:=Tryz.underlying151
  a27:=Tryz.isAgg151
  z27:=Tryz.sizeOf151
  v27:=Tryz.zeroValue151
  t29:=Tryz.underlying9
  a29:=Tryz.isAgg9
  z29:=Tryz.sizeOf9
  v29:=Tryz.zeroValue9
  t32:=Tryz.underlying219
  a32:=Tryz.isAgg219
  z32:=Tryz.sizeOf219
  v32:=Tryz.zeroValue219
  t35:=Tryz.underlying241
  a35:=Tryz.isAgg241
  z35:=Tryz.sizeOf241
  v35:=Tryz.zeroValue241
  t36:=Tryz.underlying242
  a36:=Tryz.isAgg242
  z36:=Tryz.sizeOf242
  v36:=Tryz.zeroValue242
  t41:=Tryz.underlying246
  a41:=Tryz.isAgg246
  z41:=Tryz.sizeOf246
  v41:=Tryz.zeroValue246
  t44:=Tryz.underlying249
  a44:=Tryz.isAgg249
  z44:=Tryz.sizeOf249
  v44:=Tryz.zeroValue249
  t46:=Tryz.underlying251
  a46:=Tryz.isAgg251
  z46:=Tryz.sizeOf251
  v46:=Tryz.zeroValue251
  t53:=Tryz.underlying270
  a53:=Tryz.isAgg270
  z53:=Tryz.sizeOf270
  v53:=Tryz.zeroValue270
  t57:=Tryz.underlying274
  a57:=Tryz.isAgg274
  z57:=Tryz.sizeOf274
  v57:=Tryz.zeroValue274
  t63:=Tryz.underlying294
  a63:=Tryz.isAgg294
  z63:=Tryz.sizeOf294
  v63:=Tryz.zeroValue294
  t64:=Tryz.underlying254
  a64:=Tryz.isAgg254
  z64:=Tryz.sizeOf254
  v64:=Tryz.zeroValue254 }
def Tryz.copy66_ren:Go.Shelf.Ren:=⟨fun | 5=>66 | n=>n,fun | 23=>161 | 24=>161 | 26=>9 | 27=>9 | 0=>0 | 4=>4 | n=>n,fun | n=>n⟩
theorem Tryz.copy66:Go.Proofs.SlLaysX.n5 Tryz.prog Tryz.copy66_ren:={
  mixed:=by kernel_rfl
  f5:=⟨Tryz.f66.name,by decide,Tryz.func66.trans (congrArg some (by kernel_rfl))⟩
  t0:=Tryz.underlying0
  a0:=Tryz.isAgg0
  z0:=Tryz.sizeOf0
  v0:=Tryz.zeroValue0
  t4:=Tryz.underlying4
  a4:=Tryz.isAgg4
  z4:=Tryz.sizeOf4
  v4:=Tryz.zeroValue4
  t23:=Tryz.underlying161
  a23:=Tryz.isAgg161
  z23:=Tryz.sizeOf161
  v23:=Tryz.zeroValue161
  t24:=Tryz.underlying161
  a24:=Tryz.isAgg161
  z24:=Tryz.sizeOf161
  v24:=Tryz.zeroValue161
  a26:=Tryz.isAgg9
  z26:=Tryz.sizeOf9
  a27:=Tryz.isAgg9
  z27:=Tryz.sizeOf9 }
end Go.Proofs
end
section
namespace Go.Proofs.YtbaokjfhigjpdaaGreatDoorN
open Go.RowKit Go.Maps Go.Sort Go.Shelf
theorem sorts_m (m:Nat):AnyZ.SortsIn Tryz.prog Tryz.sorted67_ren Fence.wide m :=
  ⟨fun blk off cap ss W hH hblk hsz=>callsIn_wide.2 (AnyM.slices_Sort_string Tryz.sort89 blk off cap ss W hH hblk hsz),
   fun p cap W=>callsIn_wide.2 (AnyM.slices_Sort_string_none Tryz.sort89 p cap W)⟩
theorem keys_c (mb:Option Nat) (W:World):Calls Tryz.prog 68 #[.map mb] W fun e w'=>e = .returned (.func (.func 90) #[] #[.pointer (some ⟨W.heap.size,0,none⟩)]) ∧ w' = W.alloc (.cells #[.map mb] 161) :=
  (callsIn_wide (n:=5)).1 (AnyZ.keys_in Tryz.keys68 Fence.wide 5 trivial rfl mb W)
set_option maxHeartbeats 1000000 in
theorem sorted_c (b nn:Nat) (D0:DU) (w:World) (hown:w.ownsMap Tryz.prog 9 strR b nn D0) (hmax:Maps.size D0 ≤ maxLen) (hbytes:Maps.size D0 * 16 ≤ 140737488355328) :
    Calls Tryz.prog 67 #[.func (.func 90) #[] #[.pointer (some ⟨w.heap.size,0,none⟩)]] (w.alloc (.cells #[.map (some b)] 161)) fun e w'=>∃ (v:Value) (ss:List (List UInt8)),e = .returned v ∧ ss.Perm (strKeys D0) ∧
      w'.ownsRow (w.alloc (.cells #[.map (some b)] 161)).heap.size 9 1 v ss.length ((ss.mergeSort (fun x y=>decide (x ≤ y))).map encStr) ∧ (v = .slice none 0 0 ↔ ss = []) ∧ Below (w.alloc (.cells #[.map (some b)] 161)).heap.size (w.alloc (.cells #[.map (some b)] 161)) w':=by
  have hbl:=hown.lt
  have hseq:SeqGives Fence.wide 2 Tryz.prog 90 #[.pointer (some ⟨w.heap.size,0,none⟩)] encStr (fun ss=>ss.Perm (strKeys D0)) (Maps.size D0) (w.alloc (.cells #[.map (some b)] 161)) :=
    AnyZ.keys_gives (ρ:=Tryz.keys68_ren) { Tryz.keys68 with } Fence.wide _ trivial rfl (by omega) w.heap.size b nn D0 _ (by simp) (by simp) (by
     obtain ⟨es,clock,hb,Ft,hs,hD⟩:=hown
     exact ⟨es,clock,(Below.heap_alloc _ _ b hbl).trans hb,Ft,hs,hD⟩)
  exact (callsIn_wide (n:=5)).1 (AnyZ.sorted_in Tryz.sorted67 Fence.wide 5 trivial trivial trivial trivial rfl (by omega) (sorts_m _) (enters_of Tryz.func89 (by kernel_rfl) rfl) 90 #[.pointer (some ⟨w.heap.size,0,none⟩)] trivial (enters_of Tryz.func90 (by kernel_rfl) rfl) _ _ hmax hbytes _ hseq)
theorem key_law:Keyed Tryz.prog 9:=string_keyed Tryz.underlying9
theorem copy_c (bd bs nd ns:Nat) (Dd Ds:DU) (w:World) (hd:w.ownsMap Tryz.prog 9 strR bd nd Dd) (hs:w.ownsMap Tryz.prog 9 strR bs ns Ds) (hne:bd ≠ bs) (hroom:nd + Maps.size Ds ≤ maxLen) :
    Calls Tryz.prog 66 #[.map (some bd),.map (some bs)] w fun e w'=>e = .returned (.tuple #[]) ∧ w'.ownsMap Tryz.prog 9 strR bd (nd + Maps.size Ds) (Lib.mergeD Dd Ds) ∧ w'.ownsMap Tryz.prog 9 strR bs ns Ds ∧ w.grownBy w' (some bd) :=
  AnyX.maps_Copy Tryz.copy66 key_law strR bd bs nd ns Dd Ds w hd hs hne hroom
end Go.Proofs.YtbaokjfhigjpdaaGreatDoorN
end
section
set_option linter.unusedVariables false
namespace Go.Proofs.YtbaokjfhigjpdaaGreatDoorN
open Go.RowKit Go.Maps Go.Shelf Go.Sort Go.Proofs.YtbaokjfhigjpdaaGreatDoorW.PrintWords
def Small (L:List Binds):Prop:=sumL L < 1099511627776 ∧ ∀ m ∈ L,∀ p ∈ m,p.1.size ≤ maxLen
theorem Small.take {L:List Binds} (h:Small L) (k:Nat) (hk:k < L.length):sumL (L.take k) + L[k].length ≤ sumL L:=by
 have e:L = L.take k ++ L[k] :: L.drop (k + 1):=by
  rw [← List.drop_eq_getElem_cons hk,List.take_append_drop]
 have e2:sumL L = sumL (L.take k) + (L[k].length + sumL (L.drop (k + 1))):=by
  have e3:=congrArg sumL e
  rw [e3]
  unfold sumL
  rw [List.map_append,List.sum_append,List.map_cons,List.sum_cons]
 omega
theorem take_snoc {α:Type} (L:List α) (k:Nat) (hk:k < L.length):L.take (k + 1) = L.take k ++ [L[k]]:=by
 rw [List.take_add_one,List.getElem?_eq_getElem hk]
 rfl
theorem infoB:(Tryz.prog.info? 171).map (fun i=>(i.zero,i.size,i.bytes)) = some (some (.agg #[.string ⟨#[]⟩,.string ⟨#[]⟩]),2,32):=by kernel_rfl
theorem keep_of' (x c:ByteArray):keepE (.string x.data.toList,(.lit (.string c.data.toList):DU)) = !(c.toList.isEmpty || x.toList == [120,109,108]):=by
 rw [ByteArray.toList_eq,ByteArray.toList_eq]
 unfold keepE xmlK
 cases c.data.toList <;> simp [Lit.sameKey]
theorem flatB_take (l:List (ByteArray × ByteArray)) (k:Nat) (hk:k < l.length):flatB (l.take (k + 1)) = flatB (l.take k) ++ [.string l[k].1,.string l[k].2]:=by
 rw [take_snoc l k hk]
 unfold flatB
 rw [List.flatMap_append]
 rfl
theorem bindsL_get (L:List Binds) (j:Nat) (h:j < (bindsL L).length) (h':j < ((strKeys (keptD L)).mergeSort fun x y=>decide (x ≤ y)).length):(bindsL L)[j] = (⟨((strKeys (keptD L)).mergeSort fun x y=>decide (x ≤ y))[j].toArray⟩,txtOf ((keptD L).atKey (.string ((strKeys (keptD L)).mergeSort fun x y=>decide (x ≤ y))[j]) (.lit (.string [])))):=by
 simp only [bindsL,List.getElem_map]
set_option maxRecDepth 100000 in
set_option maxHeartbeats 4000000 in
theorem binds_all {w:World} {p:Nat} {sv:Value} {L:List Binds} (h:Sc w p sv L) (hL:L.length < 1099511627776) (hsm:Small L) :
    Calls Tryz.prog 42 #[.pointer (some ⟨p,0,none⟩)] w fun e W'=>∃ v,e = .returned v ∧ W'.ownsRow w.heap.size 171 2 v (bindsL L).length (flatB (bindsL L)) ∧ Below w.heap.size w W':=by
  have hmm:=@run_makeMap Tryz.prog
  obtain ⟨els,e1,e2,e3⟩:=h.rows
  have hel:els.length = L.length:=by rw [← e2,List.length_map]
  obtain ⟨sa,scap,rfl⟩:=h.slice
  have hc0:=cellA h.cell (.map #[] 0)
  have hB0:Below w.heap.size w (w.alloc (.map #[] 0)):=(Below.refl _ w).alloc (Nat.le_refl _) _
  have hO0:(w.alloc (.map #[] 0)).ownsMap Tryz.prog 9 strR w.heap.size 0 (.map []):=World.ownsMap_made w _ _ _
  go_enter Tryz.func42,Tryz.ntmps42
  go_wp2
  go_loopw [17] (fun i wr=>∃ k:Nat,k ≤ L.length ∧ i = .int .i64 k ∧ wr.ownsMap Tryz.prog 9 strR w.heap.size (sumL (L.take k)) (allD (L.take k)) ∧ Below w.heap.size w wr)
    (fun i _=>L.length - (intOf i).toNat)
  case atStart=>exact ⟨0,Nat.zero_le _,rfl,hO0,hB0⟩
  case round=>
   obtain ⟨k,hk,rfl,hO,hBr⟩:=hrel
   by_cases hlt:k < L.length
   ·have hke:k < els.length:=by omega
    obtain ⟨g,rfl⟩:∃ g,sa = some ⟨g,0,none⟩:=by
     rcases e1.2 with ⟨_,h0⟩ | ⟨g,cap,cur,e,_⟩
     · omega
     ·simp only [Value.slice.injEq] at e
      exact ⟨g,e.1⟩
    have ha:(⟨g,0,none⟩:Addr).add k = ⟨g,k,none⟩:=by unfold Addr.add;split <;> simp_all
    have hce0:=e1.cells (g:=g) rfl k (.map (some els[k].1)) (by simp [hke])
    rw [ha] at hce0
    have hce:=cellB hBr hce0 (lt_of_cell hce0)
    have hM0:=e3 els[k] (List.getElem_mem hke)
    have hM:=hM0.of_block (hBr.block _ hM0.lt)
    have hLk:L[k] = els[k].2:=by simp [← e2]
    have hsum:=hsm.take k hlt
    have hks:=hsm.2 L[k] (List.getElem_mem hlt)
    have h1:=hsm.1
    have hbl:=hM0.lt
    rw [hLk] at hsum hks
    have htk:L.take (k + 1) = L.take k ++ [els[k].2]:=by rw [take_snoc L k hlt,hLk]
    clear hce0 hM0 hLk
    generalize els[k] = ek at *
    obtain ⟨eb,em⟩:=ek
    simp only at hce hM hsum hks htk hbl
    have hOs:=hM.owns Tryz.underlying9 (by unfold maxLen;omega) hks
    go_wp2_with (go_at_call 66;go_loud (refine (copy_c _ _ _ _ _ _ _ hO hOs (by omega) (by rw [size_datD];unfold maxLen;omega)).mono ?_;rintro e w5 ⟨rfl,hO5,_,hg5⟩))
    go_roundw
    case rel=>
     refine ⟨k + 1,by omega,by simp,?_,hBr.grown hg5 hBr.size (fun j e=>by cases e;exact Nat.le_refl _)⟩
     rw [htk,allD_snoc,sumL_snoc]
     rw [size_datD] at hO5
     exact hO5
    case measure=>simp [intOf];omega
   ·obtain rfl:k = L.length:=by omega
    rename World=>wb
    rw [List.take_length] at hO
    obtain ⟨es0,hD,hap,hkeys⟩:=hO.entries key_law
    rw [hD] at hO
    have hkD:keptD L = .map (es0.filter keepE):=by unfold keptD;rw [hD];rfl
    have h1:=hsm.1
    go_wp2_with (first | (at_range;go_loud (refine wpList_range_own _ rfl _ 161 rfl 9 9 key_law Tryz.underlying161 strR w.heap.size _ _ rfl hO ?_;intro w6 hrg0 hg0 hs0)) | go_in)
    go_frame
    go_loopw [6] (fun _ wq=>∃ (left:Lit → Bool) (cnt:Nat),wq.ranges Tryz.prog 9 strR w.heap.size wb.heap.size (sumL L) (Ks es0 left) left cnt ∧ Below w.heap.size w wq)
      (fun _ wq=>wq.rangeLeft w.heap.size wb.heap.size)
    case atStart=>exact ⟨_,_,by rw [Ks_start hkeys];exact hrg0,hBr.grown hg0 hBr.size (fun j e=>by cases e)⟩
    case round=>
     obtain ⟨left,cnt,hrg,hBq⟩:=hrel
     rename World=>wq
     have hrn:=hrg.ne
     have hrl:=hrg.lt
     have hszq:=hBr.size
     go_wp2_with (first | (at_next;go_loud (refine wpList_next_ranges _ rfl _ rfl 9 key_law strR Value.string Value.string (fun key kl hk=>by obtain ⟨x,e,_⟩:=Maps.keyOf_str Tryz.underlying9 hk;exact ⟨_,e⟩) (fun v y hv=>by obtain ⟨s,e,_⟩:=strR_inv hv;exact ⟨s,e⟩) w.heap.size wb.heap.size (sumL L) _ _ _ rfl hrg ?_ ?_)) | go_in)
     ·intro _ hl0
      rw [Ks_end hl0,← hkD] at hrg
      have hOk:=hrg.owns
      have hszk:Maps.size (keptD L) ≤ sumL L:=hOk.size_le
      have hso:=sorted_c _ _ _ wq hOk (by unfold maxLen;omega) (by omega)
      go_wp2_with (first | (go_at_call 68;refine (keys_c _ _).mono ?_;rintro e w7 ⟨rfl,rfl⟩) | (have _t:=hso;go_at_call 67;go_loud (refine hso.mono ?_;clear hso;rintro e w8 ⟨v,ss,rfl,hS,hrow,hnil,hb8⟩;obtain ⟨ka,kc,rfl⟩:=row_slice hrow)))
      have hsk:(ss.mergeSort fun x y=>decide (x ≤ y)) = (strKeys (keptD L)).mergeSort fun x y=>decide (x ≤ y):=mergeSort_of_perm hS
      rw [hsk] at hrow
      have hlen:ss.length = (bindsL L).length:=by unfold bindsL;rw [List.length_map,List.length_mergeSort,hS.length_eq]
      have hlek:ss.length = ((strKeys (keptD L)).mergeSort fun x y=>decide (x ≤ y)).length:=by rw [List.length_mergeSort,hS.length_eq]
      have hlsz:ss.length ≤ sumL L:=by
       have:=hS.length_eq
       have e4:(strKeys (keptD L)).length = Maps.size (keptD L):=by rw [hkD];simp [strKeys,Maps.size]
       omega
      have hq8:Below w.heap.size w w8:=(hBq.alloc hBq.size _).trans (hb8.mono (by have:=hBq.size;simp;omega))
      have hwq:=hBq.size
      have hmq:w.heap.size < wq.heap.size:=hOk.lt
      obtain ⟨i0,hi,hz0,hz1,hz2⟩:=info_parts infoB
      go_loopw [8,44] (fun v i wz=>∃ j:Nat,j ≤ ss.length ∧ i = .int .i64 j ∧ wz.ownsRow w8.heap.size 171 2 v j (flatB ((bindsL L).take j)) ∧ Below w8.heap.size w8 wz)
        (fun _ i _=>ss.length - (intOf i).toNat)
      case atStart=>exact ⟨0,Nat.zero_le _,rfl,World.ownsRow_nil _ _ _ _,Below.refl _ _⟩
      case round=>
       rename World=>wz
       obtain ⟨j,hj,rfl,hov,hBz⟩:=hrel
       by_cases hjl:j < ss.length
       ·have hjs:j < ((strKeys (keptD L)).mergeSort fun x y=>decide (x ≤ y)).length:=by omega
        have hjb:j < (bindsL L).length:=by omega
        obtain ⟨g,rfl⟩:∃ g,ka = some ⟨g,0,none⟩:=by
         rcases hrow.2 with ⟨_,h0⟩ | ⟨g,cap,cur,e,_⟩
         · omega
         ·simp only [Value.slice.injEq] at e
          exact ⟨g,e.1⟩
        have ha:(⟨g,0,none⟩:Addr).add j = ⟨g,j,none⟩:=by unfold Addr.add;split <;> simp_all
        have hce0:=hrow.cells (g:=g) rfl j (encStr ((strKeys (keptD L)).mergeSort fun x y=>decide (x ≤ y))[j]) (by simp [hjs])
        rw [ha] at hce0
        have hce:=cellB hBz hce0 (lt_of_cell hce0)
        have hmem:((strKeys (keptD L)).mergeSort fun x y=>decide (x ≤ y))[j] ∈ strKeys (keptD L):=(List.mergeSort_perm _ _).mem_iff.1 (List.getElem_mem hjs)
        have hbj:=bindsL_get L j hjb hjs
        have hO8:wz.ownsMap Tryz.prog 9 strR w.heap.size (sumL L) (keptD L):=by
         obtain ⟨es,clock,hb,F,hs,hD⟩:=hOk
         exact ⟨es,clock,(hBz.block _ (by have:=hb8.size;simp at this;omega)).trans ((hb8.block _ (by simp;omega)).trans ((Below.heap_alloc _ _ _ hmq).trans hb)),F,hs,hD⟩
        generalize ((strKeys (keptD L)).mergeSort fun x y=>decide (x ≤ y))[j] = x at *
        have hxl:x.length ≤ maxLen:=by
         obtain ⟨es,hDk,hkk⟩:=hO8.keysOf
         rw [hDk] at hmem
         obtain ⟨q,hq,rfl⟩:=List.mem_map.1 hmem
         obtain ⟨v,hv⟩:=hkk q hq
         obtain ⟨x',_,e5,h6⟩:=Maps.keyOf_str Tryz.underlying9 hv
         rw [e5]
         exact h6
        have hz:(zeroValue 9).run Tryz.prog wz = .ok (.string ⟨#[]⟩) wz:=by kernel_rfl
        have hkx:keyOf Tryz.prog 9 (encStr x) = some (.string x):=keyOf_str_mk Tryz.underlying9 (s:=⟨x.toArray⟩) (by simpa [ByteArray.size] using hxl)
        obtain ⟨v0,ps,hrun,hR⟩:=hO8.lookup key_law Tryz.underlying161 hz (zd:=.lit (.string [])) (zp:=[]) rfl hkx
        obtain ⟨s,rfl,hy⟩:=strR_inv hR
        have hbs:(bindsL L)[j] = (⟨x.toArray⟩,s):=by
         rw [hbj,(Prod.mk.inj hy).1]
         rfl
        have hrow2:=flatB_take (bindsL L) j hjb
        rw [hbs] at hrow2
        have hnews:=cells_new wz [.string ⟨x.toArray⟩,.string s] 171
        go_wp2_with (at_builtin;go_loud (refine wpList_append_own_at _ rfl _ _ 53 rfl w8.heap.size 171 i0 (.agg #[.string ⟨#[]⟩,.string ⟨#[]⟩]) 2 32 Tryz.underlying53 hi hz0 hz1 hz2 rfl (by decide) _ _ _ rfl (hov.alloc _) ⟨wz.heap.size,0,none⟩ 1 1 [.string ⟨x.toArray⟩,.string s] rfl rfl hnews (by simp [Value.oneCell']) (by unfold maxLen;omega) (by omega) (by have:=hBz.size;simp;omega) ?_;intro v9 w9 hown9 hg9 _ hloc9))
        go_roundw
        case rel=>
         refine ⟨v9,_,.int .i64 ((j:Int) + 1),⟨j + 1,by omega,by simp,by rw [hrow2];exact hown9,?_⟩,rfl,rfl,rfl⟩
         refine (hBz.alloc hBz.size _).grown hg9 (by have:=hBz.size;simp;omega) (fun k e=>?_)
         exact (hov.lt k e).1
        case measure=>simp [intOf];omega
       ·obtain rfl:j = ss.length:=by omega
        go_wp2
        go_ret
        rw [List.take_of_length_le (by omega),hlen] at hov
        exact ⟨_,rfl,own_weaken hov (by have:=hq8.size;omega),hq8.trans (hBz.mono hq8.size)⟩
     ·intro x c kl y yp w1 cnt1 hkey hlx hv hat hrg1 hlt1 hg1 hs1 hen
      have hq1:=hBq.grown hg1 hBq.size (fun j e=>by cases e;exact hszq)
      obtain rfl:kl = .string x.data.toList:=by
       obtain ⟨x',ex,e,_⟩:=Maps.keyOf_str Tryz.underlying9 hkey
       rw [e,Value.string.inj ex]
      rw [strR_mk] at hv
      cases hv
      have hkp:=keep_of' x c
      have hkk:WideAt.IsKeyLit (Lit.string x.data.toList):=key_law.key hkey
      go_wp2_with (first | (at_delete;go_loud (refine wpList_delete_ranges _ rfl _ _ 161 9 rfl 9 key_law Tryz.underlying161 strR w.heap.size wb.heap.size (sumL L) _ _ _ rfl hrg1 _ _ rfl hkey ?_;intro w2 cnt2 hrg2 hle hturn;go_frame)) | go_in)
      all_goals try rw [strike_twice] at hrg2
      all_goals first
       | exact ⟨⟨_,cnt2,by rw [← Ks_struck hap hkk hlx hat (by rw [hkp];first | (simp [*];done) | (simp_all;done))];exact hrg2,hq1.grown hturn.grown hq1.size (fun j e=>by cases e;exact Nat.le_refl _)⟩,by rw [hrg2.left_eq,hrg.left_eq];omega⟩
       | exact ⟨⟨_,cnt1,by rw [← Ks_stays hap hkk hlx hat (by rw [hkp];simp [*])];exact hrg1,hq1⟩,by rw [hrg1.left_eq,hrg.left_eq];exact hlt1⟩
end Go.Proofs.YtbaokjfhigjpdaaGreatDoorN
end
section
set_option linter.unusedVariables false
namespace Go.Proofs.YtbaokjfhigjpdaaGreatDoorT
open Go.RowKit Go.Shelf Go.Proofs.YtbaokjfhigjpdaaGreatDoor.PXmlBase Go.Proofs.YtbaokjfhigjpdaaGreatDoorW.PrintWords
open Go.Proofs.YtbaokjfhigjpdaaGreatDoorN (Binds NA bindsL bindsS openS openEnd openTo sumL Small)
open Go.Proofs.YtbaokjfhigjpdaaGreatDoorX (XE St Lim NS nestF allE all_nst all_len all_few all_short size_str)
structure Ri (bs:List Int) (L:Lim) (es:List XE) (t:TS) (n:NS):Prop where
  fold:es.foldlM evS ts0 = .ok t
  nest:es.foldlM nestF ⟨none,[],0⟩ = some n
  ti:TI t n
  kl:∀ d ∈ t.ns,d.kids.length ≤ es.length
  nl:t.ns.length ≤ es.length + 1
  ol:t.op.length ≤ es.length + 1
  sm:∀ m ∈ t.L,m.length ≤ 10000 ∧ ∀ p ∈ m,p.1.size ≤ bs.length
theorem ri0 (bs:List Int) (L:Lim):Ri bs L [] ts0 ⟨none,[],0⟩:=⟨rfl,rfl,ti0,fun d h=>by simp [ts0] at h;simp [h],by simp [ts0],by simp [ts0],fun m h=>by cases h⟩
section
variable {bs:List Int} {L:Lim} {es:List XE} {t:TS} {n:NS}
theorem foldM_snoc {α β:Type} {ε:Type} (f:β → α → Except ε β) (l:List α) (a:α) (b:β):(l ++ [a]).foldlM f b = (l.foldlM f b >>= fun c=>f c a):=by
 rw [List.foldlM_append]
 congr 1
 funext c
 simp
theorem foldO_snoc {α β:Type} (f:β → α → Option β) (l:List α) (a:α) (b:β):(l ++ [a]).foldlM f b = (l.foldlM f b >>= fun c=>f c a):=by
 rw [List.foldlM_append]
 congr 1
 funext c
 simp
theorem Ri.step (h:Ri bs L es t n) (hb:Go.Proofs.YtbaokjfhigjpdaaGreatDoorX.Bytes bs) {x:XE} {rest:List XE} (hR:(allE bs L).1 = es ++ x :: rest):∃ m,nestF n x = some m ∧ (es ++ [x]).foldlM nestF ⟨none,[],0⟩ = some m:=by
 obtain ⟨m,hm,_⟩:=all_nst (L:=L) hb
 rw [hR,List.append_cons,List.foldlM_append] at hm
 cases h1:(es ++ [x]).foldlM nestF ⟨none,[],0⟩ with
 | none=>
  rw [h1] at hm
  cases hm
 | some m'=>
  refine ⟨m',?_,rfl⟩
  rw [foldO_snoc,h.nest] at h1
  exact h1
theorem openTo_sm:∀ (xs:List Go.Proofs.YtbaokjfhigjpdaaGreatDoorN.XA) (m0 m:Binds),openTo xs m0 = .ok m → m.length ≤ m0.length + xs.length ∧ ∀ p ∈ m,p ∈ m0 ∨ ∃ x ∈ xs,p.1.size ≤ x.1.size
  | [],m0,m,h=>by
   cases h
   exact ⟨Nat.le_refl _,fun p hp=>.inl hp⟩
  | a :: r,m0,m,h=>by
   have rec_:∀ m0',openTo r m0' = .ok m → m.length ≤ m0'.length + r.length ∧ ∀ p ∈ m,p ∈ m0' ∨ ∃ x ∈ r,p.1.size ≤ x.1.size:=fun m0' h'=>openTo_sm r m0' m h'
   have up:(∀ p ∈ m,p ∈ m0 ∨ ∃ x ∈ r,p.1.size ≤ x.1.size) → ∀ p ∈ m,p ∈ m0 ∨ ∃ x ∈ a :: r,p.1.size ≤ x.1.size:=fun h' p hp=>(h' p hp).imp id (fun ⟨x,h1,h2⟩=>⟨x,List.mem_cons_of_mem _ h1,h2⟩)
   unfold openTo at h
   split at h
   ·obtain ⟨h1,h2⟩:=rec_ _ h
    exact ⟨by simp;omega,up h2⟩
   ·split at h
    · cases h
    ·split at h
     ·obtain ⟨h1,h2⟩:=rec_ _ h
      exact ⟨by simp;omega,up h2⟩
     ·obtain ⟨h1,h2⟩:=rec_ _ h
      refine ⟨by simp at h1 ⊢;omega,fun p hp=>?_⟩
      rcases h2 p hp with q | ⟨x,q1,q2⟩
      ·rcases List.mem_append.1 q with q | q
       · exact .inl q
       ·simp at q
        subst q
        exact .inr ⟨a,List.mem_cons_self,Go.Proofs.YtbaokjfhigjpdaaGreatDoorN.binds_size a.1⟩
      · exact .inr ⟨x,List.mem_cons_of_mem _ q1,q2⟩
theorem openS_ok {Ls L':List Binds} {name:ByteArray} {at_:Int} {xs:List Go.Proofs.YtbaokjfhigjpdaaGreatDoorN.XA} {r:(ByteArray × ByteArray) × List NA} (h:openS Ls name at_ xs = (.ok r,L')):∃ m,openTo xs [] = .ok m ∧ L' = Ls ++ [m]:=by
 unfold openS openEnd at h
 split at h
 · cases h
 ·rename_i m hm
  split at h
  · cases h
  ·cases h
   exact ⟨m,hm,rfl⟩
theorem kidS_mem {ns:List ND} {u j:Nat} {d:ND} (h:d ∈ kidS ns u j):∃ d0 ∈ ns,d.kids.length ≤ d0.kids.length + 1:=by
 obtain ⟨i,hi⟩:=List.mem_iff_getElem?.1 h
 obtain ⟨d0,h0,h1⟩:=kidS_get hi
 refine ⟨d0,List.mem_of_getElem? h0,?_⟩
 rcases h1 with ⟨_,e⟩ | ⟨_,e⟩ <;> rw [e] <;> simp
theorem endN_mem {ns:List ND} {u:Nat} {en:Int} {d:ND} (h:d ∈ endN ns u en):∃ d0 ∈ ns,d.kids.length = d0.kids.length:=by
 obtain ⟨i,hi⟩:=List.mem_iff_getElem?.1 h
 obtain ⟨d0,h0,h1⟩:=endN_get hi
 exact ⟨d0,List.mem_of_getElem? h0,by rw [h1]⟩
theorem Ri.next (h:Ri bs L es t n) {x:XE} {m:NS} {t':TS} (hn:nestF n x = some m) (hf:(es ++ [x]).foldlM nestF ⟨none,[],0⟩ = some m) (ht:evS t x = .ok t') (hx:x.attrs.length ≤ 10000) (hs:∀ a ∈ x.attrs,a.name.length ≤ bs.length):Ri bs L (es ++ [x]) t' m:=by
 have hi:=ti_step h.ti hn ht
 refine ⟨by rw [foldM_snoc,h.fold];exact ht,hf,hi,?_,?_,?_,?_⟩
 all_goals
  unfold evS at ht
  split at ht
  ·split at ht
   · cases ht
   ·rename_i nm l L' ho
    cases ht
    first
     | (
      intro d hd
      obtain ⟨d0,h0,h1⟩:=kidS_mem hd
      rw [List.length_append,List.length_singleton]
      rcases List.mem_append.1 h0 with h0 | h0
      ·have:=h.kl d0 h0
       omega
      ·simp at h0
       subst h0
       simp at h1
       omega)
     | (
      show (kidS _ _ _).length ≤ _
      have:=h.nl
      rw [kidS_len]
      simp
      omega)
     | (
      have:=h.ol
      simp
      omega)
     | (
      intro b hb
      obtain ⟨m',h1,rfl⟩:=openS_ok ho
      rcases List.mem_append.1 hb with hb | hb
      · exact h.sm b hb
      ·simp at hb
       subst hb
       obtain ⟨q1,q2⟩:=openTo_sm _ _ _ h1
       refine ⟨?_,fun p hp=>?_⟩
       ·simp [evA] at q1
        omega
       ·rcases q2 p hp with q | ⟨y,q,q3⟩
        · cases q
        ·unfold evA at q
         obtain ⟨a,ha,rfl⟩:=List.mem_map.1 q
         have:=hs a ha
         rw [size_str] at q3
         omega)
  ·split at ht
   ·cases ht
    first
     | (
      intro d hd
      obtain ⟨d0,h0,h1⟩:=kidS_mem hd
      rw [List.length_append,List.length_singleton]
      rcases List.mem_append.1 h0 with h0 | h0
      ·have:=h.kl d0 h0
       omega
      ·simp at h0
       subst h0
       simp at h1
       omega)
     | (
      show (kidS _ _ _).length ≤ _
      have:=h.nl
      rw [kidS_len]
      simp
      omega)
     | (
      have:=h.ol
      simp
      omega)
     | exact h.sm
   ·cases ht
    first
     | (
      intro d hd
      obtain ⟨d0,h0,h1⟩:=endN_mem hd
      have:=h.kl d0 h0
      rw [List.length_append,List.length_singleton]
      omega)
     | (
      show (endN _ _ _).length ≤ _
      have:=h.nl
      rw [endN_len]
      simp
      omega)
     | (
      have:=h.ol
      simp
      omega)
     | (
      intro b hb
      exact h.sm b (List.dropLast_subset _ hb))
theorem sumL_le {L:List Binds} {k:Nat} (h:∀ m ∈ L,m.length ≤ k):sumL L ≤ k * L.length:=by
 unfold sumL
 induction L with
 | nil=>exact Nat.le_refl _
 | cons a r ih=>
  have h1:=h a List.mem_cons_self
  have h2:=ih fun m hm=>h m (List.mem_cons_of_mem _ hm)
  simp only [List.map_cons,List.sum_cons,List.length_cons,Nat.mul_succ]
  omega
theorem small_of {Ls:List Binds} (h:∀ m ∈ Ls,m.length ≤ 10000 ∧ ∀ p ∈ m,p.1.size ≤ bs.length) (hl:bs.length ≤ 1000000) (hL:Ls.length ≤ 20000002):Small Ls:=by
 refine ⟨?_,fun m hm p hp=>?_⟩
 ·have:=sumL_le (k:=10000) fun m hm=>(h m hm).1
  have h2:10000 * Ls.length ≤ 10000 * 20000002:=Nat.mul_le_mul_left _ hL
  omega
 ·have:=(h m hm).2 p hp
  unfold maxLen
  omega
theorem Ri.bad (h:Ri bs L es t n) {x:XE} {rest:List XE} {f:Int × Int} (hR:(allE bs L).1 = es ++ x :: rest) (ht:evS t x = .error f):parseS bs L = .error f:=by
 unfold parseS
 have:(allE bs L).1.foldlM evS ts0 = .error f:=by
  rw [hR,List.append_cons,List.foldlM_append,foldM_snoc,h.fold]
  show (do let a ← evS t x;_) = _
  rw [ht]
  rfl
 rw [this]
theorem Ri.done (h:Ri bs L es t n) (hb:Go.Proofs.YtbaokjfhigjpdaaGreatDoorX.Bytes bs) (hR:(allE bs L).1 = es):(parseS bs L = if (allE bs L).2.ferr ≠ 0 then .error ((allE bs L).2.fat,(allE bs L).2.ferr) else .ok t) ∧ ((allE bs L).2.ferr = 0 → n.roots = 1 ∧ n.stk = []):=by
 refine ⟨?_,fun h0=>?_⟩
 ·unfold parseS
  rw [hR,h.fold]
 ·obtain ⟨m,h1,_,h2⟩:=all_nst (L:=L) hb
  rw [hR,h.nest] at h1
  cases h1
  exact h2 h0
end
end Go.Proofs.YtbaokjfhigjpdaaGreatDoorT
end
section
set_option linter.unusedVariables false
namespace Go.Proofs.YtbaokjfhigjpdaaGreatDoorT
open Go.RowKit Go.Shelf Go.Proofs.YtbaokjfhigjpdaaGreatDoor.PXmlBase Go.Proofs.YtbaokjfhigjpdaaGreatDoorW.PrintWords
open Go.Proofs.YtbaokjfhigjpdaaGreatDoorN (Sc Fr Binds NA flatN flatB bindsL openS)
open Go.Proofs.YtbaokjfhigjpdaaGreatDoorX (RowAt PS PX Fx Lim St Tv XE NS NoPs EnvW NewR AttrRow EvRows EvCells EvOut st0 st0_inv limOf limOf_ok nextE next_good allE allL allL_rest restL muS muW Sim Inv nestF w5s w5s_size w5s_rest w5s_blk set5_block blk_lt blk_set blk_cell blk_frz lt_of_cell alloc_old ownsRow_of_blocks)
structure PL (w wr:World) (p:Nat) (bs:List Int) (L:Lim) (q:Nat) (o:Option XE) (s t:St) (T:Tv) (qs:Nat) (sv:Value) (ms:List NP) (ts:TS) (nn:NS) (ov:Value) (b0:Nat) (es:List XE) (ec:List Value):Prop where
  pz:Pz w wr p bs L s T qs sv ts.L ms ts.ns ov ts.op
  sim:Sim s t
  live:o.isSome = true → Inv bs L t ∧ t.state ≠ 3
  blk:wr.heap[q]? = some (.cells ec.toArray 95 (0,0))
  qf:w.heap.size ≤ q
  qx:¬ PX p T q
  ev:EvCells wr (PX p T) o ec
  res:∃ k,(o.isSome = true → muS bs.length t < k) ∧ allE bs L = (es ++ (restL bs L k o t).1,(restL bs L k o t).2)
  ri:Ri bs L es ts nn
  m0:(ms[0]?).map (·.b) = some b0
section
variable {w0 wr w':World} {p:Nat} {bs:List Int} {L:Lim} {s:St} {T:Tv} {q:Nat} {sv:Value} {Ls:List Binds} {ms:List NP} {ns:List ND} {ov:Value} {op:List Nat}
theorem Pz.off5 (h:Pz w0 wr p bs L s T q sv Ls ms ns ov op) {k:Nat} {c:Array Value} (hkc:wr.heap[k]? = some (.cells c 95 (0,0))) (h0:∃ z,c[0]? = some (.int .i64 z)) (hk:¬ PX p T k) (hq:k ≠ q) (hs:sv.ownBlock ≠ some k) (ht:¬ TX ms ov k) (hB:w0.heap.size ≤ k) (x0 x1 x2 x3 x4:Value) :
    Pz w0 (w5s wr k x0 x1 x2 x3 x4) p bs L s T q sv Ls ms ns ov op:=by
  have hS:=h.ps.off5 hkc h0 hk hB x0 x1 x2 x3 x4
  have hset:=set5_block wr k x0 x1 x2 x3 x4
  have hsz:=w5s_size wr k x0 x1 x2 x3 x4
  have hrest:=w5s_rest wr k x0 x1 x2 x3 x4
  generalize w5s wr k x0 x1 x2 x3 x4 = Wf at *
  refine ⟨⟨hrest.1.trans h.below.os,hrest.2.1.trans h.below.tape,hrest.2.2.trans h.below.output,by rw [hsz];exact h.below.size,fun j hj=>(hset j (by omega)).trans (h.below.block j hj)⟩,hS,h.sc.offM fun j hj hc=>hset j fun e=>?_,h.ar.off fun j hj=>hset j fun e=>ht (e ▸ hj),h.qB,h.sB,fun j hj=>?_,h.dps,h.dpt,h.dst,h.op0⟩
  ·subst e
   rcases hc with e | hc | ⟨es,c',hc⟩
   · exact hq e
   · exact hs hc
   ·rw [hkc] at hc
    cases hc
  ·obtain ⟨b,hc⟩:=h.s0 j hj
   exact ⟨b,(World.cell?_of_block (hset j fun e=>hs (e ▸ hj))).trans hc⟩
end
theorem pl_first {w wz W:World} {p qs b0:Nat} {bs:List Int} {L:Lim} {s':St} {T T':Tv} {sv ov:Value} {ms:List NP} {k a:Int} {n t:ByteArray} {A:Option Addr} {m c:Nat}
    (hz:Pz w wz p bs L st0 T qs sv ts0.L ms ts0.ns ov ts0.op) (hm:(ms[0]?).map (·.b) = some b0) (hS:PS W p w.heap.size bs L s' T') (hF:Fx wz W p T T') (hsim:Sim s' (nextE bs L st0).2)
    (hout:EvOut W p T' (nextE bs L st0).1 [.int .i64 k,.int .i64 a,.string n,.string t,.slice A m c]) :
    PL w (W.alloc (.cells #[.int .i64 k,.int .i64 a,.string n,.string t,.slice A m c] 95)) p bs L W.heap.size (nextE bs L st0).1 s' (nextE bs L st0).2 T' qs sv ms ts0 ⟨none,[],0⟩ ov b0 [] [.int .i64 k,.int .i64 a,.string n,.string t,.slice A m c]:=by
  have h1:=hz.next hS hF
  have hbA:=(Below.refl W.heap.size W).alloc (Nat.le_refl _) (.cells #[.int .i64 k,.int .i64 a,.string n,.string t,.slice A m c] 95)
  have h2:=h1.grow hbA
  have hg:=next_good (L:=L) hS.bytes (st0_inv bs L) (fun e=>by cases e)
  refine ⟨h2,hsim,fun ho=>?_,heap_alloc_new W _,h1.below.size,fun hx=>Nat.lt_irrefl _ (hS.xlt _ hx),?_,?_,ri0 bs L,hm⟩
  ·cases hn:nextE bs L st0 with
   | mk o u=>
    rw [hn] at hg ho
    cases o with
    | none=>cases ho
    | some x=>exact ⟨hg.2.1,hg.1⟩
  ·cases hn:nextE bs L st0 with
   | mk o u=>
    rw [hn] at hout
    cases o with
    | none=>exact hout
    | some x=>
     obtain ⟨av,h1,h2,h4⟩:=hout
     exact EvRows.on (es:=[x]) (fun k c hk hx=>⟨hbA.block k (Go.Proofs.YtbaokjfhigjpdaaGreatDoorX.blk_lt hk),hx⟩) ⟨av,[],h1,h2,h4,rfl⟩
  ·refine ⟨muS bs.length st0,fun ho=>?_,?_⟩
   ·cases hn:nextE bs L st0 with
    | mk o u=>
     rw [hn] at hg ho
     cases o with
     | none=>cases ho
     | some x=>exact hg.2.2
   ·unfold allE
    rw [allL_rest]
    simp
theorem pl_round {w wr w7 W:World} {p q qs b0:Nat} {bs:List Int} {L:Lim} {x:XE} {s s' t:St} {T T':Tv} {sv sv' ov ov':Value} {ms ms':List NP} {ts ts':TS} {nn nn':NS} {es:List XE} {ec:List Value} {o5:Array Value} {x0 x1 x2 x3 x4:Value}
    (hA:PL w wr p bs L q (some x) s t T qs sv ms ts nn ov b0 es ec) (h7:Pz w w7 p bs L s T qs sv' ts'.L ms' ts'.ns ov' ts'.op) (hr7:Ri bs L (es ++ [x]) ts' nn') (hm7:(ms'[0]?).map (·.b) = some b0) (h05:∃ z,o5[0]? = some (.int .i64 z)) (h5:o5.size = 5)
    (hF:Fx (w7.alloc (.cells o5 95)) W p T T') (hS':PS W p w.heap.size bs L s' T') (hsim:Sim s' (nextE bs L t).2) (hout:EvOut W p T' (nextE bs L t).1 [x0,x1,x2,x3,x4]) :
    PL w (w5s W w7.heap.size x0 x1 x2 x3 x4) p bs L w7.heap.size (nextE bs L t).1 s' (nextE bs L t).2 T' qs sv' ms' ts' nn' ov' b0 (es ++ [x]) [x0,x1,x2,x3,x4] ∧ muW bs.length p (w5s W w7.heap.size x0 x1 x2 x3 x4) < muW bs.length p wr:=by
  obtain ⟨hI,hst⟩:=hA.live rfl
  have hb8:=(Below.refl w7.heap.size w7).alloc (Nat.le_refl _) (.cells o5 95)
  have h78:(w7.alloc (.cells o5 95)).heap.size = w7.heap.size + 1:=by simp
  have hblk8:=heap_alloc_new w7 (.cells o5 95)
  have h8:=h7.grow hb8
  generalize w7.alloc (.cells o5 95) = w8 at *
  have hx7:¬ PX p T w7.heap.size:=fun hx=>Nat.lt_irrefl _ (h7.ps.xlt _ hx)
  have hxW:¬ PX p T' w7.heap.size:=fun hx=>(hF.grow _ hx).elim hx7 (by omega)
  have hblkW:=(hF.block _ (by omega) hx7).trans hblk8
  have hW:=h8.next hS' hF
  have hB7:=h7.below.size
  have hSf:=hW.off5 hblkW h05 hxW (by have:=h7.sc.lt;omega) (fun e=>by have:=h7.sc.svlt _ e;omega) (fun e=>by have:=h7.ar.below _ e;omega) hB7 x0 x1 x2 x3 x4
  have hset:=set5_block W w7.heap.size x0 x1 x2 x3 x4
  have hblkf:=w5s_blk hblkW h5 x0 x1 x2 x3 x4
  generalize w5s W w7.heap.size x0 x1 x2 x3 x4 = Wf at *
  have hmu1:=hSf.ps.muw bs.length
  have hmu2:=hA.pz.ps.muw bs.length
  have hg:=next_good (L:=L) h7.ps.bytes hI (fun e=>absurd e hst)
  obtain ⟨k,hk,hr⟩:=hA.res
  refine ⟨⟨hSf,hsim,fun ho=>?_,hblkf,hB7,hxW,?_,?_,hr7,hm7⟩,?_⟩
  ·cases hn:nextE bs L t with
   | mk o u=>
    rw [hn] at hg ho
    cases o with
    | none=>cases ho
    | some x=>exact ⟨hg.2.1,hg.1⟩
  ·cases hn:nextE bs L t with
   | mk o u=>
    rw [hn] at hout
    cases o with
    | none=>exact hout
    | some x=>
     obtain ⟨av,h1,h2,h4⟩:=hout
     refine EvRows.on (es:=[x]) (fun k c hk hx=>⟨hset k (fun e=>?_),hx⟩) ⟨av,[],h1,h2,h4,rfl⟩
     rw [e,hblkW] at hk
     simp at hk
  ·have hk:=hk rfl
   cases k with
   | zero=>omega
   | succ k=>
    have hr':allE bs L = (es ++ [x] ++ (allL bs L (k + 1) t).1,(allL bs L (k + 1) t).2):=by
     rw [hr]
     simp [restL]
    rw [allL_rest] at hr'
    refine ⟨k,fun ho=>?_,hr'⟩
    cases hn:nextE bs L t with
    | mk o u=>
     rw [hn] at hg ho
     cases o with
     | none=>cases ho
     | some y=>
      have:=hg.2.2
      show muS bs.length u < k
      omega
  ·rw [hmu1,hmu2,hsim.mu,hA.sim.mu]
   revert hg
   cases nextE bs L t with
   | mk o u=>
    cases o with
    | none=>
     intro hg
     show muS bs.length u < _
     have e:u.state = 3:=hg
     unfold muS
     rw [if_pos e,if_neg hst]
     omega
    | some y=>
     intro hg
     exact hg.2.2
end Go.Proofs.YtbaokjfhigjpdaaGreatDoorT
end
