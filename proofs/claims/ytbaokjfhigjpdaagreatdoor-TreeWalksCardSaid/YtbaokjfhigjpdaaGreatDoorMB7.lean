/- What is proved: what the claims of this seat share, part 7: a program of ours merged it out of our own texts, the print's words and the laid shelf. Conditions: those of each. -/
import Derived.Test.YtbaokjfhigjpdaaGreatDoorMB6
import Derived.Laws.RangeAny
import Derived.Laws.RangeString
import Derived.ScopeJumps
import Derived.WalkMore
set_option linter.unusedVariables false
set_option linter.unusedSimpArgs false
section
set_option linter.unusedVariables false
namespace Go.Proofs.YtbaokjfhigjpdaaGreatDoorX
open Go.RowKit Go.Shelf Go.Proofs.YtbaokjfhigjpdaaGreatDoor.PXmlBase Go.Proofs.YtbaokjfhigjpdaaGreatDoorW.PrintWords
set_option maxRecDepth 100000 in
set_option maxHeartbeats 2000000 in
theorem simple_76 (w:World) (h:w.cell? ⟨0,76,none⟩ = some (.int .u16 108)) :
    Calls Tryz.prog 205 #[.int .i32 76] w fun e w'=>e = .returned (.int .i32 108) ∧ w' = w:=by
  go_enter Tryz.func205,Tryz.ntmps205
  go_wp2
  go_ret
  exact ⟨rfl,rfl⟩
set_option maxRecDepth 100000 in
set_option maxHeartbeats 2000000 in
theorem simple_77 (w:World) (h:w.cell? ⟨0,77,none⟩ = some (.int .u16 109)) :
    Calls Tryz.prog 205 #[.int .i32 77] w fun e w'=>e = .returned (.int .i32 109) ∧ w' = w:=by
  go_enter Tryz.func205,Tryz.ntmps205
  go_wp2
  go_ret
  exact ⟨rfl,rfl⟩
set_option maxRecDepth 100000 in
set_option maxHeartbeats 2000000 in
theorem simple_88 (w:World) (h:w.cell? ⟨0,88,none⟩ = some (.int .u16 120)) :
    Calls Tryz.prog 205 #[.int .i32 88] w fun e w'=>e = .returned (.int .i32 120) ∧ w' = w:=by
  go_enter Tryz.func205,Tryz.ntmps205
  go_wp2
  go_ret
  exact ⟨rfl,rfl⟩
set_option maxRecDepth 100000 in
set_option maxHeartbeats 2000000 in
theorem simple_108 (w:World) (h:w.cell? ⟨0,108,none⟩ = some (.int .u16 76)) :
    Calls Tryz.prog 205 #[.int .i32 108] w fun e w'=>e = .returned (.int .i32 76) ∧ w' = w:=by
  go_enter Tryz.func205,Tryz.ntmps205
  go_wp2
  go_ret
  exact ⟨rfl,rfl⟩
set_option maxRecDepth 100000 in
set_option maxHeartbeats 2000000 in
theorem simple_109 (w:World) (h:w.cell? ⟨0,109,none⟩ = some (.int .u16 77)) :
    Calls Tryz.prog 205 #[.int .i32 109] w fun e w'=>e = .returned (.int .i32 77) ∧ w' = w:=by
  go_enter Tryz.func205,Tryz.ntmps205
  go_wp2
  go_ret
  exact ⟨rfl,rfl⟩
set_option maxRecDepth 100000 in
set_option maxHeartbeats 2000000 in
theorem simple_120 (w:World) (h:w.cell? ⟨0,120,none⟩ = some (.int .u16 88)) :
    Calls Tryz.prog 205 #[.int .i32 120] w fun e w'=>e = .returned (.int .i32 88) ∧ w' = w:=by
  go_enter Tryz.func205,Tryz.ntmps205
  go_wp2
  go_ret
  exact ⟨rfl,rfl⟩
theorem tabs_below {w w':World} {a b:Nat} (h:Lib.Utf8Tabs a b w) (hb:Below w.heap.size w w'):Lib.Utf8Tabs a b w' :=
  ⟨fun c hc=>(hb.cell (World.block_lt_of_cell? w _ (h.1 c hc))).trans (h.1 c hc),fun i hi=>⟨(hb.cell (World.block_lt_of_cell? w _ (h.2 i hi).1)).trans (h.2 i hi).1,(hb.cell (World.block_lt_of_cell? w _ (h.2 i hi).2)).trans (h.2 i hi).2⟩⟩
theorem ext0 (s:ByteArray) (k n:Nat) (h:k < n) (hn:n ≤ s.size) (h0:0 < (s.extract k n).size):(s.extract k n)[0]'h0 = s[k]'(by omega):=by
 rw [ByteArray.getElem_extract]
 simp
theorem decode_high (s:ByteArray) (h:0 < s.size) (h1:128 ≤ (s[0]'h).toNat):128 ≤ (Utf8.decode s 0).1:=by
 have e:s.get! (0 + 0) = s[0]'h:=by
  show s.get! 0 = _
  simp [ByteArray.get!,getElem!_pos,h]
  rfl
 simp only [Utf8.decode,e]
 generalize (s[0]'h).toNat = b0 at *
 rw [if_neg (by omega)]
 repeat' split
 all_goals simp_all [Utf8.runeError]
 all_goals omega
theorem decodeGo_low (s:ByteArray) (h:0 < s.size) (h1:(s[0]'h).toNat < 128):Lib.decodeGo s = ((s[0]'h).toNat,1):=by
 unfold Lib.decodeGo
 rw [if_neg (by omega)]
 exact decode_ascii s 0 h h1
def foldJ (s t:ByteArray) (w:World):Act → World → Prop:=fun a' w'=>w' = w ∧ ∃ (k:Nat) (hk:k < s.size) (u4 u6 u7 u8 u14 u15 u16 u17 u18 u19 u20 u21 u22 u23 u24 u25 u26 u27 u28 u29 u30 u31 u32 u33 u34 u35 u36 u37 u38 u39 u40 u41 u42 u43 u44 u45 u46 u47 u48 u49 u50 u51 u52 u53 u54:Value),k < 3 ∧ 128 ≤ (s[k]'hk).toNat ∧ a' = { tmps:=#[.string s,.string t,undef,undef,u4,.int .i64 (k:Nat),u6,u7,u8,undef,undef,undef,undef,undef,u14,u15,u16,u17,u18,u19,u20,u21,u22,u23,u24,u25,u26,u27,u28,u29,u30,u31,u32,u33,u34,u35,u36,u37,u38,u39,u40,u41,u42,u43,u44,u45,u46,u47,u48,u49,u50,u51,u52,u53,u54,undef,undef,undef,undef,undef,undef,undef,undef,undef,undef,undef,undef,undef,undef,undef,undef,undef,undef,undef,undef,undef,undef,undef,undef,undef,undef,undef,undef,undef,undef,undef,undef,undef,undef,undef,undef,undef,undef,undef,undef,undef,undef,undef,undef,undef,undef,undef,undef,undef,undef,undef,undef,undef,undef,undef,undef,undef,undef,undef,undef,undef,undef,undef,undef,undef,undef,undef,undef],defers:=[] }
set_option maxRecDepth 100000 in
set_option maxHeartbeats 4000000 in
theorem fold_c (s t:ByteArray) (w:World) (hs:s.size ≤ 1099511627776) (ht3:t.size = 3) (hta:∀ j (hj:j < t.size),(t[j]'hj).toNat < 128) (hT:Lib.Utf8Tabs 4 5 w)
    (hS:∀ j (hj:j < t.size) (w':World),Below w.heap.size w w' → (Calls Tryz.prog 205 #[.int .i32 (t[j]'hj).toNat] w' fun e w''=>e = .returned (.int .i32 ((t[j]'hj).toNat - 32:Int)) ∧ w'' = w') ∧ (Calls Tryz.prog 205 #[.int .i32 ((t[j]'hj).toNat - 32:Int)] w' fun e w''=>e = .returned (.int .i32 (t[j]'hj).toNat) ∧ w'' = w')) (hna:∃ (j:Nat) (hj:j < s.size),128 ≤ (s[j]'hj).toNat) :
    Calls Tryz.prog 160 #[.string s,.string t] w fun e w'=>e = .returned (.bool false) ∧ Below w.heap.size w w':=by
  obtain ⟨M,hM⟩:∃ M:Nat,min (s.size:Int) (t.size:Int) = (M:Int):=⟨min s.size t.size,by omega⟩
  have hMs:M ≤ s.size:=by omega
  have hMt:M ≤ 3:=by omega
  have hMe:M = s.size ∨ M = 3:=by omega
  go_enter Tryz.func160,Tryz.ntmps160
  go_wp2
  refine wp_scope_jumps 0 (foldJ s t w) (fun _ _=>0) rfl ?_ ?_
  ·go_wp2
   go_loopw [5] (fun i wr=>wr = w ∧ ∃ k:Nat,k ≤ M ∧ i = .int .i64 k ∧ ∀ j (hj:j < s.size),j < k → (s[j]'hj).toNat < 128) (fun i _=>M - (intOf i).toNat)
   case atStart=>exact ⟨rfl,0,by omega,rfl,fun j hj h=>absurd h (by omega)⟩
   case round=>
    obtain ⟨rfl,k,hk,rfl,hlo⟩:=hrel
    clear hM
    by_cases hend:k = M
    ·have hiM:¬ ((k:Int) < (M:Int)):=by omega
     have hb:((s.size:Int) == (t.size:Int)) = false:=by
      rw [beq_eq_false_iff_ne]
      intro h3
      obtain ⟨j,hj,h⟩:=hna
      have:=hlo j hj (by omega)
      omega
     go_wp2
     all_goals (unfold Exit.jump;go_ret;exact ⟨by first | exact congrArg (fun b=>Ending.returned (Value.bool b)) hb | (rw [ht3] at hb;exact congrArg (fun b=>Ending.returned (Value.bool b)) hb),Below.refl _ _⟩)
    ·have hiM:(k:Int) < (M:Int):=by omega
     have hisz:(k:Int) < (s.size:Int):=by omega
     have hitz:(k:Int) < (t.size:Int):=by omega
     have hk1:k < s.size:=by omega
     have hk2:k < t.size:=by omega
     have hy128:=hta k hk2
     obtain ⟨x,hx⟩:∃ x:UInt8,s[k] = x:=⟨_,rfl⟩
     obtain ⟨y,hy⟩:∃ y:UInt8,t[k] = y:=⟨_,rfl⟩
     rw [hy] at hy128
     have hxx:=x.toNat_lt
     have hor:bits .or .u8 (x.toNat:Int) (y.toNat:Int) = ((x.toNat ||| y.toNat:Nat):Int):=u8_or_nat _ _ (by omega) (by omega)
     by_cases hx128:x.toNat < 128
     ·have hor128:¬ ((128:Int) ≤ ((x.toNat ||| y.toNat:Nat):Int)):=by have:=Nat.or_lt_two_pow (n:=7) hx128 hy128;omega
      go_wp2
      all_goals first
       | (unfold Exit.jump;go_ret;exact ⟨rfl,Below.refl _ _⟩)
       | (
        refine ⟨⟨trivial,k + 1,by omega,by simp,fun j hj h=>?_⟩,by simp [intOf];omega⟩
        rcases Nat.lt_or_ge j k with h1 | h1
        · exact hlo j hj h1
        ·obtain rfl:j = k:=by omega
         rw [hx]
         exact hx128)
     ·have hor128:(128:Int) ≤ ((x.toNat ||| y.toNat:Nat):Int):=by have:=Nat.left_le_or (n:=x.toNat) (m:=y.toNat);omega
      go_wp2
      go_step3
      refine ⟨rfl,?_⟩
      unfold foldJ
      exact ⟨rfl,k,hk1,_,_,_,_,_,_,_,_,_,_,_,_,_,_,_,_,_,_,_,_,_,_,_,_,_,_,_,_,_,_,_,_,_,_,_,_,_,_,_,_,_,_,_,_,_,by omega,by rw [hx];omega,rfl⟩
  ·intro a' w' hJ
   unfold foldJ at hJ
   obtain ⟨rfl,k,hk,u4,u6,u7,u8,u14,u15,u16,u17,u18,u19,u20,u21,u22,u23,u24,u25,u26,u27,u28,u29,u30,u31,u32,u33,u34,u35,u36,u37,u38,u39,u40,u41,u42,u43,u44,u45,u46,u47,u48,u49,u50,u51,u52,u53,u54,hk3,hx128,rfl⟩:=hJ
   clear hM hMs hMt hMe hna
   have hk2:k < t.size:=by omega
   have hy:=hS k hk2
   have hy128:=hta k hk2
   clear hS hta
   have hkk:(k:Int) < (3:Int):=by omega
   have hkl:(k:Int) ≤ (s.size:Int):=by omega
   go_wp2
   obtain ⟨S1,hS1⟩:∃ S1,s.extract k s.size = S1:=⟨_,rfl⟩
   obtain ⟨T1,hT1⟩:∃ T1,t.extract k 3 = T1:=⟨_,rfl⟩
   have hz1:0 < S1.size:=by rw [← hS1];simp;omega
   have hz2:0 < T1.size:=by rw [← hT1];simp;omega
   have hg1:S1[0]'hz1 = s[k]:=by
    subst hS1
    exact ext0 s k s.size hk (Nat.le_refl _) hz1
   have hg2:T1[0]'hz2 = t[k]:=by
    subst hT1
    exact ext0 t k 3 hk3 (by omega) hz2
   rw [← hg1] at hx128
   rw [← hg2] at hy hy128
   have hv:=decode_high S1 hz1 hx128
   have hv2:=decode_le S1 0
   have hdg:=decodeGo_low T1 hz2 hy128
   have hnx:∀ ty,(Instr.next (.pointer (some ⟨w'.heap.size,0,none⟩)) true ty).run Tryz.prog (w'.iter S1 0) = _:=fun ty=>run_next_any w' S1 0 ty hz1
   rw [hS1,hT1]
   simp only [Nat.zero_add] at hnx
   generalize (Utf8.decode S1 0).1 = V at *
   generalize (Utf8.decode S1 0).2 = VN at *
   generalize (T1[0]'hz2).toNat = Y at *
   clear hS1 hT1 hg1 hg2 hx128 hk2 hk3 hkk hkl ht3
   go_loopw [1] (fun u wr=>u = .string T1 ∧ wr = w'.iter S1 0) (fun _ _=>0)
   case atStart=>exact ⟨rfl,rfl⟩
   case round=>
    obtain ⟨rfl,rfl⟩:=hrel
    have hit:Below w'.heap.size w' (w'.iter S1 VN):=(Below.refl _ w').alloc (Nat.le_refl _) _
    have hde:=Tryz.utf8_DecodeRuneInString T1 (w'.iter S1 VN) (tabs_below hT hit)
    rw [hdg] at hde
    have e1:((Y:Int) == (V:Int)) = false:=by rw [beq_eq_false_iff_ne];omega
    have e2:(Y:Int) < (V:Int):=by omega
    have e3:¬ ((V:Int) < 128):=by omega
    have e4:((T1.size:Int) == 0) = false:=by rw [beq_eq_false_iff_ne];omega
    have e5:(1:Int) ≤ (T1.size:Int):=by omega
    go_wp2_with (first
     | (go_at_call 204;go_loud (refine hde.mono ?_;rintro e w3 ⟨rfl,hb3⟩;have hb33:=hit.trans (hb3.mono hit.size)))
     | (go_at_call 205;go_loud (refine (hy w3 hb33).1.mono ?_;rintro e w4 ⟨rfl,rfl⟩)))
    go_loopw [13] (fun u wr=>wr = w4 ∧ (u = .int .i32 (Y - 32:Int) ∨ u = .int .i32 (Y:Int))) (fun u _=>if intOf u = (Y:Int) then 0 else 1)
    case atStart=>exact ⟨rfl,.inl rfl⟩
    case round=>
     obtain ⟨rfl,rfl | rfl⟩:=hrel
     ·have e6:((Y:Int) - 32 != (Y:Int)) = true:=by rw [bne_iff_ne];omega
      have e7:(Y:Int) - 32 < (V:Int):=by omega
      go_wp2_with (first
       | (go_at_call 205;go_loud (refine (hy _ hb33).2.mono ?_;rintro e w5 ⟨rfl,rfl⟩)))
      exact ⟨⟨trivial,.inr rfl⟩,by show (if (Y:Int) = (Y:Int) then 0 else 1) < (if ((Y:Int) - 32) = (Y:Int) then 0 else 1);rw [if_pos rfl,if_neg (by omega)];decide⟩
     ·have e6:((Y:Int) != (Y:Int)) = false:=by simp
      go_wp2
      unfold Exit.jump
      go_ret
      exact ⟨rfl,hb33⟩
end Go.Proofs.YtbaokjfhigjpdaaGreatDoorX
end
section
set_option linter.unusedVariables false
namespace Go.Proofs.YtbaokjfhigjpdaaGreatDoorX
open Go.RowKit Go.Proofs.YtbaokjfhigjpdaaGreatDoor.PXmlBase Go.Proofs.YtbaokjfhigjpdaaGreatDoorW.PrintWords
abbrev Flt:=Nat × Int
abbrev XR (α:Type):=Except Flt α
def peekS (bs:List Int) (a:Nat):XR Int :=
  if a = bs.length then .ok (-1)
  else if charB (decS ((bs.drop a).take 4)).1 = true then .ok (decS ((bs.drop a).take 4)).1 else .error (a,2)
def mustS (bs:List Int) (a:Nat):XR Int:=if a = bs.length then .error (a,2) else peekS bs a
def stepS (r:Int) (a:Nat):Nat:=a + (encC r).length
def nextS (bs:List Int) (a:Nat):XR (Int × Nat):=match peekS bs a with
 | .error e=>.error e
 | .ok r=>.ok (r,stepS r a)
def refuseF (bs:List Int) (cur at_:Nat):Flt:=match peekS bs cur with
 | .error e=>e
 | .ok _=>(at_,2)
def whiteL (bs:List Int):Nat → Nat → XR Nat
  | 0,a=>.ok a
  | k + 1,a=>match peekS bs a with
   | .error e=>.error e
   | .ok r=>if whiteB r = true then whiteL bs k (stepS r a) else .ok a
def whiteS (bs:List Int) (a:Nat):XR Nat:=whiteL bs (bs.length + 1) a
def hasS (bs w:List Int) (a:Nat):Bool × Bool :=
  if ((bs.drop a).take w.length).isPrefixOf w = true then (decide (((bs.drop a).take w.length).length = w.length),decide (((bs.drop a).take w.length).length < w.length)) else (false,false)
def takesS (bs w:List Int) (a:Nat):Bool × Nat:=if (hasS bs w a).1 = true then (true,a + w.length) else (false,a)
def earlyS (bs:List Int) (l:List (List Int)) (a:Nat):Option Flt:=if l.any (fun w=>(hasS bs w a).2) = true then some (bs.length,2) else none
def wantS (bs w:List Int) (a:Nat):XR Nat :=
  if (hasS bs w a).1 = true then .ok (a + w.length)
  else match earlyS bs [w] a with
   | some e=>.error e
   | none=>.error (refuseF bs a a)
def nameL (bs:List Int) (tk at0:Nat):Nat → Nat → XR Nat
  | 0,a=>.ok a
  | k + 1,a=>match peekS bs a with
   | .error e=>.error e
   | .ok r=>if partB r = true then (if tk < stepS r a - at0 then .error (at0,3) else nameL bs tk at0 k (stepS r a)) else .ok a
def cutS (bs:List Int) (a e:Nat):List Int:=(bs.drop a).take (e - a)
def nameS (bs:List Int) (tk a:Nat):XR (List Int × Nat):=match peekS bs a with
 | .error e=>.error e
 | .ok r=>if startB r = true then (match nameL bs tk a (bs.length + 1) a with
  | .error e=>.error e
  | .ok e=>.ok (cutS bs a e,e)) else .error (refuseF bs a a)
def digitS (r base:Int):Int :=
  if (if 48 ≤ r ∧ r ≤ 57 then r - 48 else if 97 ≤ r ∧ r ≤ 102 then r - 87 else if 65 ≤ r ∧ r ≤ 70 then r - 55 else -1) ≥ base then -1
  else (if 48 ≤ r ∧ r ≤ 57 then r - 48 else if 97 ≤ r ∧ r ≤ 102 then r - 87 else if 65 ≤ r ∧ r ≤ 70 then r - 55 else -1)
def numberL (bs:List Int) (base:Int):Nat → Int → Nat → XR (Int × Nat)
  | 0,v,a=>.ok (v,a)
  | k + 1,v,a=>match peekS bs a with
   | .error e=>.error e
   | .ok r=>if digitS r base ≥ 0 then numberL bs base k (min (v * base + digitS r base) 1114112) (stepS r a) else .ok (v,a)
def numberE (bs:List Int) (at_:Nat) (fr:Nat) (v:Int) (a:Nat):XR (Int × Nat):=match mustS bs a with
 | .error e=>.error e
 | .ok r=>if r ≠ 59 ∨ a = fr ∨ charB v = false then .error (refuseF bs a at_) else .ok (v,stepS r a)
def numberB (bs:List Int) (at_:Nat) (base:Int) (a:Nat):XR (Int × Nat):=match numberL bs base (bs.length + 1) 0 a with
 | .error e=>.error e
 | .ok (v,e)=>numberE bs at_ a v e
def numberS (bs:List Int) (at_ a:Nat):XR (Int × Nat):=match mustS bs a with
 | .error e=>.error e
 | .ok r=>if r = 120 then numberB bs at_ 16 (stepS r a) else numberB bs at_ 10 a
def refWords:List (List Int × Int):=[([108,116,59],60),([103,116,59],62),([97,109,112,59],38),([113,117,111,116,59],34),([97,112,111,115,59],39)]
def refS (bs:List Int) (at_ a:Nat):XR (Int × Nat):=match refWords.find? (fun w=>(hasS bs w.1 a).1) with
 | some w=>.ok (w.2,a + w.1.length)
 | none=>match earlyS bs (refWords.map (·.1)) a with
  | some e=>.error e
  | none=>.error (refuseF bs a at_)
def referenceS (bs:List Int) (a:Nat):XR (Int × Nat):=match nextS bs a with
 | .error e=>.error e
 | .ok (_,a1)=>match mustS bs a1 with
  | .error e=>.error e
  | .ok r=>if r = 35 then numberS bs a (stepS r a1) else refS bs a a1
def quoteS (bs:List Int) (a:Nat):XR (Int × Nat):=match peekS bs a with
 | .error e=>.error e
 | .ok r=>if r ≠ 34 ∧ r ≠ 39 then .error (refuseF bs a a) else .ok (r,stepS r a)
def crS (bs:List Int) (r:Int) (a:Nat):XR Nat:=if r = 13 then (match peekS bs a with
 | .error e=>.error e
 | .ok r2=>if r2 = 10 then .ok (stepS r2 a) else .ok a) else .ok a
def valueStep (bs:List Int) (q:Int) (a:Nat):XR (Option Int × Nat):=match mustS bs a with
 | .error e=>.error e
 | .ok r=>if r = q then .ok (none,stepS r a)
   else if r = 60 then .error (refuseF bs a a)
   else if r = 38 then (match referenceS bs a with
    | .error e=>.error e
    | .ok (c,a1)=>.ok (some c,a1))
   else match crS bs r (stepS r a) with
    | .error e=>.error e
    | .ok a1=>.ok (some (if whiteB r = true then 32 else r),a1)
def valueL (bs:List Int) (tk at0:Nat) (q:Int):Nat → List Int → Nat → XR (List Int × Nat)
  | 0,out,a=>.ok (out,a)
  | k + 1,out,a=>match valueStep bs q a with
   | .error e=>.error e
   | .ok (none,a1)=>.ok (out,a1)
   | .ok (some c,a1)=>if tk < (out ++ encC c).length then .error (at0,3) else valueL bs tk at0 q k (out ++ encC c) a1
def valueS (bs:List Int) (tk a:Nat):XR (List Int × Nat):=match quoteS bs a with
 | .error e=>.error e
 | .ok (q,a1)=>valueL bs tk a q (bs.length + 1) [] a1
def noteL (bs:List Int):Nat → Nat → XR Nat
  | 0,a=>.ok a
  | k + 1,a=>match mustS bs a with
   | .error e=>.error e
   | .ok _=>if (hasS bs [45,45] a).1 = true then (match mustS bs (a + 2) with
       | .error e=>.error e
       | .ok r=>if r ≠ 62 then .error (refuseF bs (a + 2) a) else .ok (stepS r (a + 2)))
     else match nextS bs a with
      | .error e=>.error e
      | .ok (_,a1)=>noteL bs k a1
def noteS (bs:List Int) (a:Nat):XR Nat:=noteL bs (bs.length + 1) a
def untilL (bs w:List Int):Nat → Nat → XR Nat
  | 0,a=>.ok a
  | k + 1,a=>if (hasS bs w a).1 = true then .ok (a + w.length) else match mustS bs a with
   | .error e=>.error e
   | .ok r=>untilL bs w k (stepS r a)
def isXml (l:List Int):Bool:=match l with
 | [a,b,c]=>decide ((a = 120 ∨ a = 88) ∧ (b = 109 ∨ b = 77) ∧ (c = 108 ∨ c = 76))
 | _=>false
def instructionS (bs:List Int) (tk a:Nat):XR Nat:=match mustS bs a with
 | .error e=>.error e
 | .ok _=>match nameS bs tk a with
  | .error e=>.error e
  | .ok (n,a1)=>if isXml n = true then .error (a,2)
    else if (hasS bs [63,62] a1).1 = true then .ok (a1 + 2)
    else match earlyS bs [[63,62]] a1 with
     | some e=>.error e
     | none=>match whiteS bs a1 with
      | .error e=>.error e
      | .ok a2=>if a2 = a1 then .error (refuseF bs a2 a2) else untilL bs [63,62] (bs.length + 1) a2
def eqS (bs:List Int) (a:Nat):XR Nat:=match whiteS bs a with
 | .error e=>.error e
 | .ok a1=>match mustS bs a1 with
  | .error e=>.error e
  | .ok r=>if r ≠ 61 then .error (refuseF bs a1 a1) else whiteS bs (stepS r a1)
end Go.Proofs.YtbaokjfhigjpdaaGreatDoorX
end
