/- What is proved: what the claims of this seat share, part 6: a program of ours merged it out of our own texts, the print's words and the laid shelf. Conditions: those of each. -/
import Derived.Test.YtbaokjfhigjpdaaGreatDoorMB5
set_option linter.unusedVariables false
set_option linter.unusedSimpArgs false
section
set_option linter.unusedVariables false
set_option linter.unusedSimpArgs false
namespace Go.Proofs.YtbaokjfhigjpdaaGreatDoorX
open Go.RowKit Go.Proofs.YtbaokjfhigjpdaaGreatDoor.PXmlBase Go.Proofs.YtbaokjfhigjpdaaGreatDoorW.PrintWords Go.Proofs.YtbaokjfhigjpdaaGreatDoorW.PrintLast Go.Proofs.YtbaokjfhigjpdaaGreatDoorW.PrintMore
def Bytes (l:List Int):Prop:=∀ x ∈ l,0 ≤ x ∧ x < 256
theorem Bytes.tail {c:Int} {l:List Int} (h:Bytes (c :: l)):Bytes l:=fun x hx=>h x (List.mem_cons_of_mem _ hx)
theorem Bytes.head {c:Int} {l:List Int} (h:Bytes (c :: l)):0 ≤ c ∧ c < 256:=h c List.mem_cons_self
theorem Bytes.drop {l:List Int} (h:Bytes l) (n:Nat):Bytes (l.drop n):=fun x hx=>h x (List.mem_of_mem_drop hx)
theorem Bytes.take {l:List Int} (h:Bytes l) (n:Nat):Bytes (l.take n):=fun x hx=>h x (List.mem_of_mem_take hx)
theorem Bytes.append {l m:List Int} (h:Bytes l) (h':Bytes m):Bytes (l ++ m):=fun x hx=>(List.mem_append.1 hx).elim (h x) (h' x)
theorem bytes_of (s:ByteArray):Bytes (bytesOf s):=by
 intro x hx
 obtain ⟨b,_,rfl⟩:=List.mem_map.1 hx
 have:=b.toNat_lt
 omega
theorem decode_eq {l:List Int} (h:Bytes l):char_Decode.f l = some (decS l):=by
 unfold char_Decode.f
 rw [if_pos]
 rw [List.all_eq_true]
 intro x hx
 have:=h.take 4 x hx
 unfold isByte
 simp;omega
theorem decS_ok {l:List Int} (h:Bytes l):decS l = (-1,0) ∨ (1 ≤ (decS l).2 ∧ (decS l).2 ≤ l.length ∧ (decS l).2 ≤ 4 ∧ 0 ≤ (decS l).1 ∧ (decS l).1 ≤ 1114111):=by
 match l,h with
 | [],h=>exact .inl rfl
 | c :: t,h=>
  have hc:=h.head
  have ht:=h.tail
  simp only [decS]
  split
  · exact .inr ⟨by simp,by simp only [List.length_cons];omega,by simp,hc.1,by simp only [];omega⟩
  ·split
   ·match t,ht with
    | [],_=>exact .inl rfl
    | a :: t1,ht=>
     have ha:=ht.head
     simp only []
     repeat' split
     all_goals first | exact .inl rfl | (refine .inr ⟨by simp,by simp only [List.length_cons];omega,by simp,?_,?_⟩ <;> (simp only [];omega))
   ·split
    ·match t,ht with
     | [],_=>exact .inl rfl
     | [a],_=>exact .inl rfl
     | a :: b :: t1,ht=>
      have ha:=ht.head
      have hb:=ht.tail.head
      simp only []
      repeat' split
      all_goals first | exact .inl rfl | (refine .inr ⟨by simp,by simp only [List.length_cons];omega,by simp,?_,?_⟩ <;> (simp only [];omega))
    ·split
     ·match t,ht with
      | [],_=>exact .inl rfl
      | [a],_=>exact .inl rfl
      | [a,b],_=>exact .inl rfl
      | a :: b :: d :: t1,ht=>
       have ha:=ht.head
       have hb:=ht.tail.head
       have hd:=ht.tail.tail.head
       simp only []
       repeat' split
       all_goals first | exact .inl rfl | (refine .inr ⟨by simp,by simp only [List.length_cons];omega,by simp,?_,?_⟩ <;> (simp only [];omega))
     · exact .inl rfl
def charB (r:Int):Bool:=decide (r = 9 ∨ r = 10 ∨ r = 13 ∨ (32 ≤ r ∧ r ≤ 55295) ∨ (57344 ≤ r ∧ r ≤ 65533) ∨ (65536 ≤ r ∧ r ≤ 1114111))
theorem char_eq (r:Int):char_Char.f r = some (charB r):=by
 unfold char_Char.f charB
 repeat' split
 all_goals (congr 1;rw [Bool.eq_iff_iff];first | (simp;done) | (simp;omega))
theorem w64 {x:Int} (h0:0 ≤ x) (h1:x < 4611686018427387904):wrap64 x = x:=by unfold wrap64;omega
def startB (r:Int):Bool:=decide ((65 ≤ r ∧ r ≤ 90) ∨ (97 ≤ r ∧ r ≤ 122) ∨ r = 95 ∨ r = 58 ∨ (192 ≤ r ∧ r ≠ 215 ∧ r ≠ 247 ∧ charB r = true))
def partB (r:Int):Bool:=decide (startB r = true ∨ (48 ≤ r ∧ r ≤ 57) ∨ r = 45 ∨ r = 46 ∨ r = 183)
theorem start_eq (k:Nat) (r:Int):char_Start.f (k + 2) r = some (startB r):=by
 unfold char_Start.f startB
 simp only [char_Start.j0,char_Start.j1,char_eq,Option.bind_some,decide_eq_true_eq]
 cases hc:charB r
 all_goals
  repeat' split
  all_goals first | contradiction | rfl | (congr 1;rw [Bool.eq_iff_iff];simp only [decide_eq_true_eq,beq_iff_eq,reduceCtorEq,true_iff,false_iff,and_true,and_false,or_false,false_or,true_or,or_true,not_true,not_false_iff,ne_eq];omega) | (congr 1;rw [Bool.eq_iff_iff];simp only [decide_eq_true_eq,beq_iff_eq,reduceCtorEq,true_iff,false_iff,and_true,and_false,or_false,false_or,true_or,or_true,not_true,not_false_iff,ne_eq];done) | (congr 1;rw [Bool.eq_iff_iff];omega) | (congr 1;simp;done)
theorem start_ev (r:Int):Ev (fun k=>char_Start.f k r) (startB r):=⟨2,fun k hk=>by obtain ⟨j,rfl⟩:∃ j,k = j + 2:=⟨k - 2,by omega⟩;exact start_eq j r⟩
theorem part_eq (k:Nat) (r:Int):char_Part.f (k + 2) r = some (partB r):=by
 unfold char_Part.f partB
 rw [start_eq]
 simp only [Option.bind_some]
 cases hc:startB r
 all_goals
  repeat' split
  all_goals first | contradiction | rfl | (congr 1;rw [Bool.eq_iff_iff];simp only [decide_eq_true_eq,beq_iff_eq,reduceCtorEq,true_iff,false_iff,and_true,and_false,or_false,false_or,true_or,or_true,not_true,not_false_iff,ne_eq];omega) | (congr 1;rw [Bool.eq_iff_iff];simp only [decide_eq_true_eq,beq_iff_eq,reduceCtorEq,true_iff,false_iff,and_true,and_false,or_false,false_or,true_or,or_true,not_true,not_false_iff,ne_eq];done) | (congr 1;rw [Bool.eq_iff_iff];omega) | (congr 1;simp;done)
theorem part_ev (r:Int):Ev (fun k=>char_Part.f k r) (partB r):=⟨2,fun k hk=>by obtain ⟨j,rfl⟩:∃ j,k = j + 2:=⟨k - 2,by omega⟩;exact part_eq j r⟩
def whiteB (r:Int):Bool:=decide (r = 32 ∨ r = 9 ∨ r = 10 ∨ r = 13)
theorem white_c (r:Int) (w:World):Calls Tryz.prog 75 #[.int .i32 r] w fun e w'=>e = .returned (.bool (whiteB r)) ∧ Below w.heap.size w w':=by
 have h:char_White.f r = some (whiteB r):=by
  unfold char_White.f whiteB
  by_cases h1:r = 32
  · simp [h1]
  ·by_cases h2:r = 9
   · simp [h2]
   ·by_cases h3:r = 10
    · simp [h3]
    ·simp [h1,h2,h3]
     by_cases h4:r = 13 <;> simp [h4]
 exact (char_White.calls r _ w h).mono fun e w' hh=>⟨hh.1,hh.2.below⟩
theorem char_c (r:Int) (w:World):Calls Tryz.prog 152 #[.int .i32 r] w fun e w'=>e = .returned (.bool (charB r)) ∧ Below w.heap.size w w' :=
  (char_Char.calls r _ w (char_eq r)).mono fun e w' hh=>⟨hh.1,hh.2.below⟩
theorem start_c (r:Int) (w:World):Calls Tryz.prog 107 #[.int .i32 r] w fun e w'=>e = .returned (.bool (startB r)) ∧ Below w.heap.size w w' :=
  (char_Start.calls 2 r _ w (start_eq 0 r)).mono fun e w' hh=>⟨hh.1,hh.2.below⟩
theorem part_c (r:Int) (w:World):Calls Tryz.prog 144 #[.int .i32 r] w fun e w'=>e = .returned (.bool (partB r)) ∧ Below w.heap.size w w' :=
  (char_Part.calls 2 r _ w (part_eq 0 r)).mono fun e w' hh=>⟨hh.1,hh.2.below⟩
theorem encode_c (r:Int) (w:World):Calls Tryz.prog 151 #[.int .i32 r] w fun e w'=>∃ v:Value,e = .returned v ∧ Kd.R (Kd.int .u8) 5 w' w.heap.size (fun _=>True) v (encC r) ∧ Below w.heap.size w w' :=
  char_Encode.calls r _ w rfl
theorem hasPrefix_c (s p:ByteArray) (w:World) :
    Calls Tryz.prog 86 #[.string s,.string p] w fun e w'=>e = .returned (.bool (Lib.hasPrefix s.data.toList p.data.toList)) ∧ w' = w:=Tryz.strings_HasPrefix s p w
end Go.Proofs.YtbaokjfhigjpdaaGreatDoorX
end
