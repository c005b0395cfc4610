/- What is proved: what the claims of this seat share, part 8: a program of ours merged it out of our own texts, the print's words and the laid shelf. Conditions: those of each. -/
import Derived.Test.YtbaokjfhigjpdaaGreatDoorMB7
import Derived.BigQuiet
import Derived.WalkKit
import Derived.WalkSmall
set_option linter.unusedVariables false
set_option linter.unusedSimpArgs false
section
set_option linter.unusedVariables false
namespace Go.Proofs.YtbaokjfhigjpdaaGreatDoorX
open Go.RowKit Go.Shelf Go.Proofs.YtbaokjfhigjpdaaGreatDoor.PXmlBase Go.Proofs.YtbaokjfhigjpdaaGreatDoorW.PrintWords
theorem lt_of_cell {w:World} {p:Addr} {v:Value} (h:w.cell? p = some v):p.block < w.heap.size:=World.block_lt_of_cell? w p h
theorem cellB {n:Nat} {a b:World} (hb:Below n a b) {p:Addr} {v:Value} (h:a.cell? p = some v) (hp:p.block < n):b.cell? p = some v:=(hb.cell hp).trans h
theorem freeB {n:Nat} {a b:World} (hb:Below n a b) {p:Addr} (h:a.frozen? p = false) (hp:p.block < n):b.frozen? p = false:=(World.frozen?_of_block (hb.block _ hp)).trans h
theorem plain_add (b o n:Nat):(⟨b,o,none⟩:Addr).add n = ⟨b,o + n,none⟩:=by unfold Addr.add;split <;> simp_all
def fltV (f:Flt):List PanicEntry:=[{ v:=.iface 155 (.agg #[.int .i64 f.1,.int .i64 f.2]),recovered:=false }]
def Out (r:XR Value) (e:Ending):Prop:=match r with
 | .ok v=>e = .returned v
 | .error f=>e = .panicked (fltV f)
structure PB (w:World) (p:Nat) (bs:List Int) (tk a:Nat):Prop where mk ::
  row:∃ ba cap,w.cell? ⟨p,0,none⟩ = some (.slice ba bs.length cap) ∧ bs.length ≤ cap ∧ ∀ i (h:i < bs.length),∃ g,ba = some ⟨g,0,none⟩ ∧ g ≠ p ∧ w.cell? ⟨g,i,none⟩ = some (.int .u8 bs[i])
  tok:w.cell? ⟨p,4,none⟩ = some (.int .i64 tk)
  here:w.cell? ⟨p,7,none⟩ = some (.int .i64 a)
  free:w.frozen? ⟨p,7,none⟩ = false
  le:a ≤ bs.length
  bytes:Bytes bs
  small:bs.length ≤ 1099511627776
theorem PB.lt {w:World} {p:Nat} {bs:List Int} {tk a:Nat} (h:PB w p bs tk a):p < w.heap.size:=lt_of_cell h.here
theorem PB.below {w w':World} {p:Nat} {bs:List Int} {tk a:Nat} (h:PB w p bs tk a) (hb:Below w.heap.size w w'):PB w' p bs tk a:=by
 obtain ⟨ba,cap,h1,h2,h3⟩:=h.row
 refine ⟨⟨ba,cap,cellB hb h1 (lt_of_cell h1),h2,fun i hi=>?_⟩,cellB hb h.tok (lt_of_cell h.tok),cellB hb h.here (lt_of_cell h.here),freeB hb h.free (lt_of_cell h.here),h.le,h.bytes,h.small⟩
 obtain ⟨g,e,hg,hc⟩:=h3 i hi
 exact ⟨g,e,hg,cellB hb hc (lt_of_cell hc)⟩
set_option maxRecDepth 100000 in
set_option maxHeartbeats 1000000 in
theorem fail_c (pl:Int) (er:Int) (w:World) :
    Calls Tryz.prog 102 #[.int .i64 pl,.int .i64 er] w fun e W'=>e = .panicked [{ v:=.iface 155 (.agg #[.int .i64 pl,.int .i64 er]),recovered:=false }] ∧ Below w.heap.size w W':=by
  go_enter Tryz.func102,Tryz.ntmps102
  go_wp2
  exact ⟨rfl,rfl,Below.refl _ _⟩
theorem decode_c (ad:Addr) (c0:Nat) (l:List Int) (w:World) (hl:Bytes l) (h0:l.length ≤ 4) (hc0:l.length ≤ c0) (hc:∀ j x,l[j]? = some x → w.cell? (ad.add j) = some (.int .u8 x)) :
    Calls Tryz.prog 143 #[.slice (some ad) l.length c0] w fun e w'=>e = .returned (.tuple #[.int .i32 (decS l).1,.int .i64 (decS l).2]) ∧ ∃ n,w' = w.drewN n:=by
  refine (char_Decode.calls (some ad) c0 l (decS l).1 (decS l).2 w ⟨rfl,by omega,fun _=>⟨ad,rfl,fun j x hj=>⟨[.int .u8 x],rfl,rfl,fun i u hu=>?_⟩⟩⟩ hc0 ?_).mono fun e w' hh=>⟨hh.1,hh.2.out⟩
  ·match i,hu with
   | 0,hu=>
    simp at hu
    subst hu
    show w.cell? (ad.add (j * 1 + 0)) = _
    rw [Nat.mul_one,Nat.add_zero]
    exact hc j x hj
  ·unfold char_Decode.f
   rw [if_pos]
   rw [List.all_eq_true]
   intro x hx
   have:=hl x (List.mem_of_mem_take hx)
   unfold isByte
   simp
   exact this
theorem quiet1 {P:Program} {f:FuncId} {args:Array Value} {w:World} {n:Nat} {v:Value} (h:Calls P f args (w.drewN (1 + n)) fun e w'=>e = .returned v ∧ ∃ m,w' = (w.drewN (1 + n)).drewN m) :
    Calls P f args (w.drewN (1 + n)) fun e w''=>e = .returned v ∧ ∃ m,w'' = w.drewN (1 + m) :=
  h.mono fun _ _ ⟨he,m,hm⟩=>⟨he,n + m,by rw [hm,World.drewN_drewN,Nat.add_assoc]⟩
set_option maxRecDepth 100000 in
set_option maxHeartbeats 2000000 in
theorem peek_c {w:World} {p:Nat} {bs:List Int} {tk a:Nat} (h:PB w p bs tk a) :
    Calls Tryz.prog 150 #[.pointer (some ⟨p,0,none⟩)] w fun e W'=>Out ((peekS bs a).map (Value.int .i32)) e ∧ Below w.heap.size w W':=by
  obtain ⟨ba,cap,h0,hcap,hcells⟩:=h.row
  have h5:=h.here
  have hle:=h.le
  have hsm:=h.small
  have hby:=h.bytes
  generalize hR:peekS bs a = R
  unfold peekS at hR
  go_enter Tryz.func150,Tryz.ntmps150
  go_wp2
  go_region
  by_cases he:a = bs.length
  ·subst he
   go_wp2
   go_ret
   rw [if_pos trivial] at hR
   subst hR
   exact ⟨rfl,(Below.refl _ w).drew⟩
  ·have hlt:a < bs.length:=by omega
   obtain ⟨g,rfl,hg,hc0⟩:=hcells a hlt
   have hne:((a:Int) == (bs.length:Int)) = false:=by rw [beq_eq_false_iff_ne];omega
   have hw4:IntKind.i64.wrap ((a:Int) + 4) = (a:Int) + 4:=IntWalk.i64_in _ (by omega)
   rw [if_neg he] at hR
   go_wp2
   have hcut:∀ j x,((bs.drop a).take 4)[j]? = some x → w.cell? ⟨g,a + j,none⟩ = some (.int .u8 x):=by
    intro j x hj
    rw [List.getElem?_take] at hj
    split at hj
    ·rw [List.getElem?_drop] at hj
     obtain ⟨hl,rfl⟩:=List.getElem?_eq_some_iff.1 hj
     obtain ⟨g',e,_,hc⟩:=hcells (a + j) hl
     cases e
     exact hc
    · cases hj
   by_cases h4:a + 4 ≤ bs.length
   ·have hm:min ((a:Int) + 4) (bs.length:Int) = (a:Int) + 4:=by omega
    have hl:((bs.drop a).take 4).length = 4:=by rw [List.length_take,List.length_drop];omega
    have hdec:=fun w' (hw':∀ j x,((bs.drop a).take 4)[j]? = some x → w'.cell? ((⟨g,a,none⟩:Addr).add j) = some (.int .u8 x))=>decode_c ⟨g,a,none⟩ (cap - a) ((bs.drop a).take 4) w' ((hby.drop a).take 4) (by omega) (by omega) hw'
    rw [hl] at hdec
    go_quiet (first | (go_at_call 143;go_loud (refine quiet1 (hdec _ ?_);intro j x hj;rw [plain_add];exact hcut j x hj)))
    have hq:Below w.heap.size w (w.drewN (1 + nq)):=⟨rfl,rfl,rfl,Nat.le_refl _,fun _ _=>rfl⟩
    have h5q:=cellB hq h5 (lt_of_cell h5)
    have hch:=char_c (decS ((bs.drop a).take 4)).1 (w.drewN (1 + nq))
    generalize decS ((bs.drop a).take 4) = d at *
    obtain ⟨r,n⟩:=d
    simp only at hch hR
    cases hcb:charB r with
    | true=>
     rw [if_pos hcb] at hR
     subst hR
     rw [hcb] at hch
     go_wp2_with (go_at_call 152;refine hch.mono ?_;rintro e w5 ⟨rfl,hb5⟩)
     go_ret
     exact ⟨rfl,hq.trans (hb5.mono hq.size)⟩
    | false=>
     rw [if_neg (by rw [hcb];decide)] at hR
     subst hR
     rw [hcb] at hch
     go_wp2_with (first | (go_at_call 152;refine hch.mono ?_;rintro e w5 ⟨rfl,hb5⟩;have h55:=cellB (hq.trans (hb5.mono hq.size)) h5 (lt_of_cell h5)) | (go_at_call 102;refine (fail_c _ _ _).mono ?_;rintro e w6 ⟨rfl,hb6⟩))
     have h56:=hq.trans (hb5.mono hq.size)
     exact ⟨rfl,rfl,h56.trans (hb6.mono h56.size)⟩
   ·have hm:min ((a:Int) + 4) (bs.length:Int) = (bs.length:Int):=by omega
    have hl:((bs.drop a).take 4).length = bs.length - a:=by rw [List.length_take,List.length_drop];omega
    have hdec:=fun w' (hw':∀ j x,((bs.drop a).take 4)[j]? = some x → w'.cell? ((⟨g,a,none⟩:Addr).add j) = some (.int .u8 x))=>decode_c ⟨g,a,none⟩ (cap - a) ((bs.drop a).take 4) w' ((hby.drop a).take 4) (by omega) (by omega) hw'
    rw [hl] at hdec
    go_quiet (first | (go_at_call 143;go_loud (refine quiet1 (hdec _ ?_);intro j x hj;rw [plain_add];exact hcut j x hj)))
    have hq:Below w.heap.size w (w.drewN (1 + nq)):=⟨rfl,rfl,rfl,Nat.le_refl _,fun _ _=>rfl⟩
    have h5q:=cellB hq h5 (lt_of_cell h5)
    have hch:=char_c (decS ((bs.drop a).take 4)).1 (w.drewN (1 + nq))
    generalize decS ((bs.drop a).take 4) = d at *
    obtain ⟨r,n⟩:=d
    simp only at hch hR
    cases hcb:charB r with
    | true=>
     rw [if_pos hcb] at hR
     subst hR
     rw [hcb] at hch
     go_wp2_with (go_at_call 152;refine hch.mono ?_;rintro e w5 ⟨rfl,hb5⟩)
     go_ret
     exact ⟨rfl,hq.trans (hb5.mono hq.size)⟩
    | false=>
     rw [if_neg (by rw [hcb];decide)] at hR
     subst hR
     rw [hcb] at hch
     go_wp2_with (first | (go_at_call 152;refine hch.mono ?_;rintro e w5 ⟨rfl,hb5⟩;have h55:=cellB (hq.trans (hb5.mono hq.size)) h5 (lt_of_cell h5)) | (go_at_call 102;refine (fail_c _ _ _).mono ?_;rintro e w6 ⟨rfl,hb6⟩))
     have h56:=hq.trans (hb5.mono hq.size)
     exact ⟨rfl,rfl,h56.trans (hb6.mono h56.size)⟩
theorem Out.ok {v:Value} {e:Ending} (h:Out (.ok v) e):e = .returned v:=h
theorem Out.error {f:Flt} {e:Ending} (h:Out (.error f) e):e = .panicked (fltV f):=h
set_option maxRecDepth 100000 in
set_option maxHeartbeats 2000000 in
theorem must_c {w:World} {p:Nat} {bs:List Int} {tk a:Nat} (h:PB w p bs tk a) :
    Calls Tryz.prog 105 #[.pointer (some ⟨p,0,none⟩)] w fun e W'=>Out ((mustS bs a).map (Value.int .i32)) e ∧ Below w.heap.size w W':=by
  obtain ⟨ba,cap,h0,hcap,hcells⟩:=h.row
  have h5:=h.here
  have hle:=h.le
  have hpk:=peek_c (h.below (Below.refl _ w).drew)
  generalize hR:mustS bs a = R
  unfold mustS at hR
  go_enter Tryz.func105,Tryz.ntmps105
  go_wp2
  go_region
  by_cases he:a = bs.length
  ·rw [if_pos he] at hR
   subst hR
   subst he
   go_wp2_with (go_at_call 102;refine (fail_c _ _ _).mono ?_;rintro e w6 ⟨rfl,hb6⟩)
   exact ⟨rfl,rfl,(Below.refl _ w).drew.trans hb6⟩
  ·have hne:((a:Int) == (bs.length:Int)) = false:=by rw [beq_eq_false_iff_ne];omega
   rw [if_neg he] at hR
   rw [hR] at hpk
   cases R with
   | ok r=>
    go_wp2_with (go_at_call 150;refine hpk.mono ?_;rintro e w5 ⟨rfl,hb5⟩)
    go_ret
    exact ⟨rfl,(Below.refl _ w).drew.trans hb5⟩
   | error f=>
    go_wp2_with (go_at_call 150;refine hpk.mono ?_;rintro e w5 ⟨rfl,hb5⟩)
    exact ⟨rfl,rfl,(Below.refl _ w).drew.trans hb5⟩
set_option maxRecDepth 100000 in
set_option maxHeartbeats 2000000 in
theorem refuse_c {w:World} {p:Nat} {bs:List Int} {tk a:Nat} (h:PB w p bs tk a) (at_:Nat) :
    Calls Tryz.prog 118 #[.pointer (some ⟨p,0,none⟩),.int .i64 at_] w fun e W'=>e = .panicked (fltV (refuseF bs a at_)) ∧ Below w.heap.size w W':=by
  have hpk:=peek_c h
  unfold refuseF
  go_enter Tryz.func118,Tryz.ntmps118
  cases hR:peekS bs a with
  | ok r=>
   rw [hR] at hpk
   go_wp2_with (first | (go_at_call 150;refine hpk.mono ?_;rintro e w5 ⟨rfl,hb5⟩) | (go_at_call 102;refine (fail_c _ _ _).mono ?_;rintro e w6 ⟨rfl,hb6⟩))
   exact ⟨rfl,rfl,hb5.trans (hb6.mono hb5.size)⟩
  | error f=>
   rw [hR] at hpk
   go_wp2_with (go_at_call 150;refine hpk.mono ?_;rintro e w5 ⟨rfl,hb5⟩)
   exact ⟨rfl,rfl,hb5⟩
set_option maxRecDepth 100000 in
set_option maxHeartbeats 2000000 in
theorem odd_c {w:World} {p:Nat} {bs:List Int} {tk a:Nat} (h:PB w p bs tk a) :
    Calls Tryz.prog 82 #[.pointer (some ⟨p,0,none⟩)] w fun e W'=>e = .panicked (fltV (refuseF bs a a)) ∧ Below w.heap.size w W':=by
  have h5:=h.here
  have hrf:=fun w' (hb:Below w.heap.size w w')=>refuse_c (h.below hb) a
  go_enter Tryz.func82,Tryz.ntmps82
  go_wp2_with (go_at_call 118;refine (hrf _ (Below.refl _ w)).mono ?_;rintro e w5 ⟨rfl,hb5⟩)
  exact ⟨rfl,rfl,hb5⟩
end Go.Proofs.YtbaokjfhigjpdaaGreatDoorX
end
