/- What is proved: what the claims of this seat share, part 15: a program of ours merged it out of our own texts, the print's words and the laid shelf. Conditions: those of each. -/
import Derived.Test.YtbaokjfhigjpdaaGreatDoorMB14
import Derived.Lay
import Derived.Lib.LaidCase
import Derived.Lib.LaidTab
import Derived.Lib.LaidU8
import Derived.MakeChecks
import Derived.PinnedBridge
import Derived.Test.YtbaokjfhigjpdaaGreatDoorRows
set_option linter.unusedVariables false
set_option linter.unusedSimpArgs false
section
set_option linter.unusedVariables false
namespace Go.Proofs.YtbaokjfhigjpdaaGreatDoorX
open Go.RowKit Go.Shelf Go.Lib
set_option maxRecDepth 100000
def laidL:List (String × DataW Unit):=[("unicode/utf8.acceptRanges",YtbaokjfhigjpdaaGreatDoor.Rows.laid_unicode_utf8_acceptRanges),("unicode.asciiFold",YtbaokjfhigjpdaaGreatDoor.Rows.laid_unicode_asciiFold),("unicode.caseOrbit",YtbaokjfhigjpdaaGreatDoor.Rows.laid_unicode_caseOrbit),("unicode.CaseRanges",YtbaokjfhigjpdaaGreatDoor.Rows.laid_unicode_CaseRanges),("unicode/utf8.first",YtbaokjfhigjpdaaGreatDoor.Rows.laid_unicode_utf8_first)]
theorem u8X:U8Extra Tryz.prog Tryz.lays260_ren where
  n3:=by kernel_rfl
  n4:=by kernel_rfl
  y3:=by kernel_rfl
  y4:=by kernel_rfl
  c5:=by kernel_rfl
  c119:=by kernel_rfl
  c138:=by kernel_rfl
theorem caseX:CaseExtra Tryz.prog Tryz.lays204_ren where
  n13:=by kernel_rfl
  y13:=by kernel_rfl
  c21:=by kernel_rfl
  c51:=by kernel_rfl
  c206:=by kernel_rfl
  c208:=by kernel_rfl
def foldTab:List Int:=(List.range 128).map fun (c:Nat)=>if c = 107 then 8490 else if c = 115 then 383 else if 65 ≤ c ∧ c ≤ 90 then ((c + 32:Nat):Int) else if 97 ≤ c ∧ c ≤ 122 then ((c - 32:Nat):Int) else (c:Int)
theorem accept_eq:(YtbaokjfhigjpdaaGreatDoor.Rows.laid_unicode_utf8_acceptRanges:DataW Unit) = acceptData:=by kernel_rfl
theorem fold_eq:(YtbaokjfhigjpdaaGreatDoor.Rows.laid_unicode_asciiFold:DataW Unit) = tabData .u16 foldTab:=by kernel_rfl
theorem fold_type:(Tryz.prog.globals[0]?).map (·.type) = some 285:=by kernel_rfl
theorem fold_cells:Tryz.prog.cellsOf 285 = 128:=by kernel_rfl
theorem fold_cell:Tryz.prog.cellsOf 284 = 1:=by kernel_rfl
theorem fold_name:Tryz.prog.globalNamed "unicode.asciiFold" = some 0:=by kernel_rfl
theorem lays274':Lays.n274 Tryz.prog Tryz.lays204_ren:={ Tryz.lays204 with }
theorem laid_plain:(laidL.all fun x=>x.2.handleName?.isNone) = true:=by kernel_rfl
theorem gl_of_laid {W:World} (h:laidMetH Tryz.prog laidL W):Gl W:=by
 rw [MakeChecks.laidMetH_plain _ _ _ laid_plain] at h
 have r1:=laidMet.reads h (n := "unicode/utf8.acceptRanges") (d:=YtbaokjfhigjpdaaGreatDoor.Rows.laid_unicode_utf8_acceptRanges) (by simp [laidL])
 have r2:=laidMet.reads h (n := "unicode.asciiFold") (d:=YtbaokjfhigjpdaaGreatDoor.Rows.laid_unicode_asciiFold) (by simp [laidL])
 have r4:=laidMet.reads h (n := "unicode.CaseRanges") (d:=YtbaokjfhigjpdaaGreatDoor.Rows.laid_unicode_CaseRanges) (by simp [laidL])
 have r5:=laidMet.reads h (n := "unicode/utf8.first") (d:=YtbaokjfhigjpdaaGreatDoor.Rows.laid_unicode_utf8_first) (by simp [laidL])
 rw [accept_eq] at r1
 rw [fold_eq] at r2
 rw [show (YtbaokjfhigjpdaaGreatDoor.Rows.laid_unicode_CaseRanges:DataW Unit) = caseData from Pinned.caseRanges_eq] at r4
 rw [show (YtbaokjfhigjpdaaGreatDoor.Rows.laid_unicode_utf8_first:DataW Unit) = firstData from Pinned.utf8First_eq] at r5
 refine ⟨caseVar_of_reads lays274' Tryz.underlying304 caseX r4,utf8Tabs_of_reads Tryz.lays260 u8X r5 r1,?_⟩
 obtain ⟨g,t,cs,fuel,p,hg,hty,hvar,hd⟩:=r2
 obtain rfl:=Option.some.inj (fold_name.symm.trans hg)
 obtain rfl:=Option.some.inj (fold_type.symm.trans hty)
 have hcs:=cells_of_tab Tryz.underlying285 Tryz.underlying284 fold_cell fold_cells hd
 have hat:∀ c,W.cell? ⟨0,c,none⟩ = (foldTab.map fun z=>Value.int .u16 z)[c]?:=fun c=>by
  rw [World.var?_cell hg hvar c,← Array.getElem?_toList,hcs]
 intro x hx
 rw [hat]
 simp only [List.mem_cons,List.not_mem_nil,or_false] at hx
 rcases hx with rfl | rfl | rfl | rfl | rfl | rfl <;> rfl
theorem laid_met (os:Os) (args:Array Value):laidMetH Tryz.prog laidL ((World.laidAll Tryz.prog os laidL).forCall (fun _ _=>0) ⟨#[],args,[]⟩).memory:=by
 rw [MakeChecks.laidMetH_plain _ _ _ laid_plain]
 exact laidMet_laidAll _ (by kernel_rfl) (by kernel_rfl)
theorem laid_own:ownKnob Tryz.prog.godebug = none:=by kernel_rfl
theorem envW_of_laid {W:World} (h:laidMetH Tryz.prog laidL W):EnvW W:=⟨W,gl_of_laid h,Below.refl _ _⟩
end Go.Proofs.YtbaokjfhigjpdaaGreatDoorX
end
section
set_option linter.unusedVariables false
namespace Go.Proofs.YtbaokjfhigjpdaaGreatDoorX
open Go.RowKit Go.Shelf Go.Proofs.YtbaokjfhigjpdaaGreatDoor.PXmlBase Go.Proofs.YtbaokjfhigjpdaaGreatDoorW.PrintWords
def muS (n:Nat) (s:St):Nat:=if s.state = 3 then 0 else 1 + 20 * (n - s.at_) + s.ready.length
def muW (n p:Nat) (w:World):Nat:=match w.cell? ⟨p,8,none⟩ with
 | some (.int _ 3)=>0
 | _=>1 + 20 * (n - atOf p w) + (match w.cell? ⟨p,15,none⟩ with
  | some (.slice _ k _)=>k
  | _=>0)
theorem PS.muw {w:World} {p B:Nat} {bs:List Int} {L:Lim} {s:St} {T:Tv} (h:PS w p B bs L s T) (n:Nat):muW n p w = muS n s:=by
 obtain ⟨cs,hc,_⟩:=h.ready
 obtain ⟨A,c,hT,_⟩:=hc.slice
 have h15:w.cell? ⟨p,15,none⟩ = some (.slice A s.ready.length c):=(h.cells 15).trans (congrArg some hT)
 have h8:w.cell? ⟨p,8,none⟩ = some (.int .i64 s.state):=h.cells 8
 have h7:=h.atOf
 unfold muW muS
 rw [h15,h8,h7]
 by_cases h3:s.state = 3
 ·rw [if_pos h3,h3]
  rfl
 ·rw [if_neg h3]
  split
  ·rename_i e
   simp at e
   omega
  · rfl
theorem Sim.mu {s t:St} (h:Sim s t) (n:Nat):muS n s = muS n t:=by
 rcases h with rfl | ⟨h1,h2,_⟩
 · rfl
 ·unfold muS
  rw [if_pos h1,if_pos h2]
def allL (bs:List Int) (L:Lim):Nat → St → List XE × St
  | 0,t=>([],t)
  | k + 1,t=>match nextE bs L t with
   | (none,u)=>([],u)
   | (some x,u)=>(x :: (allL bs L k u).1,(allL bs L k u).2)
def restL (bs:List Int) (L:Lim) (k:Nat):Option XE → St → List XE × St
  | none,u=>([],u)
  | some x,u=>(x :: (allL bs L k u).1,(allL bs L k u).2)
theorem allL_rest (bs:List Int) (L:Lim) (k:Nat) (t:St):allL bs L (k + 1) t = restL bs L k (nextE bs L t).1 (nextE bs L t).2:=by
 show (match nextE bs L t with
  | (none,u)=>([],u)
  | (some x,u)=>(x :: (allL bs L k u).1,(allL bs L k u).2)) = _
 rcases nextE bs L t with ⟨_ | x,u⟩
 · rfl
 · rfl
def allE (bs:List Int) (L:Lim):List XE × St:=allL bs L (muS bs.length st0 + 1) st0
theorem fill_good {bs:List Int} {L:Lim} {t:St} (hb:Bytes bs) (h:Inv bs L t) (h3:t.state = 3 → t.ready = []) :
    ((fillE bs L t).state = 3 ∧ (fillE bs L t).ready = []) ∨ ((fillE bs L t).state ≠ 3 ∧ (fillE bs L t).ready ≠ [] ∧ Inv bs L (fillE bs L t) ∧ (fillE bs L t).at_ ≤ bs.length ∧ muS bs.length (fillE bs L t) ≤ muS bs.length t):=by
  unfold fillE
  split
  ·rename_i hc
   obtain ⟨hr,h4⟩:=hc
   unfold stepE
   split
   ·rename_i s1 hs
    obtain ⟨k1,k2⟩:=body_good hb h hr h4 hs
    rcases k2 with ⟨k2,k3⟩ | ⟨k2,k3⟩
    ·by_cases hs3:s1.state = 3
     ·exfalso
      unfold bodyS at hs
      have h5:=h.top
      split at hs
      ·rename_i e
       unfold beginS at hs
       split at hs
       · cases hs
       ·split at hs
        ·rename_i hcc
         split at hs
         · cases hs
         ·rename_i a ha
          have g2:=(declaration_le hb (by omega) ha).2
          have:=(root_good hb h.good hr g2 hs).2.1.2.1
          omega
        ·have:=(root_good hb h.good hr h.good.le hs).2.1.2.1
         omega
      ·split at hs
       ·have:=(contentL_good hb _ _ _ h.good ⟨h.fin,by omega,by omega⟩ (by omega) hs).2.1.2.1
        omega
       ·split at hs
        ·unfold behindS at hs
         split at hs
         · cases hs
         ·split at hs
          · split at hs <;> cases hs
          ·cases hs
           exact k2 hr
        · omega
     ·refine .inr ⟨hs3,k2,k1,k1.good.le,?_⟩
      unfold muS
      rw [if_neg hs3,if_neg h4,hr]
      have:=k1.good.few
      have:=k1.good.le
      simp only [List.length_nil]
      omega
    · exact .inl ⟨k3,k2⟩
   · exact .inl ⟨rfl,hr⟩
  ·rename_i hc
   by_cases h4:t.state = 3
   · exact .inl ⟨h4,h3 h4⟩
   · exact .inr ⟨h4,fun e=>hc ⟨e,h4⟩,h,h.good.le,Nat.le_refl _⟩
theorem next_good {bs:List Int} {L:Lim} {t:St} (hb:Bytes bs) (h:Inv bs L t) (h3:t.state = 3 → t.ready = []) :
    match nextE bs L t with
    | (none,u)=>u.state = 3
    | (some _,u)=>u.state ≠ 3 ∧ Inv bs L u ∧ muS bs.length u < muS bs.length t:=by
  have hf:=fill_good hb h h3
  unfold nextE popE
  cases hr:(fillE bs L t).ready with
  | nil=>
   rcases hf with ⟨h1,_⟩ | ⟨_,h2,_⟩
   · exact h1
   · exact absurd hr h2
  | cons x r=>
   rcases hf with ⟨_,h2⟩ | ⟨h1,h2,h4,h5,h6⟩
   ·rw [h2] at hr
    cases hr
   ·refine ⟨h1,⟨⟨h4.good.le,h4.good.nodes,h4.good.opn,h4.good.text,h4.good.names,?_⟩,h4.fin,h4.top,h4.zero⟩,?_⟩
    ·have:=h4.good.few
     rw [hr] at this
     simp only [List.length_cons] at this
     show r.length ≤ 10
     omega
    ·refine Nat.lt_of_lt_of_le ?_ h6
     unfold muS
     rw [if_neg h1]
     simp only [h1,if_false]
     rw [hr,List.length_cons]
     omega
def zero5:List Value:=[.int .i64 0,.int .i64 0,.string ⟨#[]⟩,.string ⟨#[]⟩,.slice none 0 0]
theorem ownsRow_of_blocks {w w':World} {base:Nat} {e:TypeId} {size:Nat} {v:Value} {n:Nat} {xs:List Value} (h:w.ownsRow base e size v n xs) (hb:∀ k,v.ownBlock = some k → w'.heap[k]? = w.heap[k]?):w'.ownsRow base e size v n xs:=by
 refine ⟨h.1,?_⟩
 rcases h.2 with h2 | ⟨g,cap,cur,rfl,h3,hg,r⟩
 · exact .inl h2
 · exact .inr ⟨g,cap,cur,rfl,h3,(hb g (by simp [Value.ownBlock])).trans hg,r⟩
theorem RowAt.of_own {w:World} {base:Nat} {e:TypeId} {size:Nat} {v:Value} {n:Nat} {xs:List Value} (h:w.ownsRow base e size v n xs):RowAt w e size v n xs:=by
 refine ⟨h.1,?_⟩
 rcases h.2 with h2 | ⟨g,cap,cur,rfl,h3,hg,h4,h5,h6,h7⟩
 · exact .inl h2
 · exact .inr ⟨g,0,cap,cur,rfl,hg,h4,h5,by omega,by simpa using h7⟩
def EvCells (w:World) (X:Nat → Prop) (o:Option XE) (ec:List Value):Prop:=match o with
 | none=>ec = zero5
 | some x=>EvRows w X [x] ec
def EvOut (W:World) (p:Nat) (T:Tv) (o:Option XE) (ec:List Value):Prop:=match o with
 | none=>ec = zero5
 | some x=>∃ av,ec = [.int .i64 x.kind,.int .i64 x.at_,txt x.name,txt x.text,av] ∧ AttrRow W av x.attrs ∧ ∀ k,av.ownBlock = some k → ¬ PX p T k
theorem EvRows.on {w w':World} {X X':Nat → Prop} (hb:∀ k c,w.heap[k]? = some (.cells c 163 (0,0)) → ¬ X k → w'.heap[k]? = w.heap[k]? ∧ ¬ X' k):∀ {es:List XE} {cs:List Value},EvRows w X es cs → EvRows w' X' es cs
  | [],cs,h=>h
  | x :: t,cs,h=>by
   obtain ⟨av,rest,h1,h2,h3,h4⟩:=h
   refine ⟨av,rest,h1,RowAt.move h2 (fun k hk=>?_),fun k hk=>?_,h4.on hb⟩
   ·rcases h2.2 with ⟨rfl,_⟩ | ⟨g,off,cap,cur,rfl,hg,_⟩
    · simp [Value.ownBlock] at hk
    ·simp [Value.ownBlock] at hk
     subst hk
     exact (hb _ _ hg (h3 _ (by simp [Value.ownBlock]))).1
   ·rcases h2.2 with ⟨rfl,_⟩ | ⟨g,off,cap,cur,rfl,hg,_⟩
    · simp [Value.ownBlock] at hk
    ·simp [Value.ownBlock] at hk
     subst hk
     exact (hb _ _ hg (h3 _ (by simp [Value.ownBlock]))).2
theorem PS.lower {w W:World} {p B:Nat} {bs:List Int} {L:Lim} {s:St} {T:Tv} (h:PS W p B bs L s T) (hE:EnvW w) (hb:Below w.heap.size w W) (hB:w.heap.size ≤ B):PS W p w.heap.size bs L s T :=
  ⟨h.cells,h.frz,h.row,h.bytes,h.small,h.opn,h.text,h.ready,fun k hk=>Nat.le_trans hB (h.base k hk),(by
   obtain ⟨w0,h1,h2⟩:=hE
   exact ⟨w0,h1,h2.trans (hb.mono h2.size),h2.size⟩),h.po,h.pt,h.pr,h.ot,h.or_,h.tr⟩
theorem OutNx.cells {W:World} {p:Nat} {T:Tv} {o:Option XE} {e:Ending} (h:OutNx W p T o e):∃ (k a:Int) (n t:ByteArray) (A:Option Addr) (m c:Nat),e = .returned (.tuple #[.agg #[.int .i64 k,.int .i64 a,.string n,.string t,.slice A m c],.bool o.isSome]) ∧ EvOut W p T o [.int .i64 k,.int .i64 a,.string n,.string t,.slice A m c]:=by
 cases o with
 | none=>exact ⟨0,0,⟨#[]⟩,⟨#[]⟩,none,0,0,h,rfl⟩
 | some x=>
  obtain ⟨av,h1,h2,h3⟩:=h
  obtain ⟨A,c,rfl,_⟩:=h2.slice
  exact ⟨x.kind,x.at_,strOfNums x.name,strOfNums x.text,A,_,c,h1,_,rfl,h2,h3⟩
theorem w5s_blk {w:World} {b:Nat} {cs:Array Value} {t:TypeId} (h:w.heap[b]? = some (.cells cs t (0,0))) (h5:cs.size = 5) (x0 x1 x2 x3 x4:Value):(w5s w b x0 x1 x2 x3 x4).heap[b]? = some (.cells [x0,x1,x2,x3,x4].toArray t (0,0)):=by
 unfold w5s
 have b1:=blk_set (i:=0) (v:=x0) h
 generalize w.setCell ⟨b,0,none⟩ x0 = w1 at *
 have b2:=blk_set (i:=1) (v:=x1) b1
 generalize w1.setCell ⟨b,1,none⟩ x1 = w2 at *
 have b3:=blk_set (i:=2) (v:=x2) b2
 generalize w2.setCell ⟨b,2,none⟩ x2 = w3 at *
 have b4:=blk_set (i:=3) (v:=x3) b3
 generalize w3.setCell ⟨b,3,none⟩ x3 = w4 at *
 have b5:=blk_set (i:=4) (v:=x4) b4
 refine b5.trans (congrArg (fun a=>some (Obj.cells a t (0,0))) ?_)
 clear b1 b2 b3 b4 b5 h
 match cs,h5 with
 | ⟨[a0,a1,a2,a3,a4]⟩,_=>rfl
end Go.Proofs.YtbaokjfhigjpdaaGreatDoorX
end
