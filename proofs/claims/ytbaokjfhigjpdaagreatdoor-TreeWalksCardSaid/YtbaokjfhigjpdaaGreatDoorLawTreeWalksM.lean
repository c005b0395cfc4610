/- What is proved: the row of TreeWalks and its tied card. Conditions: none beyond the row's own. -/
import Derived.Test.YtbaokjfhigjpdaaGreatDoorMB25
import Derived.Test.YtbaokjfhigjpdaaGreatDoorTie
import Derived.Test.YtbaokjfhigjpdaaGreatDoorCards
import Derived.WalkKit
import Derived.ProofKit
import Derived.OpenShut
import Derived.ShutString
import Derived.ChangeOld
import Derived.LaidMore
import Derived.Below
import Derived.SizedLaws
import Derived.SevenTiedAt
import Derived.Stop.Joined
set_option linter.unusedSimpArgs false
set_option linter.unusedVariables false
namespace Go.Proofs.YtbaokjfhigjpdaaGreatDoor.treeWalks
open Go.ChangeShapes Go.WideShapes Go.ChangeAt Go.RowKit Go.Proofs.YtbaokjfhigjpdaaGreatDoorX Go.Proofs.YtbaokjfhigjpdaaGreatDoorW.PrintWords
open Go.ChangeMaps (open_string shut_string)
theorem laidOut:laidOutB Tryz.prog = true:=by kernel_rfl
theorem array2 {α:Type} {cs:Array α} (h:cs.size = 2):∃ c0 c1,cs = #[c0,c1]:=by
 obtain ⟨l⟩:=cs
 match l,h with
 | [c0,c1],_=>exact ⟨c0,c1,rfl⟩
set_option maxRecDepth 100000 in
theorem lifted (os:Os) (started:os.Started) (H:Type) (enc:TypeId × Value → H) :
    ReturnsInHanded {} Tryz.checked os 3 .any (fun w args=>(Rows.treeWalksSpec.pre enc Tryz.prog Tryz.f3 [] false w args ∧ laidMetH Tryz.prog laidL w) ∧ sizedMet enc Tryz.prog Tryz.f3 (OpenSpec.ofChange Rows.treeWalksSpec) false w args)
      (Rows.treeWalksSpec.post enc Tryz.prog Tryz.f3 false true false false):=by
  refine returnsInHanded_of_change_and (C:=Tryz.checked) (X:=fun w _=>laidMetH Tryz.prog laidL w) (fun _ _ _ hh h=>h.of_heap hh) laid_own started (by kernel_rfl) Tryz.func3
    (ChangeSpec.witness_shaped (enc:=enc) (C:=Tryz.checked) (os:=os) (X:=fun w _=>laidMetH Tryz.prog laidL w) false (World.laidAll Tryz.prog os laidL) #[.agg #[.string ByteArray.empty,.string ByteArray.empty],.slice none 0 0,.int .i64 0] 8 (World.laidAll_os _ _ _)
      (World.shaped_of_ZipB (by kernel_rfl) (by kernel_rfl)) (by kernel_rfl) (by kernel_rfl) (by kernel_rfl)
      (laid_met os _)) ?_
  intro W base args ds gs before hval0 hW hcnd hsz0 hL _
  have hE:=envW_of_laid hL
  have hsz:(DataW.weightsEach Tryz.prog (Tryz.f3.params.toList ++ Rows.treeWalksSpec.plain.varTypes Tryz.prog) (ds ++ gs)).all (· ≤ reachBytes) = true:=hsz0
  have hval:∀ (j:Nat) t v,Tryz.f3.params[j]? = some t → args[j]? = some v → Value.okWide Tryz.prog W .any base t v:=hval0
  have hW':=hW
  obtain ⟨p,q,hA0,hV,rfl,hfz,hnd⟩:=hW
  have hA:DataW.TrodAll enc Tryz.prog W 0 (fun _=>true) true Tryz.f3.params.toList args.toList ds p:=hA0
  rw [Tryz.params3] at hA hval hsz
  obtain ⟨v0,vs0,d0,ds0,p0,q0,hargs,rfl,rfl,h0,r0⟩:=trodAll_cons hA
  obtain ⟨v1,vs1,d1,ds1,p1,q1,rfl,rfl,rfl,h1,r1⟩:=trodAll_cons r0
  obtain ⟨v2,vs2,d2,ds2,p2,q2,rfl,rfl,rfl,h2,r2⟩:=trodAll_cons r1
  obtain ⟨rfl,rfl,rfl⟩:=trodAll_nil r2
  obtain rfl:args = #[v0,v1,v2]:=by cases args;simp_all
  obtain ⟨rfl,rfl⟩:=trodVars_none hV
  obtain ⟨cs0,rfl,hc0⟩:=okWide_struct Tryz.underlying23 (hval 0 23 v0 rfl rfl)
  obtain ⟨x0,x1,rfl⟩:=array2 (hc0.trans YtbaokjfhigjpdaaGreatDoorT.cells_name)
  obtain ⟨a1,len1,cap1,rfl⟩:=okWide_slice Tryz.underlying24 (hval 1 24 v1 rfl rfl)
  obtain ⟨a2,rfl,rfl,rfl,z2⟩:=open_int Tryz.underlying3 (hval 2 3 v2 rfl rfl) h2
  have k0:=h0
  have k1:=h1
  have lt0:∀ x ∈ p0,x.block < W.heap.size:=by obtain ⟨m,hm⟩:=k0;exact DataW.trod_lt m _ _ _ hm
  have lt1:∀ x ∈ p1,x.block < W.heap.size:=by obtain ⟨m,hm⟩:=k1;exact DataW.trod_lt m _ _ _ hm
  obtain ⟨s0,s1,rfl,rfl,b0,b1⟩:∃ s0 s1:ByteArray,x0 = .string s0 ∧ x1 = .string s1 ∧ s0.size ≤ 140737488355328 ∧ s1.size ≤ 140737488355328:=by
   obtain ⟨fuel,hf⟩:=h0
   exact YtbaokjfhigjpdaaGreatDoorT.name_at hf (fun n hn=>by simpa using List.all_eq_true.1 hsz _ (DataW.weights_mem_each (j:=0) rfl rfl n hn))
  obtain ⟨l,rfl,hP,hB,hl⟩:∃ l:List YtbaokjfhigjpdaaGreatDoorT.PC,len1 = l.length ∧ YtbaokjfhigjpdaaGreatDoorT.PcAt W a1 l ∧ YtbaokjfhigjpdaaGreatDoorT.PcBig l ∧ l.length ≤ 140737488355328:=by
   obtain ⟨fuel,hf⟩:=h1
   exact YtbaokjfhigjpdaaGreatDoorT.pieces_at hf (fun n hn=>by simpa using List.all_eq_true.1 hsz _ (DataW.weights_mem_each (j:=1) rfl rfl n hn))
  clear hA0 hval0 hsz0 hsz
  refine (YtbaokjfhigjpdaaGreatDoorT.treeWalks_c s0 s1 a1 cap1 l a2 hE hP hB hl b0 b1).mono fun e W' ⟨he,bel⟩=>?_
  subst he
  exact ⟨_,rfl,_,_,_,[],_,[],hW',trodAll_mk1 (shut_bool Tryz.underlying4 _),(trodAll_cons_mk (Below.trod laidOut (by kernel_rfl) (of_decide_eq_true (by kernel_rfl)) k0 bel lt0) (trodAll_cons_mk (Below.trod laidOut (by kernel_rfl) (of_decide_eq_true (by kernel_rfl)) k1 bel lt1) (trodAll_cons_mk (shut_int Tryz.underlying3 z2) trodAll_mk0))),rfl,bel.frame _,fun h=>by cases h⟩
theorem over:Rows.TreeWalksSaid :=
  OpenClaim.holds_of_wide 3 Tryz.f3 rfl rfl rfl rfl rfl rfl rfl ⟨rfl,rfl,rfl,rfl,rfl⟩ rfl rfl rfl rfl rfl (by kernel_rfl) Tryz.func3 (by kernel_rfl)
    (of_decide_eq_true (by kernel_rfl)) (by unfold Func.isWrapper;first | (rw [if_pos (by decide +kernel)];kernel_rfl) | (rw [if_neg (by decide +kernel)];exact ⟨rfl,rfl⟩))
    (fun os started H enc _=>lifted os started H enc)
theorem proved:Rows.TreeWalksCardSaid :=
  Claim7.holds_tied_plain_at .later [] [.data,.data,.data,.pinned,.pinned] true Rows.treeWalksCard.stood.harness true
    over (fun _ h=>by cases h) (by kernel_rfl) (fun _ h=>by cases h) treeWalks_row_tie rfl ⟨rfl,rfl⟩ (by kernel_rfl) rfl
    (fun f fn hf hfn=>by
      obtain rfl:f = 3:=Option.some.inj ((show Tryz.prog.funcNamed "rubric/rubriclaw4.TreeWalks" = some 3 by kernel_rfl).symm.trans hf) |>.symm
      obtain rfl:fn = Tryz.f3:=(Option.some.inj (Tryz.func3.symm.trans hfn)).symm
      exact ⟨by kernel_rfl,fun j t ht=>by
        rw [Tryz.params3] at ht
        have hm:t ∈ [23,24,3]:=by simpa using Array.mem_of_getElem? ht
        have hall:([23,24,3].all fun u=>!Tryz.prog.wantsStandIn u) = true:=by kernel_rfl
        exact (show Tryz.prog.wantsStandIn t = false by simpa using List.all_eq_true.1 hall t hm)⟩)
    (by kernel_rfl)
end Go.Proofs.YtbaokjfhigjpdaaGreatDoor.treeWalks
namespace Go.Proofs.YtbaokjfhigjpdaaGreatDoor
theorem treeWalks_holds:Rows.TreeWalksCardSaid:=treeWalks.proved
#print axioms treeWalks_holds
end Go.Proofs.YtbaokjfhigjpdaaGreatDoor
