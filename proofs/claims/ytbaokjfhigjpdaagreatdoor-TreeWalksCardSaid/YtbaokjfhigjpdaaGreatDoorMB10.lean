/- What is proved: what the claims of this seat share, part 10: a program of ours merged it out of our own texts, the print's words and the laid shelf. Conditions: those of each. -/
import Derived.Test.YtbaokjfhigjpdaaGreatDoorMB9
import Derived.Deep.RegionHeld3
set_option linter.unusedVariables false
set_option linter.unusedSimpArgs false
section
set_option linter.unusedVariables false
namespace Go.Proofs.YtbaokjfhigjpdaaGreatDoorX
open Go.RowKit Go.Shelf Go.Proofs.YtbaokjfhigjpdaaGreatDoor.PXmlBase Go.Proofs.YtbaokjfhigjpdaaGreatDoorW.PrintWords
theorem quoted_le {bs:List Int} {small:Bool} {ws:List (List Int)} {a e:Nat} (hb:Bytes bs) (hle:a ≤ bs.length) (h:quotedS bs small ws a = .ok e):a < e ∧ e ≤ bs.length:=by
 unfold quotedS at h
 split at h
 · cases h
 ·split at h
  · cases h
  ·rename_i q a1 hq
   obtain ⟨h1,h2,_⟩:=quote_le hb hle hq
   simp only at h1 h2
   split at h
   ·rename_i x hf
    have hp:=List.find?_some hf
    have hl:=(List.isPrefixOf_iff_prefix.1 hp).length_le
    cases h
    have hr:(restS bs small a1).length ≤ bs.length - a1:=by
     unfold restS
     split
     ·rw [List.length_map,List.length_take,List.length_drop]
      omega
     ·rw [List.length_drop]
      omega
    rw [List.length_append] at hl
    simp only [List.length_cons,List.length_nil] at hl
    omega
   · split at h <;> cases h
theorem OutM.after {w w' W:World} {p a:Nat} {r:XR (Value × Nat)} {e:Ending} (hp:p < w.heap.size) (hh:w.cell? ⟨p,7,none⟩ = some (.int .i64 a)) (hb:Below w.heap.size w w') (h:OutM w' p r e W):OutM w p r e W:=by
 have hm:=Mv.of_below hb hp hh
 unfold OutM at *
 split at h
 · exact ⟨h.1,hm.trans h.2⟩
 ·obtain ⟨h1,a5,h2⟩:=h
  exact ⟨h1,a5,hm.trans h2⟩
def OkWords (ws:List ByteArray):Prop:=∀ x ∈ ws,x.size ≤ 1000 ∧ ∀ y ∈ x.data.toList,y.toNat < 128 ∧ y.toNat ≠ 105 ∧ y.toNat ≠ 107
theorem quoted_lit {w:World} {p:Nat} {bs:List Int} {tk a:Nat} (h:PB w p bs tk a) (E:Env w p) (small:Bool) (x:ByteArray) (hx:OkWords [x]) :
    Calls Tryz.prog 148 #[.pointer (some ⟨p,0,none⟩),.bool small,.slice (some ⟨w.heap.size,0,none⟩) 1 1] (w.alloc (.cells #[.string x] 9)) (OutM w p ((quotedS bs small [bytesOf x] a).map fun x=>(Value.tuple #[],x))):=by
  have hb:=(Below.refl w.heap.size w).alloc (Nat.le_refl _) (.cells #[.string x] 9)
  refine (quoted_c (h.below hb) (E.below hb) small w.heap.size 1 [x] hx (by have:=h.lt;omega) (fun j hj=>?_) (by simp)).mono fun e W' h1=>h1.after h.lt h.here hb
  obtain rfl:j = 0:=by simpa using hj
  unfold World.cell?
  rw [heap_alloc_new]
  rfl
def maybeS (bs:List Int) (blank:Bool) (nm:List Int) (small:Bool) (ws:List (List Int)) (a:Nat):XR (Bool × Nat) :=
  if blank = false ∨ ((hasS bs nm a).1 = false ∧ (hasS bs nm a).2 = false) then .ok (blank,a)
  else match wantS bs nm a with
   | .error e=>.error e
   | .ok a1=>match eqS bs a1 with
    | .error e=>.error e
    | .ok a2=>match quotedS bs small ws a2 with
     | .error e=>.error e
     | .ok a3=>match whiteS bs a3 with
      | .error e=>.error e
      | .ok a4=>.ok (decide (a3 < a4),a4)
theorem maybe_le {bs:List Int} {blank small:Bool} {nm:List Int} {ws:List (List Int)} {a:Nat} {x:Bool × Nat} (hb:Bytes bs) (hle:a ≤ bs.length) (h:maybeS bs blank nm small ws a = .ok x):a ≤ x.2 ∧ x.2 ≤ bs.length:=by
 unfold maybeS at h
 split at h
 ·cases h
  exact ⟨Nat.le_refl _,hle⟩
 ·split at h
  · cases h
  ·rename_i a1 h1
   obtain ⟨g1,g2⟩:=want_le hle h1
   split at h
   · cases h
   ·rename_i a2 h2
    obtain ⟨g3,g4⟩:=eq_le hb g2 h2
    split at h
    · cases h
    ·rename_i a3 h3
     obtain ⟨g5,g6⟩:=quoted_le hb g4 h3
     split at h
     · cases h
     ·rename_i a4 h4
      obtain ⟨g7,g8⟩:=white_le hb g6 h4
      cases h
      exact ⟨by simp only;omega,g8⟩
set_option maxRecDepth 100000 in
set_option maxHeartbeats 8000000 in
theorem maybe_c {w:World} {p:Nat} {bs:List Int} {tk a:Nat} (h:PB w p bs tk a) (E:Env w p) (blank:Bool) (nm:ByteArray) (hnm:nm.size ≤ 1000) (small:Bool) (g c:Nat) (ws:List ByteArray) (hws:OkWords ws) (hgp:g ≠ p) (hc:∀ j (hj:j < ws.length),w.cell? ⟨g,j,none⟩ = some (.string ws[j])) (hn:ws.length ≤ 100) :
    Calls Tryz.prog 149 #[.pointer (some ⟨p,0,none⟩),.bool blank,.string nm,.bool small,.slice (some ⟨g,0,none⟩) ws.length c] w (OutM w p ((maybeS bs blank (bytesOf nm) small (ws.map bytesOf) a).map fun x=>(Value.bool x.1,x.2))):=by
  have h5:=h.here
  have hlt:=h.lt
  generalize hR:maybeS bs blank (bytesOf nm) small (ws.map bytesOf) a = R
  unfold maybeS at hR
  go_enter Tryz.func149,Tryz.ntmps149
  have hm0:=Mv.of_below (Below.refl _ w) hlt h5
  have hP0:=h
  have hle0:=h.le
  have t102:=True.intro
  go_wp2_with (first
   | (
    have _t:=t102
    go_at_call 103
    go_loud (
     clear _t
     have hn2:=has_c hP0 nm (by omega)
     rcases hi:(hasS bs (bytesOf nm) (a)).1 with _ | _
     ·rcases hu:(hasS bs (bytesOf nm) (a)).2 with _ | _
      ·rw [hi,hu] at hn2 hR
       refine hn2.mono ?_
       clear hn2 t102
       rintro e w101 ⟨rfl,hbx⟩
       have hm101:=hm0.then hP0.lt hbx
       have hP101:=hP0.below hbx
       clear hbx
       rcases blank with _ | _
       ·rw [if_pos (.inl rfl)] at hR
        (try simp only at hR)
        subst hR
        go_wp2
        go_ret
        exact ⟨rfl,hm101⟩
       ·rw [if_pos (.inr ⟨rfl,rfl⟩)] at hR
        (try simp only at hR)
        subst hR
        go_wp2
        go_ret
        exact ⟨rfl,hm101⟩
      ·rw [hi,hu] at hn2 hR
       refine hn2.mono ?_
       clear hn2 t102
       rintro e w101 ⟨rfl,hbx⟩
       have hm101:=hm0.then hP0.lt hbx
       have hP101:=hP0.below hbx
       clear hbx
       rcases blank with _ | _
       ·rw [if_pos (.inl rfl)] at hR
        (try simp only at hR)
        subst hR
        go_wp2
        go_ret
        exact ⟨rfl,hm101⟩
       ·rw [if_neg (by decide)] at hR
        have t104:=True.intro
        go_wp2_with (first
         | (
          have _t:=t104
          go_at_call 146
          go_loud (
           clear _t
           have hn:=want_c hP101 nm (by omega)
           refine hn.mono ?_
           clear hn t104
           rintro e w103 he
           rcases hq103:wantS bs (bytesOf nm) (a) with f | a103
           ·rw [hq103] at hR he
            (try simp only at hR)
            subst hR
            obtain ⟨rfl,a5,hmx⟩:=he
            go_wp2
            exact ⟨rfl,rfl,_,hm101.trans hmx⟩
           rw [hq103] at hR he
           obtain ⟨rfl,hmx⟩:=he
           have hm103:=hm101.trans hmx
           have hle103:=(want_le h.le hq103).2
           have hP103:=h.moved hm103 hle103
           clear hmx
           (try simp only at hR)
           have t106:=True.intro
           go_wp2_with (first
            | (
             have _t:=t106
             go_at_call 147
             go_loud (
              clear _t
              have hn:=eq_c hP103
              refine hn.mono ?_
              clear hn t106
              rintro e w105 he
              rcases hq105:eqS bs (a103) with f | a105
              ·rw [hq105] at hR he
               (try simp only at hR)
               subst hR
               obtain ⟨rfl,a5,hmx⟩:=he
               go_wp2
               exact ⟨rfl,rfl,_,hm103.trans hmx⟩
              rw [hq105] at hR he
              obtain ⟨rfl,hmx⟩:=he
              have hm105:=hm103.trans hmx
              have hle105:=(eq_le h.bytes hle103 hq105).2
              have hP105:=h.moved hm105 hle105
              clear hmx
              (try simp only at hR)
              have t108:=True.intro
              go_wp2_with (first
               | (
                have _t:=t108
                go_at_call 148
                go_loud (
                 clear _t
                 have hn:=quoted_c hP105 (E.mv hm105) small g c ws hws hgp (fun j hj=>(World.cell?_of_block (hm105.block g (lt_of_cell (hc j hj)) hgp)).trans (hc j hj)) hn
                 refine hn.mono ?_
                 clear hn t108
                 rintro e w107 he
                 rcases hq107:quotedS bs small (ws.map bytesOf) (a105) with f | a107
                 ·rw [hq107] at hR he
                  (try simp only at hR)
                  subst hR
                  obtain ⟨rfl,a5,hmx⟩:=he
                  go_wp2
                  exact ⟨rfl,rfl,_,hm105.trans hmx⟩
                 rw [hq107] at hR he
                 obtain ⟨rfl,hmx⟩:=he
                 have hm107:=hm105.trans hmx
                 have hle107:=(quoted_le h.bytes hle105 hq107).2
                 have hP107:=h.moved hm107 hle107
                 clear hmx
                 (try simp only at hR)
                 have t110:=True.intro
                 go_wp2_with (first
                  | (
                   have _t:=t110
                   go_at_call 113
                   go_loud (
                    clear _t
                    have hn:=blanks_c hP107
                    refine hn.mono ?_
                    clear hn t110
                    rintro e w109 he
                    rcases hq109:whiteS bs (a107) with f | a109
                    ·rw [hq109] at hR he
                     (try simp only at hR)
                     subst hR
                     obtain ⟨rfl,a5,hmx⟩:=he
                     go_wp2
                     exact ⟨rfl,rfl,_,hm107.trans hmx⟩
                    rw [hq109] at hR he
                    obtain ⟨rfl,hmx⟩:=he
                    have hm109:=hm107.trans hmx
                    have hle109:=(white_le h.bytes hle107 hq109).2
                    have hP109:=h.moved hm109 hle109
                    clear hmx
                    (try simp only at hR)
                    (try simp only at hR)
                    subst hR
                    go_wp2
                    go_ret
                    exact ⟨rfl,hm109⟩))))))))))))
     ·rcases hu:(hasS bs (bytesOf nm) (a)).2 with _ | _
      ·rw [hi,hu] at hn2 hR
       refine hn2.mono ?_
       clear hn2 t102
       rintro e w101 ⟨rfl,hbx⟩
       have hm101:=hm0.then hP0.lt hbx
       have hP101:=hP0.below hbx
       clear hbx
       rcases blank with _ | _
       ·rw [if_pos (.inl rfl)] at hR
        (try simp only at hR)
        subst hR
        go_wp2
        go_ret
        exact ⟨rfl,hm101⟩
       ·rw [if_neg (by decide)] at hR
        have t112:=True.intro
        go_wp2_with (first
         | (
          have _t:=t112
          go_at_call 146
          go_loud (
           clear _t
           have hn:=want_c hP101 nm (by omega)
           refine hn.mono ?_
           clear hn t112
           rintro e w111 he
           rcases hq111:wantS bs (bytesOf nm) (a) with f | a111
           ·rw [hq111] at hR he
            (try simp only at hR)
            subst hR
            obtain ⟨rfl,a5,hmx⟩:=he
            go_wp2
            exact ⟨rfl,rfl,_,hm101.trans hmx⟩
           rw [hq111] at hR he
           obtain ⟨rfl,hmx⟩:=he
           have hm111:=hm101.trans hmx
           have hle111:=(want_le h.le hq111).2
           have hP111:=h.moved hm111 hle111
           clear hmx
           (try simp only at hR)
           have t114:=True.intro
           go_wp2_with (first
            | (
             have _t:=t114
             go_at_call 147
             go_loud (
              clear _t
              have hn:=eq_c hP111
              refine hn.mono ?_
              clear hn t114
              rintro e w113 he
              rcases hq113:eqS bs (a111) with f | a113
              ·rw [hq113] at hR he
               (try simp only at hR)
               subst hR
               obtain ⟨rfl,a5,hmx⟩:=he
               go_wp2
               exact ⟨rfl,rfl,_,hm111.trans hmx⟩
              rw [hq113] at hR he
              obtain ⟨rfl,hmx⟩:=he
              have hm113:=hm111.trans hmx
              have hle113:=(eq_le h.bytes hle111 hq113).2
              have hP113:=h.moved hm113 hle113
              clear hmx
              (try simp only at hR)
              have t116:=True.intro
              go_wp2_with (first
               | (
                have _t:=t116
                go_at_call 148
                go_loud (
                 clear _t
                 have hn:=quoted_c hP113 (E.mv hm113) small g c ws hws hgp (fun j hj=>(World.cell?_of_block (hm113.block g (lt_of_cell (hc j hj)) hgp)).trans (hc j hj)) hn
                 refine hn.mono ?_
                 clear hn t116
                 rintro e w115 he
                 rcases hq115:quotedS bs small (ws.map bytesOf) (a113) with f | a115
                 ·rw [hq115] at hR he
                  (try simp only at hR)
                  subst hR
                  obtain ⟨rfl,a5,hmx⟩:=he
                  go_wp2
                  exact ⟨rfl,rfl,_,hm113.trans hmx⟩
                 rw [hq115] at hR he
                 obtain ⟨rfl,hmx⟩:=he
                 have hm115:=hm113.trans hmx
                 have hle115:=(quoted_le h.bytes hle113 hq115).2
                 have hP115:=h.moved hm115 hle115
                 clear hmx
                 (try simp only at hR)
                 have t118:=True.intro
                 go_wp2_with (first
                  | (
                   have _t:=t118
                   go_at_call 113
                   go_loud (
                    clear _t
                    have hn:=blanks_c hP115
                    refine hn.mono ?_
                    clear hn t118
                    rintro e w117 he
                    rcases hq117:whiteS bs (a115) with f | a117
                    ·rw [hq117] at hR he
                     (try simp only at hR)
                     subst hR
                     obtain ⟨rfl,a5,hmx⟩:=he
                     go_wp2
                     exact ⟨rfl,rfl,_,hm115.trans hmx⟩
                    rw [hq117] at hR he
                    obtain ⟨rfl,hmx⟩:=he
                    have hm117:=hm115.trans hmx
                    have hle117:=(white_le h.bytes hle115 hq117).2
                    have hP117:=h.moved hm117 hle117
                    clear hmx
                    (try simp only at hR)
                    (try simp only at hR)
                    subst hR
                    go_wp2
                    go_ret
                    exact ⟨rfl,hm117⟩))))))))))))
      ·rw [hi,hu] at hn2 hR
       refine hn2.mono ?_
       clear hn2 t102
       rintro e w101 ⟨rfl,hbx⟩
       have hm101:=hm0.then hP0.lt hbx
       have hP101:=hP0.below hbx
       clear hbx
       rcases blank with _ | _
       ·rw [if_pos (.inl rfl)] at hR
        (try simp only at hR)
        subst hR
        go_wp2
        go_ret
        exact ⟨rfl,hm101⟩
       ·rw [if_neg (by decide)] at hR
        have t120:=True.intro
        go_wp2_with (first
         | (
          have _t:=t120
          go_at_call 146
          go_loud (
           clear _t
           have hn:=want_c hP101 nm (by omega)
           refine hn.mono ?_
           clear hn t120
           rintro e w119 he
           rcases hq119:wantS bs (bytesOf nm) (a) with f | a119
           ·rw [hq119] at hR he
            (try simp only at hR)
            subst hR
            obtain ⟨rfl,a5,hmx⟩:=he
            go_wp2
            exact ⟨rfl,rfl,_,hm101.trans hmx⟩
           rw [hq119] at hR he
           obtain ⟨rfl,hmx⟩:=he
           have hm119:=hm101.trans hmx
           have hle119:=(want_le h.le hq119).2
           have hP119:=h.moved hm119 hle119
           clear hmx
           (try simp only at hR)
           have t122:=True.intro
           go_wp2_with (first
            | (
             have _t:=t122
             go_at_call 147
             go_loud (
              clear _t
              have hn:=eq_c hP119
              refine hn.mono ?_
              clear hn t122
              rintro e w121 he
              rcases hq121:eqS bs (a119) with f | a121
              ·rw [hq121] at hR he
               (try simp only at hR)
               subst hR
               obtain ⟨rfl,a5,hmx⟩:=he
               go_wp2
               exact ⟨rfl,rfl,_,hm119.trans hmx⟩
              rw [hq121] at hR he
              obtain ⟨rfl,hmx⟩:=he
              have hm121:=hm119.trans hmx
              have hle121:=(eq_le h.bytes hle119 hq121).2
              have hP121:=h.moved hm121 hle121
              clear hmx
              (try simp only at hR)
              have t124:=True.intro
              go_wp2_with (first
               | (
                have _t:=t124
                go_at_call 148
                go_loud (
                 clear _t
                 have hn:=quoted_c hP121 (E.mv hm121) small g c ws hws hgp (fun j hj=>(World.cell?_of_block (hm121.block g (lt_of_cell (hc j hj)) hgp)).trans (hc j hj)) hn
                 refine hn.mono ?_
                 clear hn t124
                 rintro e w123 he
                 rcases hq123:quotedS bs small (ws.map bytesOf) (a121) with f | a123
                 ·rw [hq123] at hR he
                  (try simp only at hR)
                  subst hR
                  obtain ⟨rfl,a5,hmx⟩:=he
                  go_wp2
                  exact ⟨rfl,rfl,_,hm121.trans hmx⟩
                 rw [hq123] at hR he
                 obtain ⟨rfl,hmx⟩:=he
                 have hm123:=hm121.trans hmx
                 have hle123:=(quoted_le h.bytes hle121 hq123).2
                 have hP123:=h.moved hm123 hle123
                 clear hmx
                 (try simp only at hR)
                 have t126:=True.intro
                 go_wp2_with (first
                  | (
                   have _t:=t126
                   go_at_call 113
                   go_loud (
                    clear _t
                    have hn:=blanks_c hP123
                    refine hn.mono ?_
                    clear hn t126
                    rintro e w125 he
                    rcases hq125:whiteS bs (a123) with f | a125
                    ·rw [hq125] at hR he
                     (try simp only at hR)
                     subst hR
                     obtain ⟨rfl,a5,hmx⟩:=he
                     go_wp2
                     exact ⟨rfl,rfl,_,hm123.trans hmx⟩
                    rw [hq125] at hR he
                    obtain ⟨rfl,hmx⟩:=he
                    have hm125:=hm123.trans hmx
                    have hle125:=(white_le h.bytes hle123 hq125).2
                    have hP125:=h.moved hm125 hle125
                    clear hmx
                    (try simp only at hR)
                    (try simp only at hR)
                    subst hR
                    go_wp2
                    go_ret
                    exact ⟨rfl,hm125⟩)))))))))))))))
theorem maybe_lit {w:World} {p:Nat} {bs:List Int} {tk a:Nat} (h:PB w p bs tk a) (E:Env w p) (blank:Bool) (nm:ByteArray) (hnm:nm.size ≤ 1000) (small:Bool) (x:ByteArray) (hx:OkWords [x]) :
    Calls Tryz.prog 149 #[.pointer (some ⟨p,0,none⟩),.bool blank,.string nm,.bool small,.slice (some ⟨w.heap.size,0,none⟩) 1 1] (w.alloc (.cells #[.string x] 9)) (OutM w p ((maybeS bs blank (bytesOf nm) small [bytesOf x] a).map fun x=>(Value.bool x.1,x.2))):=by
  have hb:=(Below.refl w.heap.size w).alloc (Nat.le_refl _) (.cells #[.string x] 9)
  refine (maybe_c (h.below hb) (E.below hb) blank nm hnm small w.heap.size 1 [x] hx (by have:=h.lt;omega) (fun j hj=>?_) (by simp)).mono fun e W' h1=>h1.after h.lt h.here hb
  obtain rfl:j = 0:=by simpa using hj
  unfold World.cell?
  rw [heap_alloc_new]
  rfl
theorem maybe_lit2 {w:World} {p:Nat} {bs:List Int} {tk a:Nat} (h:PB w p bs tk a) (E:Env w p) (blank:Bool) (nm:ByteArray) (hnm:nm.size ≤ 1000) (small:Bool) (x y:ByteArray) (hx:OkWords [x,y]) :
    Calls Tryz.prog 149 #[.pointer (some ⟨p,0,none⟩),.bool blank,.string nm,.bool small,.slice (some ⟨w.heap.size,0,none⟩) 2 2] (w.alloc (.cells #[.string x,.string y] 9)) (OutM w p ((maybeS bs blank (bytesOf nm) small [bytesOf x,bytesOf y] a).map fun x=>(Value.bool x.1,x.2))):=by
  have hb:=(Below.refl w.heap.size w).alloc (Nat.le_refl _) (.cells #[.string x,.string y] 9)
  refine (maybe_c (h.below hb) (E.below hb) blank nm hnm small w.heap.size 2 [x,y] hx (by have:=h.lt;omega) (fun j hj=>?_) (by simp)).mono fun e W' h1=>h1.after h.lt h.here hb
  unfold World.cell?
  rw [heap_alloc_new]
  match j,hj with
  | 0,_=>rfl
  | 1,_=>rfl
def declarationS (bs:List Int) (a:Nat):XR Nat:=match whiteS bs a with
 | .error e=>.error e
 | .ok a1=>match wantS bs [118,101,114,115,105,111,110] a1 with
  | .error e=>.error e
  | .ok a2=>match eqS bs a2 with
   | .error e=>.error e
   | .ok a3=>match quotedS bs false [[49,46,48]] a3 with
    | .error e=>.error e
    | .ok a4=>match whiteS bs a4 with
     | .error e=>.error e
     | .ok a5=>match maybeS bs (decide (a4 < a5)) [101,110,99,111,100,105,110,103] true [[117,116,102,45,56]] a5 with
      | .error e=>.error e
      | .ok x6=>match maybeS bs x6.1 [115,116,97,110,100,97,108,111,110,101] false [[121,101,115],[110,111]] x6.2 with
       | .error e=>.error e
       | .ok x7=>wantS bs [63,62] x7.2
set_option maxRecDepth 100000 in
set_option maxHeartbeats 8000000 in
theorem declaration_c {w:World} {p:Nat} {bs:List Int} {tk a:Nat} (h:PB w p bs tk a) (E:Env w p) :
    Calls Tryz.prog 104 #[.pointer (some ⟨p,0,none⟩)] w (OutM w p ((declarationS bs a).map fun x=>(Value.tuple #[],x))):=by
  have h5:=h.here
  have hlt:=h.lt
  generalize hR:declarationS bs a = R
  unfold declarationS at hR
  go_enter Tryz.func104,Tryz.ntmps104
  have hm0:=Mv.of_below (Below.refl _ w) hlt h5
  have hP0:=h
  have hle0:=h.le
  have t128:=True.intro
  go_wp2_with (first
   | (
    have _t:=t128
    go_at_call 113
    go_loud (
     clear _t
     have hn:=blanks_c hP0
     refine hn.mono ?_
     clear hn t128
     rintro e w127 he
     rcases hq127:whiteS bs (a) with f | a127
     ·rw [hq127] at hR he
      (try simp only at hR)
      subst hR
      obtain ⟨rfl,a5,hmx⟩:=he
      go_wp2
      exact ⟨rfl,rfl,_,hm0.trans hmx⟩
     rw [hq127] at hR he
     obtain ⟨rfl,hmx⟩:=he
     have hm127:=hm0.trans hmx
     have hle127:=(white_le h.bytes h.le hq127).2
     have hP127:=h.moved hm127 hle127
     clear hmx
     (try simp only at hR)
     have t130:=True.intro
     go_wp2_with (first
      | (
       have _t:=t130
       go_at_call 146
       go_loud (
        clear _t
        have hn:=want_c hP127 (⟨#[118,101,114,115,105,111,110]⟩:ByteArray) (by decide)
        rw [show bytesOf (⟨#[118,101,114,115,105,111,110]⟩:ByteArray) = [118,101,114,115,105,111,110] from rfl] at hn
        refine hn.mono ?_
        clear hn t130
        rintro e w129 he
        rcases hq129:wantS bs [118,101,114,115,105,111,110] (a127) with f | a129
        ·rw [hq129] at hR he
         (try simp only at hR)
         subst hR
         obtain ⟨rfl,a5,hmx⟩:=he
         go_wp2
         exact ⟨rfl,rfl,_,hm127.trans hmx⟩
        rw [hq129] at hR he
        obtain ⟨rfl,hmx⟩:=he
        have hm129:=hm127.trans hmx
        have hle129:=(want_le hle127 hq129).2
        have hP129:=h.moved hm129 hle129
        clear hmx
        (try simp only at hR)
        have t132:=True.intro
        go_wp2_with (first
         | (
          have _t:=t132
          go_at_call 147
          go_loud (
           clear _t
           have hn:=eq_c hP129
           refine hn.mono ?_
           clear hn t132
           rintro e w131 he
           rcases hq131:eqS bs (a129) with f | a131
           ·rw [hq131] at hR he
            (try simp only at hR)
            subst hR
            obtain ⟨rfl,a5,hmx⟩:=he
            go_wp2
            exact ⟨rfl,rfl,_,hm129.trans hmx⟩
           rw [hq131] at hR he
           obtain ⟨rfl,hmx⟩:=he
           have hm131:=hm129.trans hmx
           have hle131:=(eq_le h.bytes hle129 hq131).2
           have hP131:=h.moved hm131 hle131
           clear hmx
           (try simp only at hR)
           have t134:=True.intro
           go_wp2_with (first
            | (
             have _t:=t134
             go_at_call 148
             go_loud (
              clear _t
              have hn:=quoted_lit hP131 (E.mv hm131) false (⟨#[49,46,48]⟩:ByteArray) (by unfold OkWords;decide)
              rw [show bytesOf (⟨#[49,46,48]⟩:ByteArray) = [49,46,48] from rfl] at hn
              refine hn.mono ?_
              clear hn t134
              rintro e w133 he
              rcases hq133:quotedS bs false [[49,46,48]] (a131) with f | a133
              ·rw [hq133] at hR he
               (try simp only at hR)
               subst hR
               obtain ⟨rfl,a5,hmx⟩:=he
               go_wp2
               exact ⟨rfl,rfl,_,hm131.trans hmx⟩
              rw [hq133] at hR he
              obtain ⟨rfl,hmx⟩:=he
              have hm133:=hm131.trans hmx
              have hle133:=(quoted_le h.bytes hle131 hq133).2
              have hP133:=h.moved hm133 hle133
              clear hmx
              (try simp only at hR)
              have t136:=True.intro
              go_wp2_with (first
               | (
                have _t:=t136
                go_at_call 113
                go_loud (
                 clear _t
                 have hn:=blanks_c hP133
                 refine hn.mono ?_
                 clear hn t136
                 rintro e w135 he
                 rcases hq135:whiteS bs (a133) with f | a135
                 ·rw [hq135] at hR he
                  (try simp only at hR)
                  subst hR
                  obtain ⟨rfl,a5,hmx⟩:=he
                  go_wp2
                  exact ⟨rfl,rfl,_,hm133.trans hmx⟩
                 rw [hq135] at hR he
                 obtain ⟨rfl,hmx⟩:=he
                 have hm135:=hm133.trans hmx
                 have hle135:=(white_le h.bytes hle133 hq135).2
                 have hP135:=h.moved hm135 hle135
                 clear hmx
                 (try simp only at hR)
                 have t138:=True.intro
                 go_wp2_with (first
                  | (
                   have _t:=t138
                   go_at_call 149
                   go_loud (
                    clear _t
                    have hn:=maybe_lit hP135 (E.mv hm135) (decide (a133 < a135)) (⟨#[101,110,99,111,100,105,110,103]⟩:ByteArray) (by decide) true (⟨#[117,116,102,45,56]⟩:ByteArray) (by unfold OkWords;decide)
                    rw [show bytesOf (⟨#[101,110,99,111,100,105,110,103]⟩:ByteArray) = [101,110,99,111,100,105,110,103] from rfl,show bytesOf (⟨#[117,116,102,45,56]⟩:ByteArray) = [117,116,102,45,56] from rfl] at hn
                    refine hn.mono ?_
                    clear hn t138
                    rintro e w137 he
                    rcases hq137:maybeS bs (decide (a133 < a135)) [101,110,99,111,100,105,110,103] true [[117,116,102,45,56]] (a135) with f | ⟨b137,a137⟩
                    ·rw [hq137] at hR he
                     (try simp only at hR)
                     subst hR
                     obtain ⟨rfl,a5,hmx⟩:=he
                     go_wp2
                     exact ⟨rfl,rfl,_,hm135.trans hmx⟩
                    rw [hq137] at hR he
                    obtain ⟨rfl,hmx⟩:=he
                    have hm137:=hm135.trans hmx
                    have hle137:=(maybe_le h.bytes hle135 hq137).2
                    have hP137:=h.moved hm137 hle137
                    clear hmx
                    (try simp only at hR)
                    have t140:=True.intro
                    go_wp2_with (first
                     | (
                      have _t:=t140
                      go_at_call 149
                      go_loud (
                       clear _t
                       have hn:=maybe_lit2 hP137 (E.mv hm137) (b137) (⟨#[115,116,97,110,100,97,108,111,110,101]⟩:ByteArray) (by decide) false (⟨#[121,101,115]⟩:ByteArray) (⟨#[110,111]⟩:ByteArray) (by unfold OkWords;decide)
                       rw [show bytesOf (⟨#[115,116,97,110,100,97,108,111,110,101]⟩:ByteArray) = [115,116,97,110,100,97,108,111,110,101] from rfl,show bytesOf (⟨#[121,101,115]⟩:ByteArray) = [121,101,115] from rfl,show bytesOf (⟨#[110,111]⟩:ByteArray) = [110,111] from rfl] at hn
                       refine hn.mono ?_
                       clear hn t140
                       rintro e w139 he
                       rcases hq139:maybeS bs (b137) [115,116,97,110,100,97,108,111,110,101] false [[121,101,115],[110,111]] (a137) with f | ⟨b139,a139⟩
                       ·rw [hq139] at hR he
                        (try simp only at hR)
                        subst hR
                        obtain ⟨rfl,a5,hmx⟩:=he
                        go_wp2
                        exact ⟨rfl,rfl,_,hm137.trans hmx⟩
                       rw [hq139] at hR he
                       obtain ⟨rfl,hmx⟩:=he
                       have hm139:=hm137.trans hmx
                       have hle139:=(maybe_le h.bytes hle137 hq139).2
                       have hP139:=h.moved hm139 hle139
                       clear hmx
                       (try simp only at hR)
                       have t142:=True.intro
                       go_wp2_with (first
                        | (
                         have _t:=t142
                         go_at_call 146
                         go_loud (
                          clear _t
                          have hn:=want_c hP139 (⟨#[63,62]⟩:ByteArray) (by decide)
                          rw [show bytesOf (⟨#[63,62]⟩:ByteArray) = [63,62] from rfl] at hn
                          refine hn.mono ?_
                          clear hn t142
                          rintro e w141 he
                          rcases hq141:wantS bs [63,62] (a139) with f | a141
                          ·rw [hq141] at hR he
                           (try simp only at hR)
                           subst hR
                           obtain ⟨rfl,a5,hmx⟩:=he
                           go_wp2
                           exact ⟨rfl,rfl,_,hm139.trans hmx⟩
                          rw [hq141] at hR he
                          obtain ⟨rfl,hmx⟩:=he
                          have hm141:=hm139.trans hmx
                          have hle141:=(want_le hle139 hq141).2
                          have hP141:=h.moved hm141 hle141
                          clear hmx
                          (try simp only at hR)
                          (try simp only at hR)
                          subst hR
                          go_wp2
                          go_end0
                          exact ⟨rfl,hm141⟩))))))))))))))))))))))))
theorem declaration_le {bs:List Int} {a e:Nat} (hb:Bytes bs) (hle:a ≤ bs.length) (h:declarationS bs a = .ok e):a ≤ e ∧ e ≤ bs.length:=by
 unfold declarationS at h
 split at h
 · cases h
 ·rename_i a1 h1
  obtain ⟨g1,g2⟩:=white_le hb hle h1
  split at h
  · cases h
  ·rename_i a2 h2
   obtain ⟨g3,g4⟩:=want_le g2 h2
   split at h
   · cases h
   ·rename_i a3 h3
    obtain ⟨g5,g6⟩:=eq_le hb g4 h3
    split at h
    · cases h
    ·rename_i a4 h4
     obtain ⟨g7,g8⟩:=quoted_le hb g6 h4
     split at h
     · cases h
     ·rename_i a5 h5
      obtain ⟨g9,g10⟩:=white_le hb g8 h5
      split at h
      · cases h
      ·rename_i x6 h6
       obtain ⟨g11,g12⟩:=maybe_le hb g10 h6
       split at h
       · cases h
       ·rename_i x7 h7
        obtain ⟨g13,g14⟩:=maybe_le hb g12 h7
        obtain ⟨g15,g16⟩:=want_le g14 h
        exact ⟨by omega,g16⟩
end Go.Proofs.YtbaokjfhigjpdaaGreatDoorX
end
section
set_option linter.unusedVariables false
namespace Go.Proofs.YtbaokjfhigjpdaaGreatDoorX
open Go.RowKit Go.Shelf Go.Proofs.YtbaokjfhigjpdaaGreatDoor.PXmlBase Go.Proofs.YtbaokjfhigjpdaaGreatDoorW.PrintWords
def miscL (bs:List Int) (tk:Nat):Nat → Nat → XR Nat
  | 0,a=>.ok a
  | k + 1,a=>match whiteS bs a with
   | .error e=>.error e
   | .ok a1=>if a1 = bs.length then .ok a1
     else if (hasS bs [60,33,45,45] a1).1 = true then (match noteS bs (a1 + 4) with
      | .error e=>.error e
      | .ok a2=>miscL bs tk k a2)
     else if (hasS bs [60,63] a1).1 = true then (match instructionS bs tk (a1 + 2) with
      | .error e=>.error e
      | .ok a2=>miscL bs tk k a2)
     else if a1 + 1 < bs.length then (match earlyS bs [[60,33,45,45]] a1 with
      | some e=>.error e
      | none=>.ok a1)
     else .ok a1
def miscS (bs:List Int) (tk a:Nat):XR Nat:=miscL bs tk (bs.length + 1) a
theorem miscL_le {bs:List Int} {tk:Nat} (hb:Bytes bs):∀ (k a e:Nat),a ≤ bs.length → miscL bs tk k a = .ok e → a ≤ e ∧ e ≤ bs.length
  | 0,a,e,hle,h=>by
   cases h
   exact ⟨Nat.le_refl _,hle⟩
  | k + 1,a,e,hle,h=>by
   unfold miscL at h
   split at h
   · cases h
   ·rename_i a1 h1
    obtain ⟨g1,g2⟩:=white_le hb hle h1
    split at h
    ·cases h
     exact ⟨g1,g2⟩
    ·split at h
     ·rename_i hh
      have g3:a1 + 4 ≤ bs.length:=has_le g2 hh
      split at h
      · cases h
      ·rename_i a2 h2
       obtain ⟨g4,g5⟩:=note_le hb g3 h2
       obtain ⟨g6,g7⟩:=miscL_le hb k _ _ g5 h
       exact ⟨by omega,g7⟩
     ·split at h
      ·rename_i hh
       have g3:a1 + 2 ≤ bs.length:=has_le g2 hh
       split at h
       · cases h
       ·rename_i a2 h2
        obtain ⟨g4,g5⟩:=instruction_le hb g3 h2
        obtain ⟨g6,g7⟩:=miscL_le hb k _ _ g5 h
        exact ⟨by omega,g7⟩
      ·split at h
       ·split at h
        · cases h
        ·cases h
         exact ⟨g1,g2⟩
       ·cases h
        exact ⟨g1,g2⟩
theorem misc_le {bs:List Int} {tk a e:Nat} (hb:Bytes bs) (hle:a ≤ bs.length) (h:miscS bs tk a = .ok e):a ≤ e ∧ e ≤ bs.length:=miscL_le hb _ _ _ hle h
set_option maxRecDepth 100000 in
set_option maxHeartbeats 8000000 in
theorem misc_c {w:World} {p:Nat} {bs:List Int} {tk a:Nat} (h:PB w p bs tk a) (htk4:tk ≤ 4294967280) (E:Env w p) :
    Calls Tryz.prog 80 #[.pointer (some ⟨p,0,none⟩)] w (OutM w p ((miscS bs tk a).map fun x=>(Value.tuple #[],x))):=by
  have h5:=h.here
  have hlt:=h.lt
  generalize hR:miscS bs tk a = R
  unfold miscS at hR
  go_enter Tryz.func80,Tryz.ntmps80
  have hm0:=Mv.of_below (Below.refl _ w) hlt h5
  have hP0:=h
  have hle0:=h.le
  go_wp2
  go_loopw [2] (fun _ wr=>∃ (a' k:Nat),Mv w wr p a' ∧ a' ≤ bs.length ∧ bs.length < k + a' ∧ miscL bs tk k a' = R) (fun _ wr=>bs.length - atOf p wr)
  case atStart=>exact ⟨a,bs.length + 1,hm0,h.le,by omega,hR⟩
  case round=>
   rename World=>wq
   obtain ⟨a',k,hm10,hle10,h3,hR⟩:=hrel
   have hP10:=h.moved hm10 hle10
   obtain ⟨k',rfl⟩:∃ k',k = k' + 1:=⟨k - 1,by omega⟩
   unfold miscL at hR
   have t102:=True.intro
   go_wp2_with (first
    | (
     have _t:=t102
     go_at_call 113
     go_loud (
      clear _t
      have hn:=blanks_c hP10
      refine hn.mono ?_
      clear hn t102
      rintro e w101 he
      rcases hq101:whiteS bs (a') with f | a101
      ·rw [hq101] at hR he
       (try simp only at hR)
       subst hR
       obtain ⟨rfl,a5,hmx⟩:=he
       go_wp2
       exact ⟨rfl,rfl,_,hm10.trans hmx⟩
      rw [hq101] at hR he
      obtain ⟨rfl,hmx⟩:=he
      have hm101:=hm10.trans hmx
      have hle101:=(white_le h.bytes hle10 hq101).2
      have hP101:=h.moved hm101 hle101
      clear hmx
      (try simp only at hR)
      have hwl:=(white_le h.bytes hle10 hq101).1
      by_cases he:a101 = bs.length
      ·rw [if_pos he] at hR
       (try simp only at hR)
       have qe:((a101:Int) == (bs.length:Int)) = true:=by rw [beq_iff_eq];omega
       have hh101:=hP101.here
       obtain ⟨ba101,cap101,hrow101,_,_⟩:=hP101.row
       go_wp2
       go_region
       have hbx:=(Below.refl w101.heap.size w101).drew
       have hm103:=hm101.then hP101.lt hbx
       have hP103:=hP101.below hbx
       clear hbx
       generalize w101.drew = w103 at *
       (try simp only at hR)
       subst hR
       go_wp2
       go_end0
       exact ⟨rfl,hm103⟩
      ·rw [if_neg he] at hR
       (try simp only at hR)
       have qe:((a101:Int) == (bs.length:Int)) = false:=by rw [beq_eq_false_iff_ne];omega
       have hh101:=hP101.here
       obtain ⟨ba101,cap101,hrow101,_,_⟩:=hP101.row
       go_wp2
       go_region
       have hbx:=(Below.refl w101.heap.size w101).drew
       have hm104:=hm101.then hP101.lt hbx
       have hP104:=hP101.below hbx
       clear hbx
       generalize w101.drew = w104 at *
       have t106:=True.intro
       go_wp2_with (first
        | (
         have _t:=t106
         go_at_call 114
         go_loud (
          clear _t
          have hn:=takes_c hP104 (⟨#[60,33,45,45]⟩:ByteArray) (by decide)
          unfold takesS at hn
          rw [show bytesOf (⟨#[60,33,45,45]⟩:ByteArray) = [60,33,45,45] from rfl] at hn
          rcases hh105:(hasS bs [60,33,45,45] (a101)).1 with _ | _
          ·rw [hh105] at hn hR
           rw [if_neg (by decide)] at hn hR
           (try simp only at hR)
           refine hn.mono ?_
           clear hn t106
           rintro e w105 ⟨rfl,hmx⟩
           have hm105:Mv w w105 p (a101):=hm104.trans hmx
           have hle105:a101 ≤ bs.length:=hle101
           have hP105:=h.moved hm105 hle105
           clear hmx
           have t108:=True.intro
           go_wp2_with (first
            | (
             have _t:=t108
             go_at_call 114
             go_loud (
              clear _t
              have hn:=takes_c hP105 (⟨#[60,63]⟩:ByteArray) (by decide)
              unfold takesS at hn
              rw [show bytesOf (⟨#[60,63]⟩:ByteArray) = [60,63] from rfl] at hn
              rcases hh107:(hasS bs [60,63] (a101)).1 with _ | _
              ·rw [hh107] at hn hR
               rw [if_neg (by decide)] at hn hR
               (try simp only at hR)
               refine hn.mono ?_
               clear hn t108
               rintro e w107 ⟨rfl,hmx⟩
               have hm107:Mv w w107 p (a101):=hm105.trans hmx
               have hle107:a101 ≤ bs.length:=hle105
               have hP107:=h.moved hm107 hle107
               clear hmx
               by_cases hl1:a101 + 1 < bs.length
               ·rw [if_pos hl1] at hR
                (try simp only at hR)
                have qf:(a101:Int) + 1 < (bs.length:Int):=by omega
                have hh107:=hP107.here
                obtain ⟨ba107,cap107,hrow107,_,_⟩:=hP107.row
                have hwr:IntKind.i64.wrap ((a101:Int) + 1) = (a101:Int) + 1:=IntWalk.i64_in _ (by have:=h.small;omega)
                go_wp2
                go_region
                have hbx:=(Below.refl w107.heap.size w107).drew
                have hm109:=hm107.then hP107.lt hbx
                have hP109:=hP107.below hbx
                clear hbx
                generalize w107.drew = w109 at *
                have t111:=True.intro
                go_wp2_with (first
                 | (
                  have _t:=t111
                  go_at_call 117
                  go_loud (
                   clear _t
                   have hn:=early1_c hP109 (⟨#[60,33,45,45]⟩:ByteArray) (by decide)
                   rw [show bytesOf (⟨#[60,33,45,45]⟩:ByteArray) = [60,33,45,45] from rfl] at hn
                   refine hn.mono ?_
                   clear hn t111
                   rintro e w110 he
                   rcases hq110:earlyS bs [[60,33,45,45]] (a101) with _ | f
                   ·rw [hq110] at hR he
                    obtain ⟨rfl,hbx⟩:=he
                    have hm110:=hm109.then hP109.lt hbx
                    have hP110:=hP109.below hbx
                    clear hbx
                    (try simp only at hR)
                    (try simp only at hR)
                    subst hR
                    go_wp2
                    go_end0
                    exact ⟨rfl,hm110⟩
                   ·rw [hq110] at hR he
                    (try simp only at hR)
                    subst hR
                    obtain ⟨rfl,hbx⟩:=he
                    go_wp2
                    exact ⟨rfl,rfl,_,hm109.then hP109.lt hbx⟩)))
               ·rw [if_neg hl1] at hR
                (try simp only at hR)
                have qf:¬ ((a101:Int) + 1 < (bs.length:Int)):=by omega
                have hh107:=hP107.here
                obtain ⟨ba107,cap107,hrow107,_,_⟩:=hP107.row
                have hwr:IntKind.i64.wrap ((a101:Int) + 1) = (a101:Int) + 1:=IntWalk.i64_in _ (by have:=h.small;omega)
                go_wp2
                go_region
                have hbx:=(Below.refl w107.heap.size w107).drew
                have hm112:=hm107.then hP107.lt hbx
                have hP112:=hP107.below hbx
                clear hbx
                generalize w107.drew = w112 at *
                (try simp only at hR)
                subst hR
                go_wp2
                go_end0
                exact ⟨rfl,hm112⟩
              ·rw [hh107] at hn hR
               rw [if_pos rfl] at hn hR
               (try simp only at hR)
               refine hn.mono ?_
               clear hn t108
               rintro e w107 ⟨rfl,hmx⟩
               have hm107:Mv w w107 p (a101 + 2):=hm105.trans hmx
               have hle107:a101 + 2 ≤ bs.length:=has_le hle105 hh107
               have hP107:=h.moved hm107 hle107
               clear hmx
               have t114:=True.intro
               go_wp2_with (first
                | (
                 have _t:=t114
                 go_at_call 116
                 go_loud (
                  clear _t
                  have hn:=instruction_c hP107 htk4 (E.mv hm107)
                  refine hn.mono ?_
                  clear hn t114
                  rintro e w113 he
                  rcases hq113:instructionS bs tk (a101 + 2) with f | a113
                  ·rw [hq113] at hR he
                   (try simp only at hR)
                   subst hR
                   obtain ⟨rfl,a5,hmx⟩:=he
                   go_wp2
                   exact ⟨rfl,rfl,_,hm107.trans hmx⟩
                  rw [hq113] at hR he
                  obtain ⟨rfl,hmx⟩:=he
                  have hm113:=hm107.trans hmx
                  have hle113:=(instruction_le h.bytes hle107 hq113).2
                  have hP113:=h.moved hm113 hle113
                  clear hmx
                  (try simp only at hR)
                  have hg:=(instruction_le h.bytes (has_le hle101 hh107) hq113).1
                  change a101 + 2 ≤ _ at hg
                  go_wp2
                  exact ⟨⟨_,k',hm113,hle113,by omega,hR⟩,by rw [hm113.atOf,hm10.atOf];omega⟩))))))
          ·rw [hh105] at hn hR
           rw [if_pos rfl] at hn hR
           (try simp only at hR)
           refine hn.mono ?_
           clear hn t106
           rintro e w105 ⟨rfl,hmx⟩
           have hm105:Mv w w105 p (a101 + 4):=hm104.trans hmx
           have hle105:a101 + 4 ≤ bs.length:=has_le hle101 hh105
           have hP105:=h.moved hm105 hle105
           clear hmx
           have t116:=True.intro
           go_wp2_with (first
            | (
             have _t:=t116
             go_at_call 115
             go_loud (
              clear _t
              have hn:=note_c hP105
              refine hn.mono ?_
              clear hn t116
              rintro e w115 he
              rcases hq115:noteS bs (a101 + 4) with f | a115
              ·rw [hq115] at hR he
               (try simp only at hR)
               subst hR
               obtain ⟨rfl,a5,hmx⟩:=he
               go_wp2
               exact ⟨rfl,rfl,_,hm105.trans hmx⟩
              rw [hq115] at hR he
              obtain ⟨rfl,hmx⟩:=he
              have hm115:=hm105.trans hmx
              have hle115:=(note_le h.bytes hle105 hq115).2
              have hP115:=h.moved hm115 hle115
              clear hmx
              (try simp only at hR)
              have hg:=(note_le h.bytes (has_le hle101 hh105) hq115).1
              change a101 + 4 ≤ _ at hg
              go_wp2
              exact ⟨⟨_,k',hm115,hle115,by omega,hR⟩,by rw [hm115.atOf,hm10.atOf];omega⟩)))))))))
end Go.Proofs.YtbaokjfhigjpdaaGreatDoorX
end
section
set_option linter.unusedVariables false
namespace Go.Proofs.YtbaokjfhigjpdaaGreatDoorX
open Go.RowKit Go.Shelf Go.Proofs.YtbaokjfhigjpdaaGreatDoor.PXmlBase Go.Proofs.YtbaokjfhigjpdaaGreatDoorW.PrintWords
theorem alloc_old (w:World) (o:Obj) (k:Nat) (h:k < w.heap.size):(w.alloc o).heap[k]? = w.heap[k]?:=by
 show (w.heap.push o)[k]? = _
 rw [Array.getElem?_push,if_neg (by omega)]
def RowAt (w:World) (e:TypeId) (size:Nat) (v:Value) (n:Nat) (xs:List Value):Prop :=
  xs.length = n * size ∧ ((v = .slice none 0 0 ∧ n = 0) ∨
    ∃ g off cap cur,v = .slice (some ⟨g,off,none⟩) n cap ∧ w.heap[g]? = some (.cells cur e (0,0)) ∧ n ≤ cap ∧ cap ≤ maxLen ∧ off + cap * size ≤ cur.size ∧ (cur.toList.drop off).take (n * size) = xs)
section
variable {w:World} {e:TypeId} {size:Nat} {v:Value} {n:Nat} {xs:List Value}
theorem RowAt.nil (w:World) (e:TypeId) (size:Nat):RowAt w e size (.slice none 0 0) 0 []:=⟨by simp,.inl ⟨rfl,rfl⟩⟩
theorem RowAt.lt (h:RowAt w e size v n xs):∀ k,v.ownBlock = some k → k < w.heap.size:=by
 intro k hk
 rcases h.2 with ⟨rfl,_⟩ | ⟨g,off,cap,cur,rfl,hg,_⟩
 · simp [Value.ownBlock] at hk
 ·simp [Value.ownBlock] at hk
  subst hk
  exact (Array.getElem?_eq_some_iff.1 hg).1
theorem RowAt.move {w':World} (h:RowAt w e size v n xs) (hm:∀ k,v.ownBlock = some k → w'.heap[k]? = w.heap[k]?):RowAt w' e size v n xs:=by
 refine ⟨h.1,?_⟩
 rcases h.2 with h2 | ⟨g,off,cap,cur,rfl,hg,r⟩
 · exact .inl h2
 · exact .inr ⟨g,off,cap,cur,rfl,(hm g (by simp [Value.ownBlock])).trans hg,r⟩
theorem RowAt.slice (h:RowAt w e size v n xs):∃ A c,v = .slice A n c ∧ n ≤ c:=by
 rcases h.2 with ⟨rfl,rfl⟩ | ⟨g,off,cap,cur,rfl,_,hc,_⟩
 · exact ⟨none,0,rfl,Nat.le_refl _⟩
 · exact ⟨_,cap,rfl,hc⟩
theorem RowAt.cells (h:RowAt w e size v n xs) {g off c:Nat} (hv:v = .slice (some ⟨g,off,none⟩) n c):∀ j u,xs[j]? = some u → w.cell? ⟨g,off + j,none⟩ = some u:=by
 intro j u hu
 rcases h.2 with ⟨e1,_⟩ | ⟨g',off',cap,cur,e1,hg,_,_,_,ht⟩
 ·rw [hv] at e1
  cases e1
 ·rw [hv] at e1
  cases e1
  rw [cell_of_row w g (off + j) cur e (0,0) hg]
  rw [← ht,List.getElem?_take] at hu
  split at hu
  ·rw [List.getElem?_drop] at hu
   simpa using hu
  · cases hu
end
section
variable {P:Program} (w:World)
theorem run_append_row (t ty e:TypeId) (i:TypeInfo) (z:Value) (size bytes:Nat) (ht:P.underlying t = some (.slice e)) (hi:P.info? e = some i) (hz:i.zero = some z)
    (hsize:i.size = size) (hby:i.bytes = bytes) (hzs:z.cells.size = size) (hsz:0 < size)
    (v:Value) (n:Nat) (xs:List Value) (hown:RowAt w e size v n xs)
    (a:Addr) (m c:Nat) (news:List Value) (hl:news.length = m * size) (hnews:∀ j u,news[j]? = some u → w.cell? (a.add j) = some u) (h1:∀ u ∈ news,u.oneCell' = true)
    (h63:n + m ≤ maxLen) (hbytes:(n + m) * bytes ≤ 140737488355328) :
    ∃ v' w',(Builtin.append_ #[t,t] ty #[v,.slice (some a) m c]).run P w = .ok v' w' ∧ RowAt w' e size v' (n + m) (xs ++ news) ∧ w.grownBy w' v.ownBlock ∧ (v'.ownBlock = v.ownBlock ∨ v'.ownBlock = some w.heap.size):=by
  subst hsize
  subst hby
  have hsmall:n + m ≤ 9223372036854775807:=by simp only [maxLen] at h63;omega
  have hlen:(xs ++ news).length = (n + m) * i.size:=by rw [List.length_append,hown.1,hl,Nat.add_mul]
  have grown:∀ (old:Nat),old < n + m → ∀ (row:Option Nat),
      RowAt (w.drew.alloc (.cells (xs.toArray ++ news.toArray ++ Builtin.zeroCells z.cells (grownCap w (n + m) old e - (n + m))) e)) e i.size
        (.slice (some ⟨w.heap.size,0,none⟩) (n + m) (grownCap w (n + m) old e)) (n + m) (xs ++ news) ∧
      w.grownBy (w.drew.alloc (.cells (xs.toArray ++ news.toArray ++ Builtin.zeroCells z.cells (grownCap w (n + m) old e - (n + m))) e)) row:=by
    intro old ho row
    have hge:=grownCap_ge w (n + m) old e
    have hcm:grownCap w (n + m) old e ≤ maxLen:=grownCap_le_maxLen w (n + m) old e h63
    refine ⟨⟨hlen,.inr ⟨w.heap.size,0,_,_,rfl,heap_alloc_new w.drew _,hge,hcm,?_,?_⟩⟩,⟨rfl,rfl,rfl,by simp,fun k hk _=>alloc_old w.drew _ k hk⟩⟩
    ·simp only [Array.size_append,List.size_toArray,size_zeroCells,hzs,hown.1,hl,← Nat.add_mul]
     rw [Nat.zero_add]
     apply Nat.mul_le_mul_right
     omega
    ·simp only [Array.toList_append,List.append_assoc,List.drop_zero]
     rw [← List.append_assoc,← hlen]
     exact List.take_left
  rcases hown.2 with ⟨rfl,rfl⟩ | ⟨g,off,cap,cur,rfl,hg,hnc,hcm,hcs,htake⟩
  ·have hx:xs = []:=List.eq_nil_of_length_eq_zero (by simpa using hown.1)
   subst hx
   by_cases hm:m = 0
   ·subst hm
    have hn:news = []:=List.eq_nil_of_length_eq_zero (by simpa using hl)
    subst hn
    refine ⟨.slice none 0 0,w,?_,RowAt.nil w e i.size,⟨rfl,rfl,rfl,Nat.le_refl _,fun _ _ _=>rfl⟩,Or.inl rfl⟩
    simp [Builtin.append_,run_underlying ht,sizeOf,typeInfo,hi,Builtin.lenOf,Builtin.firstCells,loadCells,loadCellsFrom]
   ·have hr:=run_append_nil (P:=P) w t ty e i z ht hi hz a m c news hl hnews (by omega) (by omega) (by have hb:=hbytes;simp only [Nat.zero_add] at hb;omega)
    have hgr:=grown 0 (by omega) (Value.ownBlock (.slice none 0 0))
    simp only [Nat.zero_add,List.nil_append,Array.empty_append] at hgr ⊢
    exact ⟨_,_,hr,hgr.1,hgr.2,Or.inr rfl⟩
  ·by_cases hroom:n + m ≤ cap
   ·have hle:(n + m) * i.size ≤ cap * i.size:=Nat.mul_le_mul_right _ hroom
    have hfit:off + n * i.size + 0 + news.length ≤ cur.size:=by rw [hl,Nat.add_mul] at *;omega
    have hf:=run_firstCells_some (P:=P) w i.size m a m c news hl hnews
    have hst:=run_storeCells_at P g (off + n * i.size) e news 0 cur w hg hfit h1
    simp only [Nat.add_zero] at hst
    have hr:(Builtin.append_ #[t,t] ty #[.slice (some ⟨g,off,none⟩) n cap,.slice (some a) m c]).run P w = .ok (.slice (some ⟨g,off,none⟩) (n + m) cap) (w.setRow g (cur.toList.take (off + n * i.size) ++ news ++ cur.toList.drop (off + n * i.size + news.length)).toArray):=by
     simp [Builtin.append_,run_underlying ht,sizeOf,typeInfo,hi,Builtin.lenOf,hroom,hf,Addr.add_lit,hst]
    refine ⟨_,_,hr,⟨hlen,.inr ⟨g,off,cap,_,rfl,setRow_heap w g cur _ e _ hg,hroom,hcm,?_,?_⟩⟩,⟨rfl,rfl,rfl,by simp,fun k _ hk=>setRow_other w g k _ (fun e=>hk (by simp [Value.ownBlock,e]))⟩,Or.inl rfl⟩
    ·simp only [List.size_toArray,List.length_append,List.length_take,List.length_drop,Array.length_toList]
     omega
    ·have h2:off ≤ cur.toList.length:=by rw [Array.length_toList];omega
     have h3:(cur.toList.take (off + n * i.size)).length = off + n * i.size:=by rw [List.length_take,Array.length_toList];omega
     show ((cur.toList.take (off + n * i.size) ++ news ++ cur.toList.drop (off + n * i.size + news.length)).drop off).take ((n + m) * i.size) = xs ++ news
     rw [List.append_assoc,List.drop_append_of_le_length (by omega),← hlen,← htake,List.drop_take]
     rw [show off + n * i.size - off = n * i.size from by omega,← List.append_assoc]
     exact List.take_left
   · have holds:∀ j u,xs[j]? = some u → w.cell? ((⟨g,off,none⟩:Addr).add j) = some u:=fun j u hu=>by
       rw [plain_add]
       exact hown.cells rfl j u hu
     have hr:=run_append_grow (P:=P) w t ty e i z ht hi hz ⟨g,off,none⟩ n cap xs hown.1 holds a m c news hl hnews (by omega) (by omega) (growslice_fits (by omega) hbytes)
     have hgr:=grown cap (by omega) (Value.ownBlock (.slice (some ⟨g,off,none⟩) n cap))
     exact ⟨_,_,hr,hgr.1,hgr.2,Or.inr rfl⟩
end
section
variable {P:Program} {ops:Array Oper} {rest:List Oper} {o:Oper} {a:Act} {Q:Exit → Act → World → Prop}
theorem append_row {W:World} (hgd:o.guard = none) (s x:Operand) (t e:TypeId) (z:Value) (size bytes:Nat)
    (ho:o.op = .call { callee:=.builtin .append,args:=#[s,x],argTypes:=#[t,t] })
    (ht:P.underlying t = some (.slice e)) (hinfo:(P.info? e).map (fun i=>(i.zero,i.size,i.bytes)) = some (some z,size,bytes)) (hzs:z.cells.size = size) (hsz:0 < size)
    (v:Value) (n:Nat) (xs:List Value) (hs:a.eval s = v) (hown:RowAt W e size v n xs)
    (ad:Addr) (m c:Nat) (news:List Value) (hx:a.eval x = .slice (some ad) m c) (hl:news.length = m * size) (hnews:∀ j u,news[j]? = some u → W.cell? (ad.add j) = some u) (h1:∀ u ∈ news,u.oneCell' = true)
    (h63:n + m ≤ maxLen) (hbytes:(n + m) * bytes ≤ 140737488355328)
    (h:∀ v1 w1,RowAt w1 e size v1 (n + m) (xs ++ news) → W.grownBy w1 v.ownBlock → (v1.ownBlock = v.ownBlock ∨ v1.ownBlock = some W.heap.size) → wpList P ops Q rest (a.put o.dst v1) w1) :
    wpList P ops Q (o :: rest) a W:=by
  obtain ⟨i0,hi,hzz⟩:=Option.map_eq_some_iff.1 hinfo
  simp only [Prod.mk.injEq] at hzz
  obtain ⟨hz0,hz1,hz2⟩:=hzz
  obtain ⟨v1,w1,hr,h2,h3,h4⟩:=run_append_row (P:=P) W t o.type e i0 z size bytes ht hi hz0 hz1 hz2 hzs hsz v n xs hown ad m c news hl hnews h1 h63 hbytes
  refine wpList_plain hgd fun K hK=>?_
  unfold Oper.wp execOp
  simp only [ho,resolve,invoke,builtin,Sem.run_bind,Sem.run_pure,Result.andThen_ok,List.map_toArray,List.map_cons,List.map_nil,hs,hx,hr]
  exact hK _ _ (h v1 w1 h2 h3 h4)
theorem step_append {W:World} {K:Act → World → Prop} {E:Prop} (hgd:o.guard = none) (s x:Operand) (t e:TypeId) (z:Value) (size bytes:Nat)
    (ho:o.op = .call { callee:=.builtin .append,args:=#[s,x],argTypes:=#[t,t] })
    (ht:P.underlying t = some (.slice e)) (hinfo:(P.info? e).map (fun i=>(i.zero,i.size,i.bytes)) = some (some z,size,bytes)) (hzs:z.cells.size = size) (hsz:0 < size)
    (v:Value) (n:Nat) (xs:List Value) (hs:a.eval s = v) (hown:RowAt W e size v n xs)
    (ad:Addr) (m c:Nat) (news:List Value) (hx:a.eval x = .slice (some ad) m c) (hl:news.length = m * size) (hnews:∀ j u,news[j]? = some u → W.cell? (ad.add j) = some u) (h1:∀ u ∈ news,u.oneCell' = true)
    (h63:n + m ≤ maxLen) (hbytes:(n + m) * bytes ≤ 140737488355328)
    (h:∀ v1 w1,RowAt w1 e size v1 (n + m) (xs ++ news) → W.grownBy w1 v.ownBlock → (v1.ownBlock = v.ownBlock ∨ v1.ownBlock = some W.heap.size) → K (a.put o.dst v1) w1) :
    if Region.wanted o (yielded ops a.tmps) = true then Oper.wp P o a W K Q else E:=by
  have hw:Region.wanted o (yielded ops a.tmps) = true:=by simp [Region.wanted,hgd]
  rw [if_pos hw]
  obtain ⟨i0,hi,hzz⟩:=Option.map_eq_some_iff.1 hinfo
  simp only [Prod.mk.injEq] at hzz
  obtain ⟨hz0,hz1,hz2⟩:=hzz
  obtain ⟨v1,w1,hr,h2,h3,h4⟩:=run_append_row (P:=P) W t o.type e i0 z size bytes ht hi hz0 hz1 hz2 hzs hsz v n xs hown ad m c news hl hnews h1 h63 hbytes
  unfold Oper.wp execOp
  simp only [ho,resolve,invoke,builtin,Sem.run_bind,Sem.run_pure,Result.andThen_ok,List.map_toArray,List.map_cons,List.map_nil,hs,hx,hr]
  exact h v1 w1 h2 h3 h4
end
end Go.Proofs.YtbaokjfhigjpdaaGreatDoorX
end
section
set_option linter.unusedVariables false
namespace Go.Proofs.YtbaokjfhigjpdaaGreatDoorX
open Go.RowKit Go.Shelf Go.Proofs.YtbaokjfhigjpdaaGreatDoor.PXmlBase Go.Proofs.YtbaokjfhigjpdaaGreatDoorW.PrintWords
structure XA where
  name:List Int
  value:List Int
  at_:Nat
structure XE where
  kind:Int
  at_:Nat
  name:List Int
  text:List Int
  attrs:List XA
structure Lim where
  depth:Nat
  nodes:Nat
  attrs:Nat
  token:Nat
structure St where
  at_:Nat
  state:Nat
  opn:List (List Int)
  nodes:Nat
  most:Nat
  depth:Int
  text:List Int
  textAt:Nat
  ready:List XE
  fat:Int
  ferr:Int
structure Tv where
  bv:Value
  v5:Value
  v6:Value
  ov:Value
  tv:Value
  rv:Value
def pcells (L:Lim) (s:St) (T:Tv):List Value:=[T.bv,.int .i64 L.depth,.int .i64 L.nodes,.int .i64 L.attrs,.int .i64 L.token,T.v5,T.v6,.int .i64 s.at_,.int .i64 s.state,T.ov,.int .i64 s.nodes,.int .i64 s.most,.int .i64 s.depth,T.tv,.int .i64 s.textAt,T.rv,.int .i64 s.fat,.int .i64 s.ferr]
def PX (p:Nat) (T:Tv) (k:Nat):Prop:=k = p ∨ T.ov.ownBlock = some k ∨ T.tv.ownBlock = some k ∨ T.rv.ownBlock = some k
def xaCells (x:XA):List Value:=[txt x.name,txt x.value,.int .i64 x.at_]
def AttrRow (w:World) (v:Value) (l:List XA):Prop:=RowAt w 163 3 v l.length (l.flatMap xaCells)
def EvRows (w:World) (X:Nat → Prop):List XE → List Value → Prop
  | [],cs=>cs = []
  | x :: t,cs=>∃ av rest,cs = .int .i64 x.kind :: .int .i64 x.at_ :: txt x.name :: txt x.text :: av :: rest ∧ AttrRow w av x.attrs ∧ (∀ k,av.ownBlock = some k → ¬ X k) ∧ EvRows w X t rest
theorem EvRows.len {w:World} {X:Nat → Prop}:∀ {es:List XE} {cs:List Value},EvRows w X es cs → cs.length = es.length * 5
  | [],cs,h=>by
   rw [show cs = [] from h]
   rfl
  | x :: t,cs,h=>by
   obtain ⟨av,rest,rfl,_,_,h4⟩:=h
   have:=EvRows.len h4
   simp only [List.length_cons]
   omega
theorem EvRows.move {w w':World} {X X':Nat → Prop} (hb:∀ k,k < w.heap.size → ¬ X k → w'.heap[k]? = w.heap[k]? ∧ ¬ X' k):∀ {es:List XE} {cs:List Value},EvRows w X es cs → EvRows w' X' es cs
  | [],cs,h=>h
  | x :: t,cs,h=>by
   obtain ⟨av,rest,h1,h2,h3,h4⟩:=h
   exact ⟨av,rest,h1,RowAt.move h2 (fun k hk=>(hb k (RowAt.lt h2 k hk) (h3 k hk)).1),fun k hk=>(hb k (RowAt.lt h2 k hk) (h3 k hk)).2,h4.move hb⟩
theorem EvRows.append {w:World} {X:Nat → Prop}:∀ {es es':List XE} {cs cs':List Value},EvRows w X es cs → EvRows w X es' cs' → EvRows w X (es ++ es') (cs ++ cs')
  | [],es',cs,cs',h,h'=>by
   rw [show cs = [] from h]
   exact h'
  | x :: t,es',cs,cs',h,h'=>by
   obtain ⟨av,rest,rfl,h2,h3,h4⟩:=h
   exact ⟨av,rest ++ cs',rfl,h2,h3,h4.append h'⟩
def EnvB (w:World) (B:Nat):Prop:=∃ w0,Gl w0 ∧ Below w0.heap.size w0 w ∧ w0.heap.size ≤ B
structure PS (w:World) (p B:Nat) (bs:List Int) (L:Lim) (s:St) (T:Tv):Prop where
  cells:∀ i,w.cell? ⟨p,i,none⟩ = (pcells L s T)[i]?
  frz:∀ i,w.frozen? ⟨p,i,none⟩ = false
  row:∃ ba cap,T.bv = .slice ba bs.length cap ∧ bs.length ≤ cap ∧ ∀ i (h:i < bs.length),∃ g,ba = some ⟨g,0,none⟩ ∧ ¬ PX p T g ∧ w.cell? ⟨g,i,none⟩ = some (.int .u8 bs[i])
  bytes:Bytes bs
  small:bs.length ≤ 1099511627776
  opn:RowAt w 9 1 T.ov s.opn.length (s.opn.map txt)
  text:RowAt w 5 1 T.tv s.text.length (nums .u8 s.text)
  ready:∃ cs,RowAt w 95 5 T.rv s.ready.length cs ∧ EvRows w (PX p T) s.ready cs
  base:∀ k,PX p T k → B ≤ k
  env:EnvB w B
  po:T.ov.ownBlock ≠ some p
  pt:T.tv.ownBlock ≠ some p
  pr:T.rv.ownBlock ≠ some p
  ot:∀ k,T.ov.ownBlock = some k → T.tv.ownBlock ≠ some k
  or_:∀ k,T.ov.ownBlock = some k → T.rv.ownBlock ≠ some k
  tr:∀ k,T.tv.ownBlock = some k → T.rv.ownBlock ≠ some k
structure Fx (w W:World) (p:Nat) (T T':Tv):Prop where
  os:W.os = w.os
  tape:W.tape = w.tape
  output:W.output = w.output
  size:w.heap.size ≤ W.heap.size
  block:∀ k,k < w.heap.size → ¬ PX p T k → W.heap[k]? = w.heap[k]?
  grow:∀ k,PX p T' k → PX p T k ∨ w.heap.size ≤ k
theorem Fx.trans {a b c:World} {p:Nat} {T T' T'':Tv} (h:Fx a b p T T') (k:Fx b c p T' T''):Fx a c p T T'' :=
  ⟨k.os.trans h.os,k.tape.trans h.tape,k.output.trans h.output,Nat.le_trans h.size k.size,
    fun i hi hx=>(k.block i (Nat.lt_of_lt_of_le hi h.size) (fun hx2=>(h.grow i hx2).elim hx (by omega))).trans (h.block i hi hx),
    fun i hi=>(k.grow i hi).elim (h.grow i) (fun h2=>.inr (Nat.le_trans h.size h2))⟩
theorem Fx.of_below {w W:World} {p:Nat} {T:Tv} (hb:Below w.heap.size w W):Fx w W p T T:=⟨hb.os,hb.tape,hb.output,hb.size,fun k hk _=>hb.block k hk,fun _ h=>.inl h⟩
theorem Fx.of_mv {w W:World} {p a:Nat} {T:Tv} (hm:Mv w W p a):Fx w W p T T:=⟨hm.os,hm.tape,hm.output,hm.size,fun k hk hx=>hm.block k hk (fun e=>hx (.inl e)),fun _ h=>.inl h⟩
theorem Fx.refl (w:World) (p:Nat) (T:Tv):Fx w w p T T:=Fx.of_below (Below.refl _ w)
section
variable {w:World} {p B:Nat} {bs:List Int} {L:Lim} {s:St} {T:Tv}
theorem PS.here (h:PS w p B bs L s T):w.cell? ⟨p,7,none⟩ = some (.int .i64 s.at_):=h.cells 7
theorem PS.lt (h:PS w p B bs L s T):p < w.heap.size:=lt_of_cell h.here
theorem PS.pb (h:PS w p B bs L s T) (hle:s.at_ ≤ bs.length):PB w p bs L.token s.at_:=by
 obtain ⟨ba,cap,h1,h2,h3⟩:=h.row
 refine ⟨⟨ba,cap,(h.cells 0).trans (congrArg some h1),h2,fun i hi=>?_⟩,h.cells 4,h.here,h.frz 7,hle,h.bytes,h.small⟩
 obtain ⟨g,e,hg,hc⟩:=h3 i hi
 exact ⟨g,e,fun e=>hg (.inl e),hc⟩
theorem PS.envp (h:PS w p B bs L s T):Env w p:=by
 obtain ⟨w0,h1,h2,h3⟩:=h.env
 exact ⟨w0,h1,h2,Nat.le_trans h3 (h.base p (.inl rfl))⟩
theorem PS.gen {w':World} {s':St} {T':Tv} {i:Nat} {v:Value} (h:PS w p B bs L s T)
    (hos:w'.os = w.os) (htp:w'.tape = w.tape) (hou:w'.output = w.output) (hsz:w.heap.size ≤ w'.heap.size)
    (hbl:∀ k,k < w.heap.size → ¬ PX p T k → w'.heap[k]? = w.heap[k]?) (hbp:w'.heap[p]? = w.heap[p]?)
    (hi:i < 18) (hs:pcells L s' T' = (pcells L s T).set i v) (hbv:T'.bv = T.bv)
    (ho:RowAt w' 9 1 T'.ov s'.opn.length (s'.opn.map txt))
    (ht:RowAt w' 5 1 T'.tv s'.text.length (nums .u8 s'.text))
    (hr:∃ cs,RowAt w' 95 5 T'.rv s'.ready.length cs ∧ EvRows w' (PX p T') s'.ready cs)
    (hgr:∀ k,PX p T' k → PX p T k ∨ w.heap.size ≤ k)
    (po:T'.ov.ownBlock ≠ some p) (pt:T'.tv.ownBlock ≠ some p) (pr:T'.rv.ownBlock ≠ some p)
    (ot:∀ k,T'.ov.ownBlock = some k → T'.tv.ownBlock ≠ some k) (or_:∀ k,T'.ov.ownBlock = some k → T'.rv.ownBlock ≠ some k) (tr:∀ k,T'.tv.ownBlock = some k → T'.rv.ownBlock ≠ some k) :
    PS (w'.setCell ⟨p,i,none⟩ v) p B bs L s' T' ∧ Fx w (w'.setCell ⟨p,i,none⟩ v) p T T':=by
  have hlt:=h.lt
  have hset:∀ k,k ≠ p → (w'.setCell ⟨p,i,none⟩ v).heap[k]? = w'.heap[k]?:=fun k hk=>Below.heap_setCell w' ⟨p,i,none⟩ _ k hk
  have hssz:(w'.setCell ⟨p,i,none⟩ v).heap.size = w'.heap.size:=by simp [World.setCell]
  have hfx:Fx w (w'.setCell ⟨p,i,none⟩ v) p T T' :=
    ⟨hos,htp,hou,by rw [hssz];exact hsz,fun k hk hx=>(hset k (fun e=>hx (.inl e))).trans (hbl k hk hx),hgr⟩
  have hBp:=h.base p (.inl rfl)
  have hxlt:∀ k,PX p T k → k < w.heap.size:=by
   intro k hk
   rcases hk with rfl | hk | hk | hk
   · exact hlt
   · exact h.opn.lt k hk
   · exact h.text.lt k hk
   ·obtain ⟨cs,hc,_⟩:=h.ready
    exact hc.lt k hk
  refine ⟨⟨?_,?_,?_,h.bytes,h.small,?_,?_,?_,?_,?_,po,pt,pr,ot,or_,tr⟩,hfx⟩
  ·intro j
   rw [hs]
   have hcj:w'.cell? ⟨p,j,none⟩ = (pcells L s T)[j]?:=(World.cell?_of_block hbp).trans (h.cells j)
   by_cases hj:j = i
   ·subst hj
    rw [World.cell?_setCell_same' _ _ _ (by rw [hcj,List.getElem?_eq_getElem (show j < (pcells L s T).length from hi)];rfl),List.getElem?_set_self (by exact hi)]
   ·rw [World.cell?_setCell_other _ _ _ _ (fun e=>hj (by cases e;rfl)),List.getElem?_set_ne (fun e=>hj e.symm)]
    exact hcj
  ·intro j
   rw [World.frozen?_setCell]
   exact (World.frozen?_of_block hbp).trans (h.frz j)
  ·obtain ⟨ba,cap,h1,h2,h3⟩:=h.row
   refine ⟨ba,cap,hbv.trans h1,h2,fun j hj=>?_⟩
   obtain ⟨g,e,hg,hc⟩:=h3 j hj
   have hgl:g < w.heap.size:=lt_of_cell hc
   exact ⟨g,e,fun hx=>(hgr g hx).elim hg (by omega),(World.cell?_of_block (hfx.block g hgl hg)).trans hc⟩
  · exact ho.move fun k hk=>hset k (fun e=>po (by rw [hk,e]))
  · exact ht.move fun k hk=>hset k (fun e=>pt (by rw [hk,e]))
  ·obtain ⟨cs,h1,h2⟩:=hr
   exact ⟨cs,h1.move fun k hk=>hset k (fun e=>pr (by rw [hk,e])),h2.move fun k hk hx=>⟨hset k (fun e=>hx (.inl e)),hx⟩⟩
  ·intro k hk
   rcases hgr k hk with h1 | h1
   · exact h.base k h1
   · omega
  ·obtain ⟨w0,h1,h2,h3⟩:=h.env
   refine ⟨w0,h1,⟨hos.trans h2.os,htp.trans h2.tape,hou.trans h2.output,Nat.le_trans h2.size hfx.size,fun k hk=>?_⟩,h3⟩
   have hk2:k < w.heap.size:=Nat.lt_of_lt_of_le hk h2.size
   exact (hfx.block k hk2 (fun hx=>by have:=h.base k hx;omega)).trans (h2.block k hk)
theorem PS.set {s':St} (h:PS w p B bs L s T) (i:Nat) (v:Value) (hi:i < 18) (hs:pcells L s' T = (pcells L s T).set i v) (ho:s'.opn = s.opn) (ht:s'.text = s.text) (hr:s'.ready = s.ready) :
    PS (w.setCell ⟨p,i,none⟩ v) p B bs L s' T ∧ Fx w (w.setCell ⟨p,i,none⟩ v) p T T :=
  h.gen rfl rfl rfl (Nat.le_refl _) (fun _ _ _=>rfl) rfl hi hs rfl (by rw [ho];exact h.opn) (by rw [ht];exact h.text) (by rw [hr];exact h.ready) (fun _ hk=>.inl hk) h.po h.pt h.pr h.ot h.or_ h.tr
theorem PS.below {W:World} (h:PS w p B bs L s T) (hb:Below w.heap.size w W):PS W p B bs L s T:=by
 have hlt:=h.lt
 have hbp:=hb.block p hlt
 refine ⟨fun i=>(World.cell?_of_block hbp).trans (h.cells i),fun i=>(World.frozen?_of_block hbp).trans (h.frz i),?_,h.bytes,h.small,h.opn.move fun k hk=>hb.block k (h.opn.lt k hk),h.text.move fun k hk=>hb.block k (h.text.lt k hk),?_,h.base,?_,h.po,h.pt,h.pr,h.ot,h.or_,h.tr⟩
 ·obtain ⟨ba,cap,h1,h2,h3⟩:=h.row
  refine ⟨ba,cap,h1,h2,fun j hj=>?_⟩
  obtain ⟨g,e,hg,hc⟩:=h3 j hj
  exact ⟨g,e,hg,cellB hb hc (lt_of_cell hc)⟩
 ·obtain ⟨cs,h1,h2⟩:=h.ready
  exact ⟨cs,h1.move fun k hk=>hb.block k (h1.lt k hk),h2.move fun k hk hx=>⟨hb.block k hk,hx⟩⟩
 ·obtain ⟨w0,h1,h2,h3⟩:=h.env
  exact ⟨w0,h1,h2.trans (hb.mono h2.size),h3⟩
theorem PS.moved {W:World} {a:Nat} (h:PS w p B bs L s T) (hm:Mv w W p a):PS W p B bs L { s with at_:=a } T:=by
 have hlt:=h.lt
 have hbl:∀ k,k < w.heap.size → k ≠ p → W.heap[k]? = w.heap[k]?:=hm.block
 refine ⟨fun i=>?_,fun i=>(hm.frz i).trans (h.frz i),?_,h.bytes,h.small,h.opn.move fun k hk=>hbl k (h.opn.lt k hk) (fun e=>h.po (by rw [hk,e])),h.text.move fun k hk=>hbl k (h.text.lt k hk) (fun e=>h.pt (by rw [hk,e])),?_,h.base,?_,h.po,h.pt,h.pr,h.ot,h.or_,h.tr⟩
 ·by_cases hi:i = 7
  ·subst hi
   exact hm.here
  ·rw [hm.cell i hi,h.cells i]
   match i,hi with
   | 0,_=>rfl
   | 1,_=>rfl
   | 2,_=>rfl
   | 3,_=>rfl
   | 4,_=>rfl
   | 5,_=>rfl
   | 6,_=>rfl
   | n + 8,_=>rfl
 ·obtain ⟨ba,cap,h1,h2,h3⟩:=h.row
  refine ⟨ba,cap,h1,h2,fun j hj=>?_⟩
  obtain ⟨g,e,hg,hc⟩:=h3 j hj
  exact ⟨g,e,hg,(World.cell?_of_block (hbl g (lt_of_cell hc) (fun e=>hg (.inl e)))).trans hc⟩
 ·obtain ⟨cs,h1,h2⟩:=h.ready
  exact ⟨cs,h1.move fun k hk=>hbl k (h1.lt k hk) (fun e=>h.pr (by rw [hk,e])),h2.move fun k hk hx=>⟨hbl k hk (fun e=>hx (.inl e)),hx⟩⟩
 ·obtain ⟨w0,h1,h2,h3⟩:=h.env
  have hBp:=h.base p (.inl rfl)
  exact ⟨w0,h1,⟨hm.os.trans h2.os,hm.tape.trans h2.tape,hm.output.trans h2.output,Nat.le_trans h2.size hm.size,fun k hk=>(hbl k (Nat.lt_of_lt_of_le hk h2.size) (by omega)).trans (h2.block k hk)⟩,h3⟩
theorem PS.texted {w':World} {v:Value} {l:List Int} (h:PS w p B bs L s T) (hg:w.grownBy w' T.tv.ownBlock) (hr:RowAt w' 5 1 v l.length (nums .u8 l)) (hat:v.ownBlock = T.tv.ownBlock ∨ ∀ k,v.ownBlock = some k → w.heap.size ≤ k) :
    PS (w'.setCell ⟨p,13,none⟩ v) p B bs L { s with text:=l } { T with tv:=v } ∧ Fx w (w'.setCell ⟨p,13,none⟩ v) p T { T with tv:=v }:=by
  have hlt:=h.lt
  obtain ⟨cs,hc1,hc2⟩:=h.ready
  have hgr:∀ k,PX p { T with tv:=v } k → PX p T k ∨ w.heap.size ≤ k:=by
   intro k hk
   rcases hk with hk | hk | hk | hk
   · exact .inl (.inl hk)
   · exact .inl (.inr (.inl hk))
   ·change v.ownBlock = some k at hk
    rcases hat with e | e
    · exact .inl (.inr (.inr (.inl (e ▸ hk))))
    · exact .inr (e k hk)
   · exact .inl (.inr (.inr (.inr hk)))
  have hnt:∀ k,k < w.heap.size → T.tv.ownBlock ≠ some k → w'.heap[k]? = w.heap[k]?:=fun k hk hx=>hg.block k hk (fun e=>hx e.symm)
  refine h.gen hg.os hg.tape hg.output hg.size (fun k hk hx=>hnt k hk (fun e=>hx (.inr (.inr (.inl e))))) (hnt p hlt h.pt) (by decide) rfl rfl ?_ hr ⟨cs,?_,?_⟩ hgr h.po ?_ h.pr ?_ h.or_ ?_
  · exact h.opn.move fun k hk=>hnt k (h.opn.lt k hk) (h.ot k hk)
  · exact hc1.move fun k hk=>hnt k (hc1.lt k hk) (fun e=>h.tr k e hk)
  · exact hc2.move fun k hk hx=>⟨hnt k hk (fun e=>hx (.inr (.inr (.inl e)))),fun hx2=>(hgr k hx2).elim hx (by omega)⟩
  ·intro e
   change v.ownBlock = some p at e
   rcases hat with e1 | e1
   · exact h.pt (e1 ▸ e)
   ·have:=e1 _ e
    omega
  ·intro k hk e
   change v.ownBlock = some k at e
   rcases hat with e1 | e1
   · exact h.ot k hk (e1 ▸ e)
   ·have:=e1 _ e
    have h9:=h.opn.lt _ hk
    omega
  ·intro k e hk
   change v.ownBlock = some k at e
   rcases hat with e1 | e1
   · exact h.tr k (e1 ▸ e) hk
   ·have:=e1 _ e
    have h9:=hc1.lt _ hk
    omega
theorem PS.opened {w':World} {v:Value} {l:List (List Int)} (h:PS w p B bs L s T) (hg:w.grownBy w' T.ov.ownBlock) (hr:RowAt w' 9 1 v l.length (l.map txt)) (hat:v.ownBlock = T.ov.ownBlock ∨ ∀ k,v.ownBlock = some k → w.heap.size ≤ k) :
    PS (w'.setCell ⟨p,9,none⟩ v) p B bs L { s with opn:=l } { T with ov:=v } ∧ Fx w (w'.setCell ⟨p,9,none⟩ v) p T { T with ov:=v }:=by
  have hlt:=h.lt
  obtain ⟨cs,hc1,hc2⟩:=h.ready
  have hgr:∀ k,PX p { T with ov:=v } k → PX p T k ∨ w.heap.size ≤ k:=by
   intro k hk
   rcases hk with hk | hk | hk | hk
   · exact .inl (.inl hk)
   ·change v.ownBlock = some k at hk
    rcases hat with e | e
    · exact .inl (.inr (.inl (e ▸ hk)))
    · exact .inr (e k hk)
   · exact .inl (.inr (.inr (.inl hk)))
   · exact .inl (.inr (.inr (.inr hk)))
  have hnt:∀ k,k < w.heap.size → T.ov.ownBlock ≠ some k → w'.heap[k]? = w.heap[k]?:=fun k hk hx=>hg.block k hk (fun e=>hx e.symm)
  refine h.gen hg.os hg.tape hg.output hg.size (fun k hk hx=>hnt k hk (fun e=>hx (.inr (.inl e)))) (hnt p hlt h.po) (by decide) rfl rfl hr ?_ ⟨cs,?_,?_⟩ hgr ?_ h.pt h.pr ?_ ?_ h.tr
  · exact h.text.move fun k hk=>hnt k (h.text.lt k hk) (fun e=>h.ot k e hk)
  · exact hc1.move fun k hk=>hnt k (hc1.lt k hk) (fun e=>h.or_ k e hk)
  · exact hc2.move fun k hk hx=>⟨hnt k hk (fun e=>hx (.inr (.inl e))),fun hx2=>(hgr k hx2).elim hx (by omega)⟩
  ·intro e
   change v.ownBlock = some p at e
   rcases hat with e1 | e1
   · exact h.po (e1 ▸ e)
   ·have:=e1 _ e
    omega
  ·intro k e hk
   change v.ownBlock = some k at e
   rcases hat with e1 | e1
   · exact h.ot k (e1 ▸ e) hk
   ·have:=e1 _ e
    have h9:=h.text.lt _ hk
    omega
  ·intro k e hk
   change v.ownBlock = some k at e
   rcases hat with e1 | e1
   · exact h.or_ k (e1 ▸ e) hk
   ·have:=e1 _ e
    have h9:=hc1.lt _ hk
    omega
theorem PS.readied {w':World} {v:Value} {l:List XE} (h:PS w p B bs L s T) (hg:w.grownBy w' T.rv.ownBlock) (hr:∃ cs,RowAt w' 95 5 v l.length cs ∧ EvRows w (PX p T) l cs) (hat:v.ownBlock = T.rv.ownBlock ∨ ∀ k,v.ownBlock = some k → w.heap.size ≤ k) :
    PS (w'.setCell ⟨p,15,none⟩ v) p B bs L { s with ready:=l } { T with rv:=v } ∧ Fx w (w'.setCell ⟨p,15,none⟩ v) p T { T with rv:=v }:=by
  have hlt:=h.lt
  obtain ⟨cs,hc1,hc2⟩:=hr
  obtain ⟨ds,hd1,hd2⟩:=h.ready
  have hgr:∀ k,PX p { T with rv:=v } k → PX p T k ∨ w.heap.size ≤ k:=by
   intro k hk
   rcases hk with hk | hk | hk | hk
   · exact .inl (.inl hk)
   · exact .inl (.inr (.inl hk))
   · exact .inl (.inr (.inr (.inl hk)))
   ·change v.ownBlock = some k at hk
    rcases hat with e | e
    · exact .inl (.inr (.inr (.inr (e ▸ hk))))
    · exact .inr (e k hk)
  have hnt:∀ k,k < w.heap.size → T.rv.ownBlock ≠ some k → w'.heap[k]? = w.heap[k]?:=fun k hk hx=>hg.block k hk (fun e=>hx e.symm)
  refine h.gen hg.os hg.tape hg.output hg.size (fun k hk hx=>hnt k hk (fun e=>hx (.inr (.inr (.inr e))))) (hnt p hlt h.pr) (by decide) rfl rfl ?_ ?_ ⟨cs,hc1,?_⟩ hgr h.po h.pt ?_ h.ot ?_ ?_
  · exact h.opn.move fun k hk=>hnt k (h.opn.lt k hk) (h.or_ k hk)
  · exact h.text.move fun k hk=>hnt k (h.text.lt k hk) (h.tr k hk)
  · exact hc2.move fun k hk hx=>⟨hnt k hk (fun e=>hx (.inr (.inr (.inr e)))),fun hx2=>(hgr k hx2).elim hx (by omega)⟩
  ·intro e
   change v.ownBlock = some p at e
   rcases hat with e1 | e1
   · exact h.pr (e1 ▸ e)
   ·have:=e1 _ e
    omega
  ·intro k hk e
   change v.ownBlock = some k at e
   rcases hat with e1 | e1
   · exact h.or_ k hk (e1 ▸ e)
   ·have:=e1 _ e
    have h9:=h.opn.lt _ hk
    omega
  ·intro k hk e
   change v.ownBlock = some k at e
   rcases hat with e1 | e1
   · exact h.tr k hk (e1 ▸ e)
   ·have:=e1 _ e
    have h9:=h.text.lt _ hk
    omega
end
end Go.Proofs.YtbaokjfhigjpdaaGreatDoorX
end
section
set_option linter.unusedVariables false
namespace Go.Proofs.YtbaokjfhigjpdaaGreatDoorX
open Go.RowKit Go.Shelf Go.Proofs.YtbaokjfhigjpdaaGreatDoor.PXmlBase Go.Proofs.YtbaokjfhigjpdaaGreatDoorW.PrintWords
def OutP (w:World) (p B:Nat) (bs:List Int) (L:Lim) (s:St) (T:Tv) (r:XR (Value × St)) (e:Ending) (W:World):Prop:=match r with
 | .ok (v,s')=>e = .returned v ∧ ∃ T',PS W p B bs L s' T' ∧ Fx w W p T T'
 | .error f=>e = .panicked (fltV f) ∧ ∃ s' T',PS W p B bs L s' T' ∧ Fx w W p T T' ∧ s'.ready = s.ready ∧ s'.most = s.most ∧ s'.depth = s.depth
def putS (L:Lim) (s:St) (at_:Nat) (r:Int):XR St :=
  if L.token < (s.text ++ encC r).length then .error (if s.text = [] then at_ else s.textAt,3)
  else .ok { s with textAt:=if s.text = [] then at_ else s.textAt,text:=s.text ++ encC r }
theorem enc_real (r:Int) (hr:charB r = true) (w:World):Calls Tryz.prog 151 #[.int .i32 r] w fun e w'=>∃ ad c,e = .returned (.slice (some ad) (encC r).length c) ∧ (∀ j u,(nums .u8 (encC r))[j]? = some u → w'.cell? (ad.add j) = some u) ∧ Below w.heap.size w w' :=
  (enc_own r w).mono fun e w' ⟨A,c,he,hrd,hb⟩=>by
   obtain ⟨ad,rfl,hc⟩:=hrd.2.2 (enc_pos hr)
   refine ⟨ad,c,he,fun j u hu=>?_,hb⟩
   unfold nums at hu
   rw [List.getElem?_map] at hu
   obtain ⟨x,hx,rfl⟩:=Option.map_eq_some_iff.1 hu
   obtain ⟨hj,rfl⟩:=List.getElem?_eq_some_iff.1 hx
   have:=hc j hj
   rw [this]
   simp [List.getD_eq_getElem?_getD,List.getElem?_eq_getElem hj]
theorem nums_one (l:List Int):∀ u ∈ nums .u8 l,u.oneCell' = true:=by
 intro u hu
 simp only [nums,List.mem_map] at hu
 obtain ⟨q,_,rfl⟩:=hu
 rfl
theorem nums_append (a b:List Int):nums .u8 (a ++ b) = nums .u8 a ++ nums .u8 b:=by simp [nums]
set_option maxRecDepth 100000 in
set_option maxHeartbeats 4000000 in
theorem put_c {w:World} {p B:Nat} {bs:List Int} {L:Lim} {s:St} {T:Tv} (h:PS w p B bs L s T) (hL:L.token ≤ 4294967280) (htx:s.text.length ≤ L.token) (at_:Nat) (r:Int) (hr:charB r = true) :
    Calls Tryz.prog 110 #[.pointer (some ⟨p,0,none⟩),.int .i64 at_,.int .i32 r] w (OutP w p B bs L s T ((putS L s at_ r).map fun x=>(Value.tuple #[],x))):=by
  generalize hR:putS L s at_ r = R
  unfold putS at hR
  obtain ⟨A,c,hT,_⟩:=h.text.slice
  have h13:w.cell? ⟨p,13,none⟩ = some (.slice A s.text.length c):=(h.cells 13).trans (congrArg some hT)
  have h4:=enc_four r
  go_enter Tryz.func110,Tryz.ntmps110
  by_cases hz:s.text = []
  ·have hz1:((s.text.length:Int) == 0) = true:=by rw [hz];rfl
   have hf:=h.frz 14
   have h14:w.cell? ⟨p,14,none⟩ = some (.int .i64 s.textAt):=h.cells 14
   rw [if_pos hz] at hR
   clear hz
   go_wp2
   obtain ⟨hP1,hF1⟩:=h.set (s':={ s with textAt:=at_ }) 14 (.int .i64 at_) (by decide) rfl rfl rfl rfl
   generalize w.setCell ⟨p,14,none⟩ (.int .i64 at_) = w1 at *
   have hf13:=hP1.frz 13
   have h13:w1.cell? ⟨p,13,none⟩ = some (.slice A s.text.length c):=(hP1.cells 13).trans (congrArg some hT)
   have hen:=enc_real r hr
   have hlt1:=hP1.lt
   have hrow1:RowAt w1 5 1 (.slice A s.text.length c) s.text.length (nums .u8 s.text):=hT ▸ hP1.text
   have hne:some p ≠ (Value.slice A s.text.length c).ownBlock:=fun e=>hP1.pt (by rw [hT];exact e.symm)
   have hA1:(nums .u8 (encC r)).length = (encC r).length * 1:=by simp [nums]
   have hA2:s.text.length + (encC r).length ≤ maxLen:=by unfold maxLen;omega
   have hA3:(s.text.length + (encC r).length) * 1 ≤ 140737488355328:=by omega
   go_region_law (first
    | (go_simp;go_at_call 151;refine (hen _).mono ?_;rintro e w6 ⟨ad,c6,rfl,hrd,hb6⟩;have hb61:=(Below.refl _ w1).drew.trans hb6;have hP6:=hP1.below hb61;have hrow6:RowAt w6 5 1 (.slice A s.text.length c) s.text.length (nums .u8 s.text):=hT ▸ hP6.text;have hlt6:=hP6.lt;have h136:w6.cell? ⟨p,13,none⟩ = some (.slice A s.text.length c):=(hP6.cells 13).trans (congrArg some hT);have hf136:=hP6.frz 13)
    | (refine step_append (by rfl) _ _ 33 5 (.int .u8 0) 1 1 (by rfl) Tryz.underlying33 (by kernel_rfl) (by rfl) (by decide) _ s.text.length (nums .u8 s.text) (by rfl) hrow6 _ _ _ (nums .u8 (encC r)) (by rfl) hA1 hrd (nums_one _) hA2 hA3 ?_;intro v7 w7 hr7 hg7 hat7;obtain ⟨A7,c7,rfl,_⟩:=hr7.slice;have h137:=(World.cell?_of_block (hg7.block p hlt6 hne)).trans h136;have hf137:=(World.frozen?_of_block (hg7.block p hlt6 hne)).trans hf136))
   all_goals
    have hr8:RowAt w7 5 1 (.slice A7 (s.text.length + (encC r).length) c7) (s.text ++ encC r).length (nums .u8 (s.text ++ encC r)):=by rw [List.length_append,nums_append];exact hr7
    obtain ⟨hP8,hF8⟩:=hP6.texted (by rw [hT];exact hg7) hr8 (by rw [hT];rcases hat7 with e | e;exact .inl e;exact .inr (fun k hk=>by rw [e] at hk;cases hk;exact Nat.le_refl _))
    have hF9:=(hF1.trans (Fx.of_below hb61)).trans hF8
    have h138:(w7.setCell ⟨p,13,none⟩ (.slice A7 (s.text.length + (encC r).length) c7)).cell? ⟨p,13,none⟩ = some (.slice A7 (s.text.length + (encC r).length) c7):=hP8.cells 13
    have h48:(w7.setCell ⟨p,13,none⟩ (.slice A7 (s.text.length + (encC r).length) c7)).cell? ⟨p,4,none⟩ = some (.int .i64 L.token):=hP8.cells 4
    have h148:(w7.setCell ⟨p,13,none⟩ (.slice A7 (s.text.length + (encC r).length) c7)).cell? ⟨p,14,none⟩ = some (.int .i64 at_):=hP8.cells 14
    rw [List.length_append] at hR
    clear hg7 hat7 hr7 hr8 h137 hf137 hF8
    generalize (w7.setCell ⟨p,13,none⟩ (.slice A7 (s.text.length + (encC r).length) c7)) = w8 at *
    by_cases hc:L.token < s.text.length + (encC r).length
    ·rw [if_pos hc] at hR
     subst hR
     have hd:decide ((L.token:Int) < (s.text.length:Int) + ((encC r).length:Int)) = true:=by rw [decide_eq_true_eq];omega
     go_wp2
     go_region
     go_wp2_with (go_at_call 102;go_loud (refine (fail_c _ _ _).mono ?_;rintro e w9 ⟨rfl,hb9⟩))
     have hb99:=(Below.refl _ w8).drew.trans hb9
     exact ⟨rfl,rfl,_,_,hP8.below hb99,hF9.trans (Fx.of_below hb99),rfl,rfl,rfl⟩
    ·rw [if_neg hc] at hR
     subst hR
     have hd:decide ((L.token:Int) < (s.text.length:Int) + ((encC r).length:Int)) = false:=by rw [decide_eq_false_iff_not];omega
     go_wp2
     go_region
     go_wp2
     go_end0
     have hb99:=(Below.refl w8.heap.size w8).drew
     exact ⟨rfl,_,hP8.below hb99,hF9.trans (Fx.of_below hb99)⟩
  ·have hz1:((s.text.length:Int) == 0) = false:=by rw [beq_eq_false_iff_ne];intro e;exact hz (List.eq_nil_of_length_eq_zero (by omega))
   rw [if_neg hz] at hR
   clear hz
   have hP1:=h
   have hF1:=Fx.refl w p T
   go_wp2
   rename World=>w1
   have hf13:=hP1.frz 13
   have h13:w1.cell? ⟨p,13,none⟩ = some (.slice A s.text.length c):=(hP1.cells 13).trans (congrArg some hT)
   have hen:=enc_real r hr
   have hlt1:=hP1.lt
   have hrow1:RowAt w1 5 1 (.slice A s.text.length c) s.text.length (nums .u8 s.text):=hT ▸ hP1.text
   have hne:some p ≠ (Value.slice A s.text.length c).ownBlock:=fun e=>hP1.pt (by rw [hT];exact e.symm)
   have hA1:(nums .u8 (encC r)).length = (encC r).length * 1:=by simp [nums]
   have hA2:s.text.length + (encC r).length ≤ maxLen:=by unfold maxLen;omega
   have hA3:(s.text.length + (encC r).length) * 1 ≤ 140737488355328:=by omega
   go_region_law (first
    | (go_simp;go_at_call 151;refine (hen _).mono ?_;rintro e w6 ⟨ad,c6,rfl,hrd,hb6⟩;have hb61:=(Below.refl _ w1).drew.trans hb6;have hP6:=hP1.below hb61;have hrow6:RowAt w6 5 1 (.slice A s.text.length c) s.text.length (nums .u8 s.text):=hT ▸ hP6.text;have hlt6:=hP6.lt;have h136:w6.cell? ⟨p,13,none⟩ = some (.slice A s.text.length c):=(hP6.cells 13).trans (congrArg some hT);have hf136:=hP6.frz 13)
    | (refine step_append (by rfl) _ _ 33 5 (.int .u8 0) 1 1 (by rfl) Tryz.underlying33 (by kernel_rfl) (by rfl) (by decide) _ s.text.length (nums .u8 s.text) (by rfl) hrow6 _ _ _ (nums .u8 (encC r)) (by rfl) hA1 hrd (nums_one _) hA2 hA3 ?_;intro v7 w7 hr7 hg7 hat7;obtain ⟨A7,c7,rfl,_⟩:=hr7.slice;have h137:=(World.cell?_of_block (hg7.block p hlt6 hne)).trans h136;have hf137:=(World.frozen?_of_block (hg7.block p hlt6 hne)).trans hf136))
   all_goals
    have hr8:RowAt w7 5 1 (.slice A7 (s.text.length + (encC r).length) c7) (s.text ++ encC r).length (nums .u8 (s.text ++ encC r)):=by rw [List.length_append,nums_append];exact hr7
    obtain ⟨hP8,hF8⟩:=hP6.texted (by rw [hT];exact hg7) hr8 (by rw [hT];rcases hat7 with e | e;exact .inl e;exact .inr (fun k hk=>by rw [e] at hk;cases hk;exact Nat.le_refl _))
    have hF9:=(hF1.trans (Fx.of_below hb61)).trans hF8
    have h138:(w7.setCell ⟨p,13,none⟩ (.slice A7 (s.text.length + (encC r).length) c7)).cell? ⟨p,13,none⟩ = some (.slice A7 (s.text.length + (encC r).length) c7):=hP8.cells 13
    have h48:(w7.setCell ⟨p,13,none⟩ (.slice A7 (s.text.length + (encC r).length) c7)).cell? ⟨p,4,none⟩ = some (.int .i64 L.token):=hP8.cells 4
    have h148:(w7.setCell ⟨p,13,none⟩ (.slice A7 (s.text.length + (encC r).length) c7)).cell? ⟨p,14,none⟩ = some (.int .i64 s.textAt):=hP8.cells 14
    rw [List.length_append] at hR
    clear hg7 hat7 hr7 hr8 h137 hf137 hF8
    generalize (w7.setCell ⟨p,13,none⟩ (.slice A7 (s.text.length + (encC r).length) c7)) = w8 at *
    by_cases hc:L.token < s.text.length + (encC r).length
    ·rw [if_pos hc] at hR
     subst hR
     have hd:decide ((L.token:Int) < (s.text.length:Int) + ((encC r).length:Int)) = true:=by rw [decide_eq_true_eq];omega
     go_wp2
     go_region
     go_wp2_with (go_at_call 102;go_loud (refine (fail_c _ _ _).mono ?_;rintro e w9 ⟨rfl,hb9⟩))
     have hb99:=(Below.refl _ w8).drew.trans hb9
     exact ⟨rfl,rfl,_,_,hP8.below hb99,hF9.trans (Fx.of_below hb99),rfl,rfl,rfl⟩
    ·rw [if_neg hc] at hR
     subst hR
     have hd:decide ((L.token:Int) < (s.text.length:Int) + ((encC r).length:Int)) = false:=by rw [decide_eq_false_iff_not];omega
     go_wp2
     go_region
     go_wp2
     go_end0
     have hb99:=(Below.refl w8.heap.size w8).drew
     exact ⟨rfl,_,hP8.below hb99,hF9.trans (Fx.of_below hb99)⟩
end Go.Proofs.YtbaokjfhigjpdaaGreatDoorX
end
section
set_option linter.unusedVariables false
namespace Go.Proofs.YtbaokjfhigjpdaaGreatDoorX
open Go.RowKit Go.Shelf Go.Proofs.YtbaokjfhigjpdaaGreatDoor.PXmlBase Go.Proofs.YtbaokjfhigjpdaaGreatDoorW.PrintWords
theorem new_cells (w:World) (cs:List Value) (e:TypeId):∀ j u,cs[j]? = some u → (w.alloc (.cells cs.toArray e)).cell? ((⟨w.heap.size,0,none⟩:Addr).add j) = some u:=fun j u hu=>by
 have h:=World.news_of_block (heap_alloc_new w (.cells cs.toArray e)) j u
 exact h (by simpa using hu)
theorem grown_alloc {w w':World} {o:Obj} {row:Option Nat} (h:(w.alloc o).grownBy w' row):w.grownBy w' row:=by
 have hs:=h.size
 rw [World.size_alloc] at hs
 exact ⟨h.os,h.tape,h.output,by omega,fun k hk hr=>(h.block k (by rw [World.size_alloc];omega) hr).trans (alloc_old w o k hk)⟩
set_option maxRecDepth 100000 in
set_option maxHeartbeats 4000000 in
theorem push_c {w:World} {p B:Nat} {bs:List Int} {L:Lim} {s:St} {T:Tv} (h:PS w p B bs L s T) (n:List Int) (hl:s.opn.length ≤ 1000000) :
    Calls Tryz.prog 157 #[.pointer (some ⟨p,9,none⟩),.string (strOfNums n)] w fun e W=>e = .returned (.tuple #[]) ∧ ∃ T',PS W p B bs L { s with opn:=s.opn ++ [n] } T' ∧ Fx w W p T T':=by
  obtain ⟨A,c,hT,_⟩:=h.opn.slice
  have h9:w.cell? ⟨p,9,none⟩ = some (.slice A s.opn.length c):=(h.cells 9).trans (congrArg some hT)
  have hf:=h.frz 9
  have hb:=(Below.refl w.heap.size w).alloc (Nat.le_refl _) (.cells #[.string (strOfNums n)] 9)
  have hPa:=h.below hb
  have hrow:RowAt (w.alloc (.cells #[.string (strOfNums n)] 9)) 9 1 (.slice A s.opn.length c) s.opn.length (s.opn.map txt):=hT ▸ hPa.opn
  have h92:(w.alloc (.cells #[.string (strOfNums n)] 9)).cell? ⟨p,9,none⟩ = some (.slice A s.opn.length c):=(hPa.cells 9).trans (congrArg some hT)
  have hf2:=hPa.frz 9
  have hlt2:=hPa.lt
  have hne:some p ≠ (Value.slice A s.opn.length c).ownBlock:=fun e=>h.po (by rw [hT];exact e.symm)
  go_enter Tryz.func157,Tryz.ntmps157
  go_wp2_with (at_builtin;go_loud (refine append_row (by rfl) _ _ 152 9 (.string ⟨#[]⟩) 1 16 (by rfl) Tryz.underlying152 (by kernel_rfl) (by rfl) (by decide) _ s.opn.length (s.opn.map txt) (by rfl) hrow ⟨w.heap.size,0,none⟩ 1 1 [.string (strOfNums n)] (by rfl) (by rfl) (new_cells w [.string (strOfNums n)] 9) (by simp [Value.oneCell']) (by unfold maxLen;omega) (by omega) ?_;intro v7 w7 hr7 hg7 hat7;obtain ⟨A7,c7,rfl,_⟩:=hr7.slice;have h97:=(World.cell?_of_block (hg7.block p hlt2 hne)).trans h92;have hf7:=(World.frozen?_of_block (hg7.block p hlt2 hne)).trans hf2))
  go_end0
  have hr8:RowAt w7 9 1 (.slice A7 (s.opn.length + 1) c7) (s.opn ++ [n]).length ((s.opn ++ [n]).map txt):=by rw [List.length_append,List.map_append];exact hr7
  obtain ⟨hP8,hF8⟩:=h.opened (by rw [hT];exact grown_alloc hg7) hr8 (by rw [hT];rcases hat7 with e | e;exact .inl e;exact .inr (fun k hk=>by rw [e] at hk;cases hk;simp))
  exact ⟨rfl,_,hP8,hF8⟩
theorem RowAt.init {w:World} {e:TypeId} {size n c:Nat} {A:Option Addr} {xs ys:List Value} (h:RowAt w e size (.slice A (n + 1) c) (n + 1) (xs ++ ys)) (hy:ys.length = size):RowAt w e size (.slice A n c) n xs:=by
 have hl:=h.1
 rw [List.length_append,hy,Nat.add_mul,Nat.one_mul] at hl
 refine ⟨by omega,?_⟩
 rcases h.2 with ⟨e1,_⟩ | ⟨g,off,cap,cur,e1,hg,hc,hm,hs,ht⟩
 · cases e1
 ·cases e1
  refine .inr ⟨g,off,_,cur,rfl,hg,by omega,hm,hs,?_⟩
  have:(List.take ((n + 1) * size) (List.drop off cur.toList)).take (n * size) = (xs ++ ys).take (n * size):=by rw [ht]
  rw [List.take_take,Nat.min_eq_left (Nat.mul_le_mul_right _ (by omega))] at this
  rw [this]
  have h2:n * size = xs.length:=by omega
  rw [h2]
  exact List.take_left
set_option maxRecDepth 100000 in
set_option maxHeartbeats 4000000 in
theorem pop_c {w:World} {p B:Nat} {bs:List Int} {L:Lim} {s:St} {T:Tv} (h:PS w p B bs L s T) (l:List (List Int)) (n:List Int) (ho:s.opn = l ++ [n]) (hl:l.length ≤ 1000000) :
    Calls Tryz.prog 202 #[.pointer (some ⟨p,9,none⟩)] w fun e W=>e = .returned (.tuple #[]) ∧ ∃ T',PS W p B bs L { s with opn:=l } T' ∧ Fx w W p T T':=by
  have hlen:s.opn.length = l.length + 1:=by rw [ho];simp
  have hop:=h.opn
  rw [hlen,ho,List.map_append] at hop
  obtain ⟨A,c,hT,hcc⟩:=hop.slice
  rw [hT] at hop
  have hrow:=hop.init (by rfl)
  have h9:w.cell? ⟨p,9,none⟩ = some (.slice A (l.length + 1) c):=(h.cells 9).trans (congrArg some hT)
  have hf:=h.frz 9
  have hgr:w.grownBy w T.ov.ownBlock:=World.grownBy.refl w _
  have hat:(Value.slice A l.length c).ownBlock = T.ov.ownBlock:=by
   rw [hT]
   cases A <;> rfl
  obtain ⟨hP8,hF8⟩:=h.opened (v:=.slice A l.length c) (l:=l) hgr hrow (.inl hat)
  have hs1:IntKind.i64.wrap ((l.length:Int) + 1 - 1) = (l.length:Int):=by rw [Int.add_sub_cancel];exact IntWalk.i64_in _ (by omega)
  have hs2:(l.length:Int) ≤ (c:Int):=by omega
  go_enter Tryz.func202,Tryz.ntmps202
  go_region
  go_end0
  have hb:=(Below.refl (w.setCell ⟨p,9,none⟩ (.slice A l.length c)).heap.size (w.setCell ⟨p,9,none⟩ (.slice A l.length c))).drew
  exact ⟨rfl,_,hP8.below hb,hF8.trans (Fx.of_below hb)⟩
set_option maxRecDepth 100000 in
set_option maxHeartbeats 4000000 in
theorem top_c {w:World} {v:Value} (l:List (List Int)) (n:List Int) (h:RowAt w 9 1 v (l.length + 1) (l.map txt ++ [txt n])) (hl:l.length ≤ 1000000) :
    Calls Tryz.prog 201 #[v] w fun e w'=>e = .returned (.string (strOfNums n)) ∧ w' = w:=by
  rcases h.2 with ⟨_,e1⟩ | ⟨g,off,cap,cur,rfl,hg,hc,hm,hs,ht⟩
  · omega
  have hcell:w.cell? ⟨g,off + l.length,none⟩ = some (.string (strOfNums n)):=h.cells rfl l.length _ (by rw [List.getElem?_append_right (by simp)];simp;rfl)
  have hs1:IntKind.i64.wrap ((l.length:Int) + 1 - 1) = (l.length:Int):=by rw [Int.add_sub_cancel];exact IntWalk.i64_in _ (by omega)
  have hs2:(l.length:Int) < (l.length:Int) + 1:=by omega
  have hs3:(0:Int) ≤ (l.length:Int):=by omega
  clear hg hs ht h
  go_enter Tryz.func201,Tryz.ntmps201
  go_wp2
  go_ret
  exact ⟨rfl,rfl⟩
def leftS (s:St):St:=if s.opn = [] then { s with state:=2 } else s
set_option maxRecDepth 100000 in
set_option maxHeartbeats 4000000 in
theorem left_c {w:World} {p B:Nat} {bs:List Int} {L:Lim} {s:St} {T:Tv} (h:PS w p B bs L s T) :
    Calls Tryz.prog 156 #[.pointer (some ⟨p,0,none⟩)] w fun e W=>e = .returned (.tuple #[]) ∧ PS W p B bs L (leftS s) T ∧ Fx w W p T T:=by
  obtain ⟨A,c,hT,hcc⟩:=h.opn.slice
  have h9:w.cell? ⟨p,9,none⟩ = some (.slice A s.opn.length c):=(h.cells 9).trans (congrArg some hT)
  have h8:w.cell? ⟨p,8,none⟩ = some (.int .i64 s.state):=h.cells 8
  have hf:=h.frz 8
  go_enter Tryz.func156,Tryz.ntmps156
  unfold leftS
  by_cases ho:s.opn = []
  ·have hz:((s.opn.length:Int) == 0) = true:=by rw [ho];rfl
   obtain ⟨hP1,hF1⟩:=h.set (s':={ s with state:=2 }) 8 (.int .i64 2) (by decide) rfl rfl rfl rfl
   rw [if_pos ho]
   clear ho
   go_wp2
   go_end0
   exact ⟨rfl,hP1,hF1⟩
  ·have hz:((s.opn.length:Int) == 0) = false:=by rw [beq_eq_false_iff_ne];intro e;exact ho (List.eq_nil_of_length_eq_zero (by omega))
   rw [if_neg ho]
   go_wp2
   go_end0
   exact ⟨rfl,h,Fx.refl _ _ _⟩
end Go.Proofs.YtbaokjfhigjpdaaGreatDoorX
end
section
set_option linter.unusedVariables false
namespace Go.Proofs.YtbaokjfhigjpdaaGreatDoorX
open Go.RowKit Go.Shelf Go.Proofs.YtbaokjfhigjpdaaGreatDoor.PXmlBase Go.Proofs.YtbaokjfhigjpdaaGreatDoorW.PrintWords
theorem conv_row {w:World} {n c:Nat} {A:Option Addr} {xs:List Int} (h:RowAt w 5 1 (.slice A n c) n (nums .u8 xs)) (hs:n ≤ 9223372036854775807):(convert 33 9 (.slice A n c)).run Tryz.prog w = .ok (.string (strOfNums xs)) w:=by
 have hl:xs.length = n:=by have:=h.1;simp [nums] at this;exact this
 refine string_of_reads Tryz.underlying33 Tryz.underlying5 Tryz.underlying9 ⟨hl,by omega,fun hp=>?_⟩
 rcases h.2 with ⟨_,e1⟩ | ⟨g,off,cap,cur,e1,_⟩
 · omega
 ·cases e1
  refine ⟨_,rfl,fun j hj=>?_⟩
  have hx:(nums .u8 xs)[j]? = some (.int .u8 (xs.getD j 0)):=by
   simp [nums,List.getElem?_eq_getElem (show j < xs.length by omega),List.getD_eq_getElem?_getD]
  have:=h.cells rfl j _ hx
  rw [plain_add]
  exact this
def textE (s:St):List XE:=if s.text = [] then [] else [⟨3,s.textAt,[],s.text,[]⟩]
def tellS (s:St) (l:List XE):St:={ s with text:=[],ready:=s.ready ++ textE s ++ l }
theorem EvRows.one {w:World} {X:Nat → Prop} {es:List XE} {cs:List Value} (h:EvRows w X es cs):∀ u ∈ cs,u.oneCell' = true:=by
 induction es generalizing cs with
 | nil=>
  rw [show cs = [] from h]
  intro u hu
  cases hu
 | cons x t ih=>
  obtain ⟨av,rest,rfl,h2,_,h4⟩:=h
  obtain ⟨A,c,rfl,_⟩:=h2.slice
  intro u hu
  simp only [List.mem_cons] at hu
  rcases hu with rfl | rfl | rfl | rfl | rfl | hu
  · rfl
  · rfl
  · rfl
  · rfl
  · rfl
  · exact ih h4 u hu
set_option maxRecDepth 100000 in
set_option maxHeartbeats 4000000 in
theorem tell_c {w:World} {p B:Nat} {bs:List Int} {L:Lim} {s:St} {T:Tv} (h:PS w p B bs L s T) (l:List XE) (cs:List Value) (ad:Addr) (c0:Nat) (hcs:∀ j u,cs[j]? = some u → w.cell? (ad.add j) = some u) (hev:EvRows w (PX p T) l cs) (had:¬ PX p T ad.block) (hadl:ad.block < w.heap.size)
    (hl:l.length ≤ 100) (hr:s.ready.length ≤ 100) (htx:s.text.length ≤ 4294967290) :
    Calls Tryz.prog 155 #[.pointer (some ⟨p,0,none⟩),.slice (some ad) l.length c0] w fun e W=>e = .returned (.tuple #[]) ∧ ∃ T',PS W p B bs L (tellS s l) T' ∧ Fx w W p T T':=by
  obtain ⟨A,c,hT,_⟩:=h.text.slice
  have h13:w.cell? ⟨p,13,none⟩ = some (.slice A s.text.length c):=(h.cells 13).trans (congrArg some hT)
  go_enter Tryz.func155,Tryz.ntmps155
  by_cases hz:s.text = []
  ·have hz1:¬ ((0:Int) < (s.text.length:Int)):=by rw [hz];decide
   have hf:=h.frz 15
   obtain ⟨ds,hd1,hd2⟩:=h.ready
   obtain ⟨A2,c2,hT2,_⟩:=hd1.slice
   have h15:w.cell? ⟨p,15,none⟩ = some (.slice A2 s.ready.length c2):=(h.cells 15).trans (congrArg some hT2)
   have hlt:=h.lt
   have hne:some p ≠ (Value.slice A2 s.ready.length c2).ownBlock:=fun e=>h.pr (by rw [hT2];exact e.symm)
   rw [hT2] at hd1
   have hts:tellS s l = { s with ready:=s.ready ++ l }:=by unfold tellS textE;rw [if_pos hz,List.append_nil,hz]
   rw [hts]
   clear hz
   go_wp2_with (at_builtin;go_loud (refine append_row (by rfl) _ _ 153 95 (.agg #[.int .i64 0,.int .i64 0,.string ⟨#[]⟩,.string ⟨#[]⟩,.slice none 0 0]) 5 72 (by rfl) Tryz.underlying153 (by kernel_rfl) (by rfl) (by decide) _ s.ready.length ds (by rfl) hd1 ad l.length c0 cs (by rfl) hev.len hcs hev.one (by unfold maxLen;omega) (by omega) ?_;intro v7 w7 hr7 hg7 hat7;obtain ⟨A7,c7,rfl,_⟩:=hr7.slice;have h157:=(World.cell?_of_block (hg7.block p hlt hne)).trans h15;have hf7:=(World.frozen?_of_block (hg7.block p hlt hne)).trans hf))
   go_end0
   obtain ⟨hP8,hF8⟩:=h.readied (l:=s.ready ++ l) (by rw [hT2];exact hg7) ⟨_,by rw [List.length_append];exact hr7,hd2.append hev⟩ (by rw [hT2];rcases hat7 with e | e;exact .inl e;exact .inr (fun k hk=>by rw [e] at hk;cases hk;exact Nat.le_refl _))
   exact ⟨rfl,_,hP8,hF8⟩
  · have hz1:(0:Int) < (s.text.length:Int):=by
      have:s.text.length ≠ 0:=fun e=>hz (List.eq_nil_of_length_eq_zero e)
      omega
    have hf:=h.frz 15
    obtain ⟨ds,hd1,hd2⟩:=h.ready
    obtain ⟨A2,c2,hT2,_⟩:=hd1.slice
    have h15:w.cell? ⟨p,15,none⟩ = some (.slice A2 s.ready.length c2):=(h.cells 15).trans (congrArg some hT2)
    have h14:w.cell? ⟨p,14,none⟩ = some (.int .i64 s.textAt):=h.cells 14
    have hlt:=h.lt
    have hne:some p ≠ (Value.slice A2 s.ready.length c2).ownBlock:=fun e=>h.pr (by rw [hT2];exact e.symm)
    have hts:tellS s l = { s with text:=[],ready:=s.ready ++ [⟨3,s.textAt,[],s.text,[]⟩] ++ l }:=by unfold tellS textE;rw [if_neg hz]
    rw [hts]
    clear hz
    have hbd:=(Below.refl w.heap.size w).drew
    have hPd:=h.below hbd
    have hcv:=conv_row (hT ▸ hPd.text:RowAt w.drew 5 1 (.slice A s.text.length c) s.text.length (nums .u8 s.text)) (by omega)
    have hev1:EvRows w (PX p T) [⟨3,s.textAt,[],s.text,[]⟩] [.int .i64 3,.int .i64 s.textAt,.string ⟨#[]⟩,.string (strOfNums s.text),.slice none 0 0]:=⟨_,[],rfl,RowAt.nil _ _ _,fun k hk=>by simp [Value.ownBlock] at hk,rfl⟩
    generalize hcc:([.int .i64 3,.int .i64 s.textAt,.string ⟨#[]⟩,.string (strOfNums s.text),.slice none 0 0]:List Value) = cc at hev1
    have hba:=hbd.alloc (Nat.le_refl _) (.cells cc.toArray 95)
    have hPa:=h.below hba
    have hdr:RowAt (w.drew.alloc (.cells cc.toArray 95)) 95 5 (.slice A2 s.ready.length c2) s.ready.length ds:=(hT2 ▸ hd1).move (fun k hk=>hba.block k ((hT2 ▸ hd1).lt k hk))
    have hnews:=new_cells w.drew cc 95
    have hone:=hev1.one
    have hclen:cc.length = 1 * 5:=hev1.len
    have h15a:(w.drew.alloc (.cells cc.toArray 95)).cell? ⟨p,15,none⟩ = some (.slice A2 s.ready.length c2):=(hPa.cells 15).trans (congrArg some hT2)
    have hfa:=hPa.frz 15
    have hlta:=hPa.lt
    subst hcc
    go_wp2
    go_region_law (refine step_append (by rfl) _ _ 153 95 (.agg #[.int .i64 0,.int .i64 0,.string ⟨#[]⟩,.string ⟨#[]⟩,.slice none 0 0]) 5 72 (by rfl) Tryz.underlying153 (by kernel_rfl) (by rfl) (by decide) _ s.ready.length ds (by rfl) hdr _ 1 _ _ (by rfl) hclen hnews hone (by unfold maxLen;omega) (by omega) ?_;intro v7 w7 hr7 hg7 hat7;obtain ⟨A7,c7,rfl,_⟩:=hr7.slice;have h157:=(World.cell?_of_block (hg7.block p hlta hne)).trans h15a;have hf7:=(World.frozen?_of_block (hg7.block p hlta hne)).trans hfa)
    all_goals
     have hd2a:=hd2.move (w':=w.drew.alloc (.cells [.int .i64 3,.int .i64 s.textAt,.string ⟨#[]⟩,.string (strOfNums s.text),.slice none 0 0].toArray 95)) (X':=PX p T) (fun k hk hx=>⟨hba.block k hk,hx⟩)
     have hev1a:=hev1.move (w':=w.drew.alloc (.cells [.int .i64 3,.int .i64 s.textAt,.string ⟨#[]⟩,.string (strOfNums s.text),.slice none 0 0].toArray 95)) (X':=PX p T) (fun k hk hx=>⟨hba.block k hk,hx⟩)
     obtain ⟨hP8,hF8⟩:=hPa.readied (l:=s.ready ++ [⟨3,s.textAt,[],s.text,[]⟩]) (by rw [hT2];exact hg7) ⟨_,by rw [List.length_append];exact hr7,hd2a.append hev1a⟩ (by rw [hT2];rcases hat7 with e | e;exact .inl e;exact .inr (fun k hk=>by rw [e] at hk;cases hk;exact Nat.le_refl _))
     have hF9:=(Fx.of_below (T:=T) (p:=p) hba).trans hF8
     clear hg7 hat7 hr7 h157 hf7 hF8 hd2a hev1a
     generalize (w7.setCell ⟨p,15,none⟩ (.slice A7 (s.ready.length + 1) c7)) = w8 at *
     have h138:w8.cell? ⟨p,13,none⟩ = some (.slice A s.text.length c):=(hP8.cells 13).trans (congrArg some hT)
     have hf138:=hP8.frz 13
     obtain ⟨hP9,hF10⟩:=hP8.texted (w':=w8) (v:=.slice none 0 0) (l:=[]) (World.grownBy.refl w8 _) (RowAt.nil _ _ _) (.inr (fun k hk=>by simp [Value.ownBlock] at hk))
     have hF11:=hF9.trans hF10
     have hlt9:=hP9.lt
     have h159:(w8.setCell ⟨p,13,none⟩ (.slice none 0 0)).cell? ⟨p,15,none⟩ = some (.slice A7 (s.ready.length + 1) c7):=hP9.cells 15
     have hf159:=hP9.frz 15
     have hadb:=hF11.block ad.block hadl had
     have hcs9:∀ j u,cs[j]? = some u → (w8.setCell ⟨p,13,none⟩ (.slice none 0 0)).cell? (ad.add j) = some u:=fun j u hu=>by
      have hab:(ad.add j).block = ad.block:=by unfold Addr.add;split <;> rfl
      exact (World.cell?_of_block (by rw [hab];exact hadb)).trans (hcs j u hu)
     have hev9:=hev.move (w':=w8.setCell ⟨p,13,none⟩ (.slice none 0 0)) (X':=PX p { T with tv:=.slice none 0 0,rv:=.slice A7 (s.ready.length + 1) c7 }) (fun k hk hx=>⟨hF11.block k hk hx,fun h2=>(hF11.grow k h2).elim hx (by omega)⟩)
     obtain ⟨es,he1,he2⟩:=hP9.ready
     have he1':RowAt (w8.setCell ⟨p,13,none⟩ (.slice none 0 0)) 95 5 (.slice A7 (s.ready.length + 1) c7) (s.ready.length + 1) es:=by
      have h0:=he1
      simp only [List.length_append,List.length_cons,List.length_nil] at h0
      exact h0
     have hne9:some p ≠ (Value.slice A7 (s.ready.length + 1) c7).ownBlock:=fun e=>hP9.pr e.symm
     go_wp2_with (at_builtin;go_loud (refine append_row (by rfl) _ _ 153 95 (.agg #[.int .i64 0,.int .i64 0,.string ⟨#[]⟩,.string ⟨#[]⟩,.slice none 0 0]) 5 72 (by rfl) Tryz.underlying153 (by kernel_rfl) (by rfl) (by decide) _ (s.ready.length + 1) es (by rfl) he1' ad l.length c0 cs (by rfl) hev.len hcs9 hev.one (by unfold maxLen;omega) (by omega) ?_;intro va wa hra hga hata;obtain ⟨Aa,ca,rfl,_⟩:=hra.slice;have h15a:=(World.cell?_of_block (hga.block p hlt9 hne9)).trans h159;have hfa:=(World.frozen?_of_block (hga.block p hlt9 hne9)).trans hf159))
     go_end0
     obtain ⟨hPz,hFz⟩:=hP9.readied (l:=s.ready ++ [⟨3,s.textAt,[],s.text,[]⟩] ++ l) hga ⟨_,by rw [List.length_append,List.length_append];exact hra,he2.append hev9⟩ (by rcases hata with e | e;exact .inl e;exact .inr (fun k hk=>by rw [e] at hk;cases hk;exact Nat.le_refl _))
     simp only [List.append_assoc,List.singleton_append] at hPz
     exact ⟨rfl,_,hPz,hF11.trans hFz⟩
end Go.Proofs.YtbaokjfhigjpdaaGreatDoorX
end
