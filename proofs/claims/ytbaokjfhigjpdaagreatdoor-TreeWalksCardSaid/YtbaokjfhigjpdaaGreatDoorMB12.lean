/- What is proved: what the claims of this seat share, part 12: a program of ours merged it out of our own texts, the print's words and the laid shelf. Conditions: those of each. -/
import Derived.Test.YtbaokjfhigjpdaaGreatDoorMB11
set_option linter.unusedVariables false
set_option linter.unusedSimpArgs false
section
set_option linter.unusedVariables false
namespace Go.Proofs.YtbaokjfhigjpdaaGreatDoorX
open Go.RowKit Go.Shelf Go.Proofs.YtbaokjfhigjpdaaGreatDoor.PXmlBase Go.Proofs.YtbaokjfhigjpdaaGreatDoorW.PrintWords
set_option maxRecDepth 100000 in
set_option maxHeartbeats 8000000 in
theorem begin_c {w0:World} {p B:Nat} {bs:List Int} {L:Lim} {s:St} {T:Tv} (h:PS w0 p B bs L s T) (hL:LOk L) (hg:Good bs L s) (hr0:s.ready = []) :
    Calls Tryz.prog 78 #[.pointer (some ⟨p,0,none⟩)] w0 (OutP w0 p B bs L s T ((beginS bs L s).map fun x=>(Value.tuple #[],x))):=by
  have hlt:=h.lt
  have hby:=h.bytes
  have htk:L.token ≤ 1099511627776:=by have:=hL.token;omega
  have htk4:L.token ≤ 4294967280:=by have:=hL.token;omega
  generalize hR:beginS bs L s = R
  unfold beginS at hR
  go_enter Tryz.func78,Tryz.ntmps78
  have hS0:=h
  have hF0:=Fx.refl w0 p T
  have hle0:=hg.le
  have hP0:PB w0 p bs L.token s.at_:=h.pb hle0
  obtain ⟨ba0,cap0,hrow0,_,_⟩:=hP0.row
  by_cases hmt:65536 < bs.length
  ·rw [if_pos hmt] at hR
   (try simp only at hR)
   have qm:(65536:Int) < (bs.length:Int):=by omega
   have t159:=True.intro
   go_wp2_with (first
    | (
     have _t:=t159
     go_at_call 102
     go_loud (
      clear _t
      refine (fail_c 0 3 _).mono ?_
      clear t159
      rintro e wx ⟨rfl,hbx⟩
      subst hR
      go_wp2
      exact ⟨rfl,rfl,_,_,hS0.below hbx,hF0.trans (Fx.of_below hbx),rfl,rfl,rfl⟩)))
  ·rw [if_neg hmt] at hR
   (try simp only at hR)
   have qm:¬ ((65536:Int) < (bs.length:Int)):=by omega
   have t161:=True.intro
   go_wp2_with (first
    | (
     have _t:=t161
     go_at_call 103
     go_loud (
      clear _t
      have hn:=has_c hP0 (⟨#[60,63,120,109,108]⟩:ByteArray) (by decide)
      rw [show bytesOf (⟨#[60,63,120,109,108]⟩:ByteArray) = [60,63,120,109,108] from rfl] at hn
      generalize (hasS bs [60,63,120,109,108] (s.at_)).2 = cut160 at hn
      rcases hh160:(hasS bs [60,63,120,109,108] (s.at_)).1 with _ | _
      ·rw [hh160] at hn
       refine hn.mono ?_
       clear hn t161
       rintro e w160 ⟨rfl,hbx⟩
       have hS160:=hS0.below hbx
       have hF160:=hF0.trans (Fx.of_below hbx)
       have hP160:PB w160 p bs L.token (s.at_):=hS160.pb hle0
       clear hbx
       obtain ⟨ba160,cap160,hrow160,_,_⟩:=hP160.row
       rw [if_neg (fun e=>by rw [hh160] at e;cases e.1)] at hR
       unfold rootS at hR
       have t163:=True.intro
       go_wp2_with (first
        | (
         have _t:=t163
         go_at_call 80
         go_loud (
          clear _t
          have hn:=misc_c hP160 htk4 hS160.envp
          refine hn.mono ?_
          clear hn t163
          rintro e w162 he
          rcases hq162:miscS bs L.token (s.at_) with f | a162
          ·rw [hq162] at hR he
           (try simp only at hR)
           subst hR
           obtain ⟨rfl,a5,hmx⟩:=he
           go_wp2
           exact ⟨rfl,rfl,_,_,hS160.moved hmx,hF160.trans (Fx.of_mv hmx),rfl,rfl,rfl⟩
          rw [hq162] at hR he
          obtain ⟨rfl,hmx⟩:=he
          have hS162:=hS160.moved hmx
          have hF162:=hF160.trans (Fx.of_mv hmx)
          have hle162:a162 ≤ bs.length:=(misc_le hby hle0 hq162).2
          have hP162:PB w162 p bs L.token (a162):=hS162.pb hle162
          clear hmx
          (try simp only at hR)
          have t165:=True.intro
          go_wp2_with (first
           | (
            have _t:=t165
            go_at_call 105
            go_loud (
             clear _t
             have hn:=must_c hP162
             refine hn.mono ?_
             clear hn t165
             rintro e w164 he
             rcases hq164:mustS bs (a162) with f | r164
             ·rw [hq164] at hR he
              (try simp only at hR)
              subst hR
              obtain ⟨rfl,hbx⟩:=he
              go_wp2
              exact ⟨rfl,rfl,_,_,hS162.below hbx,hF162.trans (Fx.of_below hbx),rfl,rfl,rfl⟩
             rw [hq164] at hR he
             obtain ⟨rfl,hbx⟩:=he
             have hS164:=hS162.below hbx
             have hF164:=hF162.trans (Fx.of_below hbx)
             have hP164:PB w164 p bs L.token (a162):=hS164.pb hle162
             clear hbx
             (try simp only at hR)
             have hpk164:=(must_ok hq164).1
             have hst164:=must_step hby hle162 hq164
             by_cases hlt6:r164 ≠ 60
             ·rw [if_pos hlt6] at hR
              (try simp only at hR)
              have qg:(r164 != 60) = true:=by rw [bne_iff_ne];exact hlt6
              have t166:=True.intro
              go_wp2_with (first
               | (
                have _t:=t166
                go_at_call 82
                go_loud (
                 clear _t
                 refine (odd_c hP164).mono ?_
                 clear t166
                 rintro e wx ⟨rfl,hbx⟩
                 subst hR
                 go_wp2
                 exact ⟨rfl,rfl,_,_,hS164.below hbx,hF164.trans (Fx.of_below hbx),rfl,rfl,rfl⟩)))
             ·rw [if_neg hlt6] at hR
              (try simp only at hR)
              have h60:r164 = 60:=Classical.byContradiction hlt6
              subst h60
              have t168:=True.intro
              go_wp2_with (first
               | (
                have _t:=t168
                go_at_call 81
                go_loud (
                 clear _t
                 have hn:=stray_c hP164
                 refine hn.mono ?_
                 clear hn t168
                 rintro e w167 he
                 rcases hq167:strayS bs (a162) with _ | f
                 ·rw [hq167] at hR he
                  obtain ⟨rfl,hbx⟩:=he
                  have hS167:=hS164.below hbx
                  have hF167:=hF164.trans (Fx.of_below hbx)
                  have hP167:PB w167 p bs L.token (a162):=hS167.pb hle162
                  clear hbx
                  (try simp only at hR)
                  have hc167_7:w167.cell? ⟨p,7,none⟩ = some (.int .i64 (a162)):=hS167.cells 7
                  have t170:=True.intro
                  go_wp2_with (first
                   | (
                    have _t:=t170
                    go_at_call 106
                    go_loud (
                     clear _t
                     refine (next_ok hP167 (hpk164)).mono ?_
                     clear t170
                     rintro e w169 ⟨rfl,hmx⟩
                     have hS169:=hS167.moved hmx
                     have hF169:=hF167.trans (Fx.of_mv hmx)
                     have hle169:stepS (60) (a162) ≤ bs.length:=(peek_step hby (hle162) (hpk164)).1
                     have hP169:PB w169 p bs L.token (stepS (60) (a162)):=hS169.pb hle169
                     clear hmx
                     have t172:=True.intro
                     go_wp2_with (first
                      | (
                       have _t:=t172
                       go_at_call 105
                       go_loud (
                        clear _t
                        have hn:=must_c hP169
                        refine hn.mono ?_
                        clear hn t172
                        rintro e w171 he
                        rcases hq171:mustS bs (stepS (60) (a162)) with f | r171
                        ·rw [hq171] at hR he
                         (try simp only at hR)
                         subst hR
                         obtain ⟨rfl,hbx⟩:=he
                         go_wp2
                         exact ⟨rfl,rfl,_,_,hS169.below hbx,hF169.trans (Fx.of_below hbx),rfl,rfl,rfl⟩
                        rw [hq171] at hR he
                        obtain ⟨rfl,hbx⟩:=he
                        have hS171:=hS169.below hbx
                        have hF171:=hF169.trans (Fx.of_below hbx)
                        have hP171:PB w171 p bs L.token (stepS (60) (a162)):=hS171.pb hle169
                        clear hbx
                        (try simp only at hR)
                        have hpk171:=(must_ok hq171).1
                        have hst171:=must_step hby hle169 hq171
                        rcases hst:startB r171 with _ | _
                        ·rw [if_neg (show ¬ (startB r171 = true) from fun e=>by rw [hst] at e;cases e)] at hR
                         have t174:=True.intro
                         go_wp2_with (first
                          | (
                           have _t:=t174
                           go_at_call 107
                           go_loud (
                            clear _t
                            have hn2:=start_c r171 w171
                            rw [hst] at hn2
                            refine hn2.mono ?_
                            clear hn2 t174
                            rintro e w173 ⟨rfl,hbx⟩
                            have hS173:=hS171.below hbx
                            have hF173:=hF171.trans (Fx.of_below hbx)
                            have hP173:PB w173 p bs L.token (stepS (60) (a162)):=hS173.pb hle169
                            clear hbx
                            have t175:=True.intro
                            go_wp2_with (first
                             | (
                              have _t:=t175
                              go_at_call 82
                              go_loud (
                               clear _t
                               refine (odd_c hP173).mono ?_
                               clear t175
                               rintro e wx ⟨rfl,hbx⟩
                               subst hR
                               go_wp2
                               exact ⟨rfl,rfl,_,_,hS173.below hbx,hF173.trans (Fx.of_below hbx),rfl,rfl,rfl⟩))))))
                        ·rw [if_pos (show startB r171 = true from hst)] at hR
                         have t177:=True.intro
                         go_wp2_with (first
                          | (
                           have _t:=t177
                           go_at_call 107
                           go_loud (
                            clear _t
                            have hn2:=start_c r171 w171
                            rw [hst] at hn2
                            refine hn2.mono ?_
                            clear hn2 t177
                            rintro e w176 ⟨rfl,hbx⟩
                            have hS176:=hS171.below hbx
                            have hF176:=hF171.trans (Fx.of_below hbx)
                            have hP176:PB w176 p bs L.token (stepS (60) (a162)):=hS176.pb hle169
                            clear hbx
                            have t179:=True.intro
                            go_wp2_with (first
                             | (
                              have _t:=t179
                              go_at_call 108
                              go_loud (
                               clear _t
                               have hn:=tag_c hS176 hL (hg.moved hle169) hr0 (a162)
                               refine hn.mono ?_
                               clear hn t179
                               rintro e w178 he
                               rcases hq178:tagS bs L { { s with at_:=a162 } with at_:=stepS (60) (a162) } (a162) with f | s178
                               ·rw [hq178] at hR he
                                (try simp only at hR)
                                subst hR
                                obtain ⟨rfl,s5,T5,hS5,hF5,e1,e2,e3⟩:=he
                                go_wp2
                                exact ⟨rfl,rfl,s5,T5,hS5,hF176.trans hF5,e1,e2,e3⟩
                               rw [hq178] at hR he
                               obtain ⟨rfl,T178,hS178,hF5⟩:=he
                               (try simp only at hR)
                               subst hR
                               go_wp2
                               go_end0
                               exact ⟨rfl,_,hS178,hF176.trans hF5⟩))))))))))))
                 ·rw [hq167] at hR he
                  (try simp only at hR)
                  subst hR
                  obtain ⟨rfl,hbx⟩:=he
                  go_wp2
                  exact ⟨rfl,rfl,_,_,hS164.below hbx,hF164.trans (Fx.of_below hbx),rfl,rfl,rfl⟩)))))))))
      ·rw [hh160] at hn
       refine hn.mono ?_
       clear hn t161
       rintro e w160 ⟨rfl,hbx⟩
       have hS160:=hS0.below hbx
       have hF160:=hF0.trans (Fx.of_below hbx)
       have hP160:PB w160 p bs L.token (s.at_):=hS160.pb hle0
       clear hbx
       obtain ⟨ba160,cap160,hrow160,_,hcl160⟩:=hP160.row
       by_cases h5l:5 < bs.length
       ·have q5:(5:Int) < (bs.length:Int):=by omega
        have q50:(0:Int) ≤ 5:=by decide
        obtain ⟨g5,hg5,_,hc5⟩:=hcl160 5 h5l
        subst hg5
        have hgd:bs.getD 5 0 = bs[5]:=by rw [List.getD_eq_getElem?_getD,List.getElem?_eq_getElem h5l];rfl
        have hb5:=hby bs[5] (List.getElem_mem h5l)
        rw [hgd] at hR
        generalize bs[5] = b5 at *
        have hw32:IntKind.i32.wrap b5 = b5:=IntWalk.i32_in _ (by omega)
        have hwc:=white_c b5 w160
        rcases hwb:whiteB b5 with _ | _
        ·rw [if_neg (fun e=>by rw [hwb] at e;cases e.2.2)] at hR
         rw [hwb] at hwc
         have t181:=True.intro
         go_wp2_with (first
          | (
           have _t:=t181
           go_at_call 75
           go_loud (
            clear _t
            refine hwc.mono ?_
            clear hwc t181
            rintro e w180 ⟨rfl,hbx⟩
            have hS180:=hS160.below hbx
            have hF180:=hF160.trans (Fx.of_below hbx)
            have hP180:PB w180 p bs L.token (s.at_):=hS180.pb hle0
            clear hbx
            unfold rootS at hR
            have t183:=True.intro
            go_wp2_with (first
             | (
              have _t:=t183
              go_at_call 80
              go_loud (
               clear _t
               have hn:=misc_c hP180 htk4 hS180.envp
               refine hn.mono ?_
               clear hn t183
               rintro e w182 he
               rcases hq182:miscS bs L.token (s.at_) with f | a182
               ·rw [hq182] at hR he
                (try simp only at hR)
                subst hR
                obtain ⟨rfl,a5,hmx⟩:=he
                go_wp2
                exact ⟨rfl,rfl,_,_,hS180.moved hmx,hF180.trans (Fx.of_mv hmx),rfl,rfl,rfl⟩
               rw [hq182] at hR he
               obtain ⟨rfl,hmx⟩:=he
               have hS182:=hS180.moved hmx
               have hF182:=hF180.trans (Fx.of_mv hmx)
               have hle182:a182 ≤ bs.length:=(misc_le hby hle0 hq182).2
               have hP182:PB w182 p bs L.token (a182):=hS182.pb hle182
               clear hmx
               (try simp only at hR)
               have t185:=True.intro
               go_wp2_with (first
                | (
                 have _t:=t185
                 go_at_call 105
                 go_loud (
                  clear _t
                  have hn:=must_c hP182
                  refine hn.mono ?_
                  clear hn t185
                  rintro e w184 he
                  rcases hq184:mustS bs (a182) with f | r184
                  ·rw [hq184] at hR he
                   (try simp only at hR)
                   subst hR
                   obtain ⟨rfl,hbx⟩:=he
                   go_wp2
                   exact ⟨rfl,rfl,_,_,hS182.below hbx,hF182.trans (Fx.of_below hbx),rfl,rfl,rfl⟩
                  rw [hq184] at hR he
                  obtain ⟨rfl,hbx⟩:=he
                  have hS184:=hS182.below hbx
                  have hF184:=hF182.trans (Fx.of_below hbx)
                  have hP184:PB w184 p bs L.token (a182):=hS184.pb hle182
                  clear hbx
                  (try simp only at hR)
                  have hpk184:=(must_ok hq184).1
                  have hst184:=must_step hby hle182 hq184
                  by_cases hlt6:r184 ≠ 60
                  ·rw [if_pos hlt6] at hR
                   (try simp only at hR)
                   have qg:(r184 != 60) = true:=by rw [bne_iff_ne];exact hlt6
                   have t186:=True.intro
                   go_wp2_with (first
                    | (
                     have _t:=t186
                     go_at_call 82
                     go_loud (
                      clear _t
                      refine (odd_c hP184).mono ?_
                      clear t186
                      rintro e wx ⟨rfl,hbx⟩
                      subst hR
                      go_wp2
                      exact ⟨rfl,rfl,_,_,hS184.below hbx,hF184.trans (Fx.of_below hbx),rfl,rfl,rfl⟩)))
                  ·rw [if_neg hlt6] at hR
                   (try simp only at hR)
                   have h60:r184 = 60:=Classical.byContradiction hlt6
                   subst h60
                   have t188:=True.intro
                   go_wp2_with (first
                    | (
                     have _t:=t188
                     go_at_call 81
                     go_loud (
                      clear _t
                      have hn:=stray_c hP184
                      refine hn.mono ?_
                      clear hn t188
                      rintro e w187 he
                      rcases hq187:strayS bs (a182) with _ | f
                      ·rw [hq187] at hR he
                       obtain ⟨rfl,hbx⟩:=he
                       have hS187:=hS184.below hbx
                       have hF187:=hF184.trans (Fx.of_below hbx)
                       have hP187:PB w187 p bs L.token (a182):=hS187.pb hle182
                       clear hbx
                       (try simp only at hR)
                       have hc187_7:w187.cell? ⟨p,7,none⟩ = some (.int .i64 (a182)):=hS187.cells 7
                       have t190:=True.intro
                       go_wp2_with (first
                        | (
                         have _t:=t190
                         go_at_call 106
                         go_loud (
                          clear _t
                          refine (next_ok hP187 (hpk184)).mono ?_
                          clear t190
                          rintro e w189 ⟨rfl,hmx⟩
                          have hS189:=hS187.moved hmx
                          have hF189:=hF187.trans (Fx.of_mv hmx)
                          have hle189:stepS (60) (a182) ≤ bs.length:=(peek_step hby (hle182) (hpk184)).1
                          have hP189:PB w189 p bs L.token (stepS (60) (a182)):=hS189.pb hle189
                          clear hmx
                          have t192:=True.intro
                          go_wp2_with (first
                           | (
                            have _t:=t192
                            go_at_call 105
                            go_loud (
                             clear _t
                             have hn:=must_c hP189
                             refine hn.mono ?_
                             clear hn t192
                             rintro e w191 he
                             rcases hq191:mustS bs (stepS (60) (a182)) with f | r191
                             ·rw [hq191] at hR he
                              (try simp only at hR)
                              subst hR
                              obtain ⟨rfl,hbx⟩:=he
                              go_wp2
                              exact ⟨rfl,rfl,_,_,hS189.below hbx,hF189.trans (Fx.of_below hbx),rfl,rfl,rfl⟩
                             rw [hq191] at hR he
                             obtain ⟨rfl,hbx⟩:=he
                             have hS191:=hS189.below hbx
                             have hF191:=hF189.trans (Fx.of_below hbx)
                             have hP191:PB w191 p bs L.token (stepS (60) (a182)):=hS191.pb hle189
                             clear hbx
                             (try simp only at hR)
                             have hpk191:=(must_ok hq191).1
                             have hst191:=must_step hby hle189 hq191
                             rcases hst:startB r191 with _ | _
                             ·rw [if_neg (show ¬ (startB r191 = true) from fun e=>by rw [hst] at e;cases e)] at hR
                              have t194:=True.intro
                              go_wp2_with (first
                               | (
                                have _t:=t194
                                go_at_call 107
                                go_loud (
                                 clear _t
                                 have hn2:=start_c r191 w191
                                 rw [hst] at hn2
                                 refine hn2.mono ?_
                                 clear hn2 t194
                                 rintro e w193 ⟨rfl,hbx⟩
                                 have hS193:=hS191.below hbx
                                 have hF193:=hF191.trans (Fx.of_below hbx)
                                 have hP193:PB w193 p bs L.token (stepS (60) (a182)):=hS193.pb hle189
                                 clear hbx
                                 have t195:=True.intro
                                 go_wp2_with (first
                                  | (
                                   have _t:=t195
                                   go_at_call 82
                                   go_loud (
                                    clear _t
                                    refine (odd_c hP193).mono ?_
                                    clear t195
                                    rintro e wx ⟨rfl,hbx⟩
                                    subst hR
                                    go_wp2
                                    exact ⟨rfl,rfl,_,_,hS193.below hbx,hF193.trans (Fx.of_below hbx),rfl,rfl,rfl⟩))))))
                             ·rw [if_pos (show startB r191 = true from hst)] at hR
                              have t197:=True.intro
                              go_wp2_with (first
                               | (
                                have _t:=t197
                                go_at_call 107
                                go_loud (
                                 clear _t
                                 have hn2:=start_c r191 w191
                                 rw [hst] at hn2
                                 refine hn2.mono ?_
                                 clear hn2 t197
                                 rintro e w196 ⟨rfl,hbx⟩
                                 have hS196:=hS191.below hbx
                                 have hF196:=hF191.trans (Fx.of_below hbx)
                                 have hP196:PB w196 p bs L.token (stepS (60) (a182)):=hS196.pb hle189
                                 clear hbx
                                 have t199:=True.intro
                                 go_wp2_with (first
                                  | (
                                   have _t:=t199
                                   go_at_call 108
                                   go_loud (
                                    clear _t
                                    have hn:=tag_c hS196 hL (hg.moved hle189) hr0 (a182)
                                    refine hn.mono ?_
                                    clear hn t199
                                    rintro e w198 he
                                    rcases hq198:tagS bs L { { s with at_:=a182 } with at_:=stepS (60) (a182) } (a182) with f | s198
                                    ·rw [hq198] at hR he
                                     (try simp only at hR)
                                     subst hR
                                     obtain ⟨rfl,s5,T5,hS5,hF5,e1,e2,e3⟩:=he
                                     go_wp2
                                     exact ⟨rfl,rfl,s5,T5,hS5,hF196.trans hF5,e1,e2,e3⟩
                                    rw [hq198] at hR he
                                    obtain ⟨rfl,T198,hS198,hF5⟩:=he
                                    (try simp only at hR)
                                    subst hR
                                    go_wp2
                                    go_end0
                                    exact ⟨rfl,_,hS198,hF196.trans hF5⟩))))))))))))
                      ·rw [hq187] at hR he
                       (try simp only at hR)
                       subst hR
                       obtain ⟨rfl,hbx⟩:=he
                       go_wp2
                       exact ⟨rfl,rfl,_,_,hS184.below hbx,hF184.trans (Fx.of_below hbx),rfl,rfl,rfl⟩))))))))))))
        ·rw [if_pos ⟨hh160,h5l,hwb⟩] at hR
         rw [hwb] at hwc
         have t201:=True.intro
         go_wp2_with (first
          | (
           have _t:=t201
           go_at_call 75
           go_loud (
            clear _t
            refine hwc.mono ?_
            clear hwc t201
            rintro e w200 ⟨rfl,hbx⟩
            have hS200:=hS160.below hbx
            have hF200:=hF160.trans (Fx.of_below hbx)
            have hP200:PB w200 p bs L.token (s.at_):=hS200.pb hle0
            clear hbx
            have hc200_7:w200.cell? ⟨p,7,none⟩ = some (.int .i64 (s.at_)):=hS200.cells 7
            have hf7:=hS200.frz 7
            have hmx:Mv w200 (w200.setCell ⟨p,7,none⟩ (.int .i64 5)) p 5:=Mv.set hc200_7
            have hS202:=hS200.moved hmx
            have hF202:=hF200.trans (Fx.of_mv hmx)
            clear hmx
            have hle202:5 ≤ bs.length:=by omega
            have hP202:PB (w200.setCell ⟨p,7,none⟩ (.int .i64 5)) p bs L.token 5:=hS202.pb hle202
            have t204:=True.intro
            go_wp2_with (first
             | (
              have _t:=t204
              go_at_call 104
              go_loud (
               clear _t
               have hn:=declaration_c hP202 hS202.envp
               refine hn.mono ?_
               clear hn t204
               rintro e w203 he
               rcases hq203:declarationS bs (5) with f | a203
               ·rw [hq203] at hR he
                (try simp only at hR)
                subst hR
                obtain ⟨rfl,a5,hmx⟩:=he
                go_wp2
                exact ⟨rfl,rfl,_,_,hS202.moved hmx,hF202.trans (Fx.of_mv hmx),rfl,rfl,rfl⟩
               rw [hq203] at hR he
               obtain ⟨rfl,hmx⟩:=he
               have hS203:=hS202.moved hmx
               have hF203:=hF202.trans (Fx.of_mv hmx)
               have hle203:a203 ≤ bs.length:=(declaration_le hby hle202 hq203).2
               have hP203:PB w203 p bs L.token (a203):=hS203.pb hle203
               clear hmx
               (try simp only at hR)
               unfold rootS at hR
               have t206:=True.intro
               go_wp2_with (first
                | (
                 have _t:=t206
                 go_at_call 80
                 go_loud (
                  clear _t
                  have hn:=misc_c hP203 htk4 hS203.envp
                  refine hn.mono ?_
                  clear hn t206
                  rintro e w205 he
                  rcases hq205:miscS bs L.token (a203) with f | a205
                  ·rw [hq205] at hR he
                   (try simp only at hR)
                   subst hR
                   obtain ⟨rfl,a5,hmx⟩:=he
                   go_wp2
                   exact ⟨rfl,rfl,_,_,hS203.moved hmx,hF203.trans (Fx.of_mv hmx),rfl,rfl,rfl⟩
                  rw [hq205] at hR he
                  obtain ⟨rfl,hmx⟩:=he
                  have hS205:=hS203.moved hmx
                  have hF205:=hF203.trans (Fx.of_mv hmx)
                  have hle205:a205 ≤ bs.length:=(misc_le hby hle203 hq205).2
                  have hP205:PB w205 p bs L.token (a205):=hS205.pb hle205
                  clear hmx
                  (try simp only at hR)
                  have t208:=True.intro
                  go_wp2_with (first
                   | (
                    have _t:=t208
                    go_at_call 105
                    go_loud (
                     clear _t
                     have hn:=must_c hP205
                     refine hn.mono ?_
                     clear hn t208
                     rintro e w207 he
                     rcases hq207:mustS bs (a205) with f | r207
                     ·rw [hq207] at hR he
                      (try simp only at hR)
                      subst hR
                      obtain ⟨rfl,hbx⟩:=he
                      go_wp2
                      exact ⟨rfl,rfl,_,_,hS205.below hbx,hF205.trans (Fx.of_below hbx),rfl,rfl,rfl⟩
                     rw [hq207] at hR he
                     obtain ⟨rfl,hbx⟩:=he
                     have hS207:=hS205.below hbx
                     have hF207:=hF205.trans (Fx.of_below hbx)
                     have hP207:PB w207 p bs L.token (a205):=hS207.pb hle205
                     clear hbx
                     (try simp only at hR)
                     have hpk207:=(must_ok hq207).1
                     have hst207:=must_step hby hle205 hq207
                     by_cases hlt6:r207 ≠ 60
                     ·rw [if_pos hlt6] at hR
                      (try simp only at hR)
                      have qg:(r207 != 60) = true:=by rw [bne_iff_ne];exact hlt6
                      have t209:=True.intro
                      go_wp2_with (first
                       | (
                        have _t:=t209
                        go_at_call 82
                        go_loud (
                         clear _t
                         refine (odd_c hP207).mono ?_
                         clear t209
                         rintro e wx ⟨rfl,hbx⟩
                         subst hR
                         go_wp2
                         exact ⟨rfl,rfl,_,_,hS207.below hbx,hF207.trans (Fx.of_below hbx),rfl,rfl,rfl⟩)))
                     ·rw [if_neg hlt6] at hR
                      (try simp only at hR)
                      have h60:r207 = 60:=Classical.byContradiction hlt6
                      subst h60
                      have t211:=True.intro
                      go_wp2_with (first
                       | (
                        have _t:=t211
                        go_at_call 81
                        go_loud (
                         clear _t
                         have hn:=stray_c hP207
                         refine hn.mono ?_
                         clear hn t211
                         rintro e w210 he
                         rcases hq210:strayS bs (a205) with _ | f
                         ·rw [hq210] at hR he
                          obtain ⟨rfl,hbx⟩:=he
                          have hS210:=hS207.below hbx
                          have hF210:=hF207.trans (Fx.of_below hbx)
                          have hP210:PB w210 p bs L.token (a205):=hS210.pb hle205
                          clear hbx
                          (try simp only at hR)
                          have hc210_7:w210.cell? ⟨p,7,none⟩ = some (.int .i64 (a205)):=hS210.cells 7
                          have t213:=True.intro
                          go_wp2_with (first
                           | (
                            have _t:=t213
                            go_at_call 106
                            go_loud (
                             clear _t
                             refine (next_ok hP210 (hpk207)).mono ?_
                             clear t213
                             rintro e w212 ⟨rfl,hmx⟩
                             have hS212:=hS210.moved hmx
                             have hF212:=hF210.trans (Fx.of_mv hmx)
                             have hle212:stepS (60) (a205) ≤ bs.length:=(peek_step hby (hle205) (hpk207)).1
                             have hP212:PB w212 p bs L.token (stepS (60) (a205)):=hS212.pb hle212
                             clear hmx
                             have t215:=True.intro
                             go_wp2_with (first
                              | (
                               have _t:=t215
                               go_at_call 105
                               go_loud (
                                clear _t
                                have hn:=must_c hP212
                                refine hn.mono ?_
                                clear hn t215
                                rintro e w214 he
                                rcases hq214:mustS bs (stepS (60) (a205)) with f | r214
                                ·rw [hq214] at hR he
                                 (try simp only at hR)
                                 subst hR
                                 obtain ⟨rfl,hbx⟩:=he
                                 go_wp2
                                 exact ⟨rfl,rfl,_,_,hS212.below hbx,hF212.trans (Fx.of_below hbx),rfl,rfl,rfl⟩
                                rw [hq214] at hR he
                                obtain ⟨rfl,hbx⟩:=he
                                have hS214:=hS212.below hbx
                                have hF214:=hF212.trans (Fx.of_below hbx)
                                have hP214:PB w214 p bs L.token (stepS (60) (a205)):=hS214.pb hle212
                                clear hbx
                                (try simp only at hR)
                                have hpk214:=(must_ok hq214).1
                                have hst214:=must_step hby hle212 hq214
                                rcases hst:startB r214 with _ | _
                                ·rw [if_neg (show ¬ (startB r214 = true) from fun e=>by rw [hst] at e;cases e)] at hR
                                 have t217:=True.intro
                                 go_wp2_with (first
                                  | (
                                   have _t:=t217
                                   go_at_call 107
                                   go_loud (
                                    clear _t
                                    have hn2:=start_c r214 w214
                                    rw [hst] at hn2
                                    refine hn2.mono ?_
                                    clear hn2 t217
                                    rintro e w216 ⟨rfl,hbx⟩
                                    have hS216:=hS214.below hbx
                                    have hF216:=hF214.trans (Fx.of_below hbx)
                                    have hP216:PB w216 p bs L.token (stepS (60) (a205)):=hS216.pb hle212
                                    clear hbx
                                    have t218:=True.intro
                                    go_wp2_with (first
                                     | (
                                      have _t:=t218
                                      go_at_call 82
                                      go_loud (
                                       clear _t
                                       refine (odd_c hP216).mono ?_
                                       clear t218
                                       rintro e wx ⟨rfl,hbx⟩
                                       subst hR
                                       go_wp2
                                       exact ⟨rfl,rfl,_,_,hS216.below hbx,hF216.trans (Fx.of_below hbx),rfl,rfl,rfl⟩))))))
                                ·rw [if_pos (show startB r214 = true from hst)] at hR
                                 have t220:=True.intro
                                 go_wp2_with (first
                                  | (
                                   have _t:=t220
                                   go_at_call 107
                                   go_loud (
                                    clear _t
                                    have hn2:=start_c r214 w214
                                    rw [hst] at hn2
                                    refine hn2.mono ?_
                                    clear hn2 t220
                                    rintro e w219 ⟨rfl,hbx⟩
                                    have hS219:=hS214.below hbx
                                    have hF219:=hF214.trans (Fx.of_below hbx)
                                    have hP219:PB w219 p bs L.token (stepS (60) (a205)):=hS219.pb hle212
                                    clear hbx
                                    have t222:=True.intro
                                    go_wp2_with (first
                                     | (
                                      have _t:=t222
                                      go_at_call 108
                                      go_loud (
                                       clear _t
                                       have hn:=tag_c hS219 hL (hg.moved hle212) hr0 (a205)
                                       refine hn.mono ?_
                                       clear hn t222
                                       rintro e w221 he
                                       rcases hq221:tagS bs L { { { { s with at_:=5 } with at_:=a203 } with at_:=a205 } with at_:=stepS (60) (a205) } (a205) with f | s221
                                       ·rw [hq221] at hR he
                                        (try simp only at hR)
                                        subst hR
                                        obtain ⟨rfl,s5,T5,hS5,hF5,e1,e2,e3⟩:=he
                                        go_wp2
                                        exact ⟨rfl,rfl,s5,T5,hS5,hF219.trans hF5,e1,e2,e3⟩
                                       rw [hq221] at hR he
                                       obtain ⟨rfl,T221,hS221,hF5⟩:=he
                                       (try simp only at hR)
                                       subst hR
                                       go_wp2
                                       go_end0
                                       exact ⟨rfl,_,hS221,hF219.trans hF5⟩))))))))))))
                         ·rw [hq210] at hR he
                          (try simp only at hR)
                          subst hR
                          obtain ⟨rfl,hbx⟩:=he
                          go_wp2
                          exact ⟨rfl,rfl,_,_,hS207.below hbx,hF207.trans (Fx.of_below hbx),rfl,rfl,rfl⟩)))))))))))))))
       ·have q5:¬ ((5:Int) < (bs.length:Int)):=by omega
        rw [if_neg (fun e=>h5l e.2.1)] at hR
        unfold rootS at hR
        have t224:=True.intro
        go_wp2_with (first
         | (
          have _t:=t224
          go_at_call 80
          go_loud (
           clear _t
           have hn:=misc_c hP160 htk4 hS160.envp
           refine hn.mono ?_
           clear hn t224
           rintro e w223 he
           rcases hq223:miscS bs L.token (s.at_) with f | a223
           ·rw [hq223] at hR he
            (try simp only at hR)
            subst hR
            obtain ⟨rfl,a5,hmx⟩:=he
            go_wp2
            exact ⟨rfl,rfl,_,_,hS160.moved hmx,hF160.trans (Fx.of_mv hmx),rfl,rfl,rfl⟩
           rw [hq223] at hR he
           obtain ⟨rfl,hmx⟩:=he
           have hS223:=hS160.moved hmx
           have hF223:=hF160.trans (Fx.of_mv hmx)
           have hle223:a223 ≤ bs.length:=(misc_le hby hle0 hq223).2
           have hP223:PB w223 p bs L.token (a223):=hS223.pb hle223
           clear hmx
           (try simp only at hR)
           have t226:=True.intro
           go_wp2_with (first
            | (
             have _t:=t226
             go_at_call 105
             go_loud (
              clear _t
              have hn:=must_c hP223
              refine hn.mono ?_
              clear hn t226
              rintro e w225 he
              rcases hq225:mustS bs (a223) with f | r225
              ·rw [hq225] at hR he
               (try simp only at hR)
               subst hR
               obtain ⟨rfl,hbx⟩:=he
               go_wp2
               exact ⟨rfl,rfl,_,_,hS223.below hbx,hF223.trans (Fx.of_below hbx),rfl,rfl,rfl⟩
              rw [hq225] at hR he
              obtain ⟨rfl,hbx⟩:=he
              have hS225:=hS223.below hbx
              have hF225:=hF223.trans (Fx.of_below hbx)
              have hP225:PB w225 p bs L.token (a223):=hS225.pb hle223
              clear hbx
              (try simp only at hR)
              have hpk225:=(must_ok hq225).1
              have hst225:=must_step hby hle223 hq225
              by_cases hlt6:r225 ≠ 60
              ·rw [if_pos hlt6] at hR
               (try simp only at hR)
               have qg:(r225 != 60) = true:=by rw [bne_iff_ne];exact hlt6
               have t227:=True.intro
               go_wp2_with (first
                | (
                 have _t:=t227
                 go_at_call 82
                 go_loud (
                  clear _t
                  refine (odd_c hP225).mono ?_
                  clear t227
                  rintro e wx ⟨rfl,hbx⟩
                  subst hR
                  go_wp2
                  exact ⟨rfl,rfl,_,_,hS225.below hbx,hF225.trans (Fx.of_below hbx),rfl,rfl,rfl⟩)))
              ·rw [if_neg hlt6] at hR
               (try simp only at hR)
               have h60:r225 = 60:=Classical.byContradiction hlt6
               subst h60
               have t229:=True.intro
               go_wp2_with (first
                | (
                 have _t:=t229
                 go_at_call 81
                 go_loud (
                  clear _t
                  have hn:=stray_c hP225
                  refine hn.mono ?_
                  clear hn t229
                  rintro e w228 he
                  rcases hq228:strayS bs (a223) with _ | f
                  ·rw [hq228] at hR he
                   obtain ⟨rfl,hbx⟩:=he
                   have hS228:=hS225.below hbx
                   have hF228:=hF225.trans (Fx.of_below hbx)
                   have hP228:PB w228 p bs L.token (a223):=hS228.pb hle223
                   clear hbx
                   (try simp only at hR)
                   have hc228_7:w228.cell? ⟨p,7,none⟩ = some (.int .i64 (a223)):=hS228.cells 7
                   have t231:=True.intro
                   go_wp2_with (first
                    | (
                     have _t:=t231
                     go_at_call 106
                     go_loud (
                      clear _t
                      refine (next_ok hP228 (hpk225)).mono ?_
                      clear t231
                      rintro e w230 ⟨rfl,hmx⟩
                      have hS230:=hS228.moved hmx
                      have hF230:=hF228.trans (Fx.of_mv hmx)
                      have hle230:stepS (60) (a223) ≤ bs.length:=(peek_step hby (hle223) (hpk225)).1
                      have hP230:PB w230 p bs L.token (stepS (60) (a223)):=hS230.pb hle230
                      clear hmx
                      have t233:=True.intro
                      go_wp2_with (first
                       | (
                        have _t:=t233
                        go_at_call 105
                        go_loud (
                         clear _t
                         have hn:=must_c hP230
                         refine hn.mono ?_
                         clear hn t233
                         rintro e w232 he
                         rcases hq232:mustS bs (stepS (60) (a223)) with f | r232
                         ·rw [hq232] at hR he
                          (try simp only at hR)
                          subst hR
                          obtain ⟨rfl,hbx⟩:=he
                          go_wp2
                          exact ⟨rfl,rfl,_,_,hS230.below hbx,hF230.trans (Fx.of_below hbx),rfl,rfl,rfl⟩
                         rw [hq232] at hR he
                         obtain ⟨rfl,hbx⟩:=he
                         have hS232:=hS230.below hbx
                         have hF232:=hF230.trans (Fx.of_below hbx)
                         have hP232:PB w232 p bs L.token (stepS (60) (a223)):=hS232.pb hle230
                         clear hbx
                         (try simp only at hR)
                         have hpk232:=(must_ok hq232).1
                         have hst232:=must_step hby hle230 hq232
                         rcases hst:startB r232 with _ | _
                         ·rw [if_neg (show ¬ (startB r232 = true) from fun e=>by rw [hst] at e;cases e)] at hR
                          have t235:=True.intro
                          go_wp2_with (first
                           | (
                            have _t:=t235
                            go_at_call 107
                            go_loud (
                             clear _t
                             have hn2:=start_c r232 w232
                             rw [hst] at hn2
                             refine hn2.mono ?_
                             clear hn2 t235
                             rintro e w234 ⟨rfl,hbx⟩
                             have hS234:=hS232.below hbx
                             have hF234:=hF232.trans (Fx.of_below hbx)
                             have hP234:PB w234 p bs L.token (stepS (60) (a223)):=hS234.pb hle230
                             clear hbx
                             have t236:=True.intro
                             go_wp2_with (first
                              | (
                               have _t:=t236
                               go_at_call 82
                               go_loud (
                                clear _t
                                refine (odd_c hP234).mono ?_
                                clear t236
                                rintro e wx ⟨rfl,hbx⟩
                                subst hR
                                go_wp2
                                exact ⟨rfl,rfl,_,_,hS234.below hbx,hF234.trans (Fx.of_below hbx),rfl,rfl,rfl⟩))))))
                         ·rw [if_pos (show startB r232 = true from hst)] at hR
                          have t238:=True.intro
                          go_wp2_with (first
                           | (
                            have _t:=t238
                            go_at_call 107
                            go_loud (
                             clear _t
                             have hn2:=start_c r232 w232
                             rw [hst] at hn2
                             refine hn2.mono ?_
                             clear hn2 t238
                             rintro e w237 ⟨rfl,hbx⟩
                             have hS237:=hS232.below hbx
                             have hF237:=hF232.trans (Fx.of_below hbx)
                             have hP237:PB w237 p bs L.token (stepS (60) (a223)):=hS237.pb hle230
                             clear hbx
                             have t240:=True.intro
                             go_wp2_with (first
                              | (
                               have _t:=t240
                               go_at_call 108
                               go_loud (
                                clear _t
                                have hn:=tag_c hS237 hL (hg.moved hle230) hr0 (a223)
                                refine hn.mono ?_
                                clear hn t240
                                rintro e w239 he
                                rcases hq239:tagS bs L { { s with at_:=a223 } with at_:=stepS (60) (a223) } (a223) with f | s239
                                ·rw [hq239] at hR he
                                 (try simp only at hR)
                                 subst hR
                                 obtain ⟨rfl,s5,T5,hS5,hF5,e1,e2,e3⟩:=he
                                 go_wp2
                                 exact ⟨rfl,rfl,s5,T5,hS5,hF237.trans hF5,e1,e2,e3⟩
                                rw [hq239] at hR he
                                obtain ⟨rfl,T239,hS239,hF5⟩:=he
                                (try simp only at hR)
                                subst hR
                                go_wp2
                                go_end0
                                exact ⟨rfl,_,hS239,hF237.trans hF5⟩))))))))))))
                  ·rw [hq228] at hR he
                   (try simp only at hR)
                   subst hR
                   obtain ⟨rfl,hbx⟩:=he
                   go_wp2
                   exact ⟨rfl,rfl,_,_,hS225.below hbx,hF225.trans (Fx.of_below hbx),rfl,rfl,rfl⟩))))))))))))
end Go.Proofs.YtbaokjfhigjpdaaGreatDoorX
end
