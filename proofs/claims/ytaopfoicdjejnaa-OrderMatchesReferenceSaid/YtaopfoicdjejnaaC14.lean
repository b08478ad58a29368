/- Fit. -/
import Derived.Test.YtaopfoicdjejnaaP2
import Derived.Test.YtaopfoicdjejnaaC7
import Derived.Test.YtaopfoicdjejnaaC8
set_option linter.unusedVariables false
set_option linter.unusedSimpArgs false
namespace Go.Proofs.Ytaopfoicdjejnaa
open Go.RowKit

/-- While the times are written. -/
structure TW (w : World) (tb bx n : Nat) (st : Stt) (ts : List Int) (wr : World) : Prop where
  below : Below w.heap.size w wr
  own : wr.ownsRow w.heap.size 3 1 (.slice (some ⟨tb, 0, none⟩) n n) n (ts.map (Value.int .i64))
  box : Blk wr bx #[.int .u32 (st.done : Int), .int .i64 (offI st.off)] 54
  ne : bx ≠ tb
  bw : w.heap.size ≤ bx
section
variable {w : World} {tb bx n : Nat} {st : Stt} {ts : List Int} {wr w' : World}
theorem TW.next (h : TW w tb bx n st ts wr) (hb : Below wr.heap.size wr w') : TW w tb bx n st ts w' :=
  ⟨bseq h.below hb, own_below h.own hb, h.box.next hb, h.ne, h.bw⟩
theorem TW.write {ts' : List Int} (h : TW w tb bx n st ts wr) (hg : wr.grownBy w' (some tb)) (ho : w'.ownsRow w.heap.size 3 1 (.slice (some ⟨tb, 0, none⟩) n n) n (ts'.map (Value.int .i64))) : TW w tb bx n st ts' w' :=
  ⟨h.below.grown hg h.below.size (fun k hk => by injection hk with hk; have := (h.own.lt tb rfl).1; omega), ho, (hg.block bx h.box.lt (fun e => h.ne (by injection e))).trans h.box, h.ne, h.bw⟩
theorem TW.set (h : TW w tb bx n st ts wr) (st' : Stt) : TW w tb bx n st' ts ((wr.setCell ⟨bx, 0, none⟩ (.int .u32 (st'.done : Int))).setCell ⟨bx, 1, none⟩ (.int .i64 (offI st'.off))) := by
  have hne : (Value.slice (some ⟨tb, 0, none⟩) n n).ownBlock ≠ some bx := fun e => by simp [Value.ownBlock] at e; exact h.ne e.symm
  exact ⟨(h.below.setCell (p := ⟨bx, 0, none⟩) h.bw _).setCell (p := ⟨bx, 1, none⟩) h.bw _, ownsRow_setCell_other (ownsRow_setCell_other h.own (a := ⟨bx, 0, none⟩) hne _) (a := ⟨bx, 1, none⟩) hne _, (h.box.set 0 _).set 1 _, h.ne, h.bw⟩
end
theorem unit_in {d : List (List Int)} {es : List Evt} {ls : List Lgr} (hW : WellP d es ls) {u : Uv} (hu : u ∈ unitsL es ls) :
    (∃ i e, u = .one i e ∧ i < es.length) ∨ ∃ (s t : Nat) (gp : Int) (a b : Evt), u = .leg ⟨s, t, gp⟩ a b ∧ s < es.length ∧ t < es.length ∧ ¬ s = t ∧ 0 ≤ gp ∧ gp ≤ 1000000 := by
  unfold unitsL at hu
  rcases List.mem_append.1 hu with h | h
  · obtain ⟨g, hg, rfl⟩ := List.mem_map.1 h
    obtain ⟨a1, a2, a3, a4, a5, a6⟩ := hW.leg g hg
    obtain ⟨k, hk⟩ := List.getElem?_of_mem hg
    have hne := (fl_once hk hW.once).2.2
    refine .inr ⟨g.src.toNat, g.dst.toNat, g.gap, evAt es g.src.toNat, evAt es g.dst.toNat, ?_, by omega, by omega, by omega, a5, a6⟩
    unfold legUv
    rw [show ((g.src.toNat : Nat) : Int) = g.src by omega, show ((g.dst.toNat : Nat) : Int) = g.dst by omega]
  · unfold onesL at h
    obtain ⟨i, hi, rfl⟩ := List.mem_map.1 h
    exact .inl ⟨i, _, rfl, by simpa using (List.mem_filter.1 hi).1⟩

set_option maxRecDepth 100000 in
set_option maxHeartbeats 8000000 in
theorem fitC_c (dp ep lp : Option Addr) (dc ec lc : Nat) (d : List (List Int)) (es : List Evt) (ls : List Lgr) (w : World) (R) (hdl : d.length ≤ maxLen) (hel : es.length ≤ maxLen) (hll : ls.length ≤ maxLen) (hd : RowsAt w dp d) (he : EvsAt w ep es) (hl : LgsAt w lp ls)
    (hR0 : fitR d es ls = none → ∀ w', Below w.heap.size w w' → R (.returned (.tuple #[.slice none 0 0, .bool false])) w')
    (hR1 : ∀ ts, fitR d es ls = some ts → ∀ q w', Below w.heap.size w w' → IntsAt .i64 w' q ts → R (.returned (.tuple #[.slice q es.length es.length, .bool true])) w') :
    Calls Try.prog 12 #[.slice dp d.length dc, .slice ep es.length ec, .slice lp ls.length lc] w R := by
  have HR0 := hide hR0; have HR1 := hide hR1; have Hd := hide hd; have He := hide he; have Hl := hide hl
  clear hR0 hR1 hd he hl
  go_enter Try.func12, Try.ntmps12
  go_wp2_with (go_at_call 23; refine Stop.out ?_)
  refine Stop.go (well_c dp ep lp dc ec lc d es ls _ _ hdl hel hll Hd.out He.out Hl.out ?_)
  intro w1 hb
  have B := hide hb
  cases hwb : wellB d es ls with
  | false =>
    have HF := hide (HR0.out (fitR_no (fun h => by rw [wellB_true.2 h.1] at hwb; cases hwb)))
    clear hwb hb
    go_wp2
    exact HF.out _ B.out
  | true =>
    have HW := hide (wellB_true.1 hwb)
    have hfew := HW.out.few
    clear hwb hb
    go_wp2_with (go_at_call 24; refine Stop.out ?_)
    refine Stop.go (split_c dp ep lp dc ec lc d es ls _ _ (Hd.out.keep (Keeps.of_below B.out)) (He.out.keep (Keeps.of_below B.out)) (Hl.out.keep (Keeps.of_below B.out)) HW.out ?_ ?_)
    · intro hbad w2 hb
      have B2 := hide (bseq B.out hb)
      have HF := hide (HR0.out (fitR_no (fun h => by
        rcases hbad with ⟨g, hg, h1⟩ | ⟨u, hu, h1⟩
        · exact h1 (h.2.1 g hg)
        · exact h1 (h.2.2.1 u hu))))
      clear hb hbad B
      go_wp2
      exact HF.out _ B2.out
    · intro hL hWn q qc M w2 pM sM hb hU
      have B2 := hide (bseq B.out hb)
      have hsus : susL es ls = M.map (uvF (unitsL es ls)) := by unfold susL; rw [sortM_eq pM sM]
      have Hok := hide (show SrOk d (susL es ls) by rw [hsus]; exact sorted_ok HW.out pM)
      have HU := hide (show ∀ u < (susL es ls).length, UnOk (dst d) (unF (susL es ls)) u by rw [hsus]; exact sorted_unOk HW.out hL pM)
      have hlen : (unitsL es ls).length = (susL es ls).length := by rw [hsus, List.length_map, pM.length_eq, List.length_range]
      have HUv := hide (show UvsAt w2 q (susL es ls) by rw [hsus]; exact hU)
      have HLW := hide (And.intro hL hWn)
      have HMem := hide (show ∀ u ∈ susL es ls, u ∈ unitsL es ls by rw [hsus]; exact sorted_mem pM)
      rw [hlen]
      have Hpre := hide (fun (h : precP d (susL es ls)) => fitR_yes ⟨HW.out, hL, hWn, h⟩)
      have Hpno := hide (fun (h : ¬ precP d (susL es ls)) => fitR_no (d := d) (es := es) (ls := ls) (fun h2 => h h2.2.2.2))
      clear hb hU pM sM hsus hlen hL hWn B
      generalize susL es ls = us at *
      have hu16 := Hok.out.few
      have Hd2 := hide (Hd.out.keep (Keeps.of_below B2.out))
      have HK := hide (Blk.new w2 #[.slice dp d.length dc, .slice q us.length qc, .slice none 0 0] 51)
      have HB3 := hide (balloc (Below.refl w2.heap.size w2) (.cells #[.slice dp d.length dc, .slice q us.length qc, .slice none 0 0] 51))
      go_wp2_with (go_at_call 25; refine Stop.out ?_)
      refine Stop.go (precede_c w2.heap.size d us dp q dc qc w2 _ _ Hok.out Hd2.out HUv.out HB3.out (Nat.le_refl _) HK.out ?_ ?_)
      · intro hex w3 hb
        have B3 := hide (bseq B2.out hb)
        have HF := hide (HR0.out (Hpno.out (fun h => by
          obtain ⟨i, j, h1, h2, h3, h4⟩ := hex
          rcases h i j h1 h2 with h5 | h5
          · rw [h3] at h5; cases h5
          · rw [h4] at h5; cases h5)))
        clear hb hex
        go_wp2
        exact HF.out _ B3.out
      · intro hpp w3 g fs hfs hPW
        have Hfit := hide (Hpre.out hpp)
        have HSF := hide (hPW.srf Hd2.out HUv.out)
        have Hfs := hide hfs
        have B3 := hide (bseq B2.out hPW.below)
        have HUv3 := hide (HUv.out.keep (Keeps.of_below hPW.below))
        clear hpp hfs hPW HK HB3 Hpre Hpno
        obtain ⟨sb, hsb⟩ : ∃ sb, w2.heap.size = sb := ⟨_, rfl⟩
        rw [hsb] at HSF ⊢
        clear hsb
        go_wp2_with (go_at_call 26; refine Stop.out ?_)
        refine Stop.go (quick_c sb d us fs _ _ HSF.out Hok.out Hfs.out ?_ ?_)
        · intro hq w4 hb
          have B4 := hide (bseq B3.out hb)
          have HSF4 := hide (HSF.out.keep (Keeps.of_below hb))
          have HUv4 := hide (HUv3.out.keep (Keeps.of_below hb))
          have Hq := hide hq
          clear hb hq B3 HSF HUv3
          go_wp2_with (go_at_call 27; refine Stop.out ?_)
          refine Stop.go (full_c sb d us fs _ _ HSF4.out Hok.out Hfs.out HU.out ?_ ?_)
          · intro hnil w5 hb
            have B5 := hide (bseq B4.out hb)
            have HF := hide (HR0.out (Hfit.out.trans (by unfold fitSeq; rw [Hq.out]; simp [hnil])))
            clear hb hnil
            go_wp2
            exact HF.out _ B5.out
          · intro k1 L1 hcons sq sqc w5 hb hsq
            obtain ⟨l, hl9⟩ : ∃ l, backF (fullF (dst d) (unF us) us.length us.length).1 us.length k1 [] = l := ⟨_, rfl⟩
            rw [hl9] at hsq
            have Hseq := hide (show fitSeq (dst d) (unF us) us.length = some l by unfold fitSeq; rw [Hq.out]; simp only; rw [hcons]; simp only; rw [hl9])
            have B4 := hide (bseq B4.out hb)
            have HSF4 := hide (HSF4.out.keep (Keeps.of_below hb))
            have HUv4 := hide (HUv4.out.keep (Keeps.of_below hb))
            have Hsq := hide hsq
            have HF0 : Hid True := hide trivial
            clear hb hcons hl9 hsq
            obtain ⟨w4, rfl⟩ : ∃ w9 : World, w9 = w5 := ⟨_, rfl⟩
            have hS := fitSeq_sound Hok.out.dist.Tri HU.out Hseq.out
            have Hfit2 := hide (Hfit.out.trans (by rw [Hseq.out]; try rfl))
            have HRn := hide (HR1.out _ Hfit2.out)
            have HSl := hide hS
            have hll1 : l.length ≤ us.length := by have := hS.1; omega
            have hll2 : us.length ≤ l.length := by have := hS.1; omega
            have hsz0 := B4.out.size
            obtain ⟨w5, hm5, how, hb5, hz5⟩ := mk25 w4 es.length (by omega)
            have HTW := hide (show TW w4 w4.heap.size w5.heap.size es.length ⟨0, none⟩ (List.replicate es.length 0) (w5.alloc (.cells #[.int .u32 0, .int .i64 (-1)] 54)) from
              ⟨balloc hb5 _, own_below how (balloc (Below.refl _ _) _), Blk.new _ _ _, by omega, by omega⟩)
            clear hS how hb5 Hseq HR0 HR1 Hfit HF0
            go_wp2
            clear hm5
            generalize w5.alloc (.cells #[.int .u32 0, .int .i64 (-1)] 54) = W6 at *
            obtain ⟨tb, htb⟩ : ∃ tb, w4.heap.size = tb := ⟨_, rfl⟩
            obtain ⟨bx, hbx⟩ : ∃ bx, w5.heap.size = bx := ⟨_, rfl⟩
            rw [hbx] at HTW ⊢
            have HTW' : Hid (TW w4 tb bx es.length ⟨0, none⟩ (List.replicate es.length 0) W6) := by rw [← htb]; exact HTW
            rw [htb]
            clear HTW hbx htb hz5
            go_loopw [14, 59] (fun s14 sk wr => ∃ (k : Nat) (st : Stt) (time : Int) (ts : List Int), k ≤ us.length ∧ s14 = .int .i64 time ∧ sk = .int .i64 k ∧ Hid (TW w4 tb bx es.length st ts wr) ∧
              Hid (StOk d st time ∧ runT (dst d) us none 0 l (List.replicate es.length 0) = runT (dst d) us st.off time (l.drop k) ts ∧ (runF (dst d) (unF us) st.off time (l.drop k)).isSome = true)) (fun _ sk _ => us.length - (intOf sk).toNat)
            case atStart => exact ⟨0, ⟨0, none⟩, 0, _, Nat.zero_le _, rfl, rfl, HTW', hide ⟨StOk.start d, rfl, HSl.out.2.2.2⟩⟩
            case round =>
              clear HTW'
              obtain ⟨k, st, time, ts, hk, rfl, rfl, HT, HQ⟩ := hrel
              by_cases hltL : k < us.length
              · have hltk : k < l.length := by omega
                obtain ⟨sb9, so9, ux, rfl, hux, hcu⟩ := (Hsq.out.keep (Keeps.of_below HT.out.below)).at_ (i := k) (by simp [nats]; exact hltk)
                obtain ⟨u, hu, rfl⟩ : ∃ u : Nat, l[k]? = some u ∧ (u : Int) = ux := by
                  unfold nats at hux
                  rw [List.getElem?_map] at hux
                  obtain ⟨y, hy, e⟩ := Option.map_eq_some_iff.1 hux
                  exact ⟨y, hy, e⟩
                have hun := HSl.out.2.2.1 u (List.mem_of_getElem? hu)
                have hdrop : l.drop k = u :: l.drop (k + 1) := by
                  rw [List.drop_eq_getElem_cons hltk]
                  rw [List.getElem?_eq_getElem hltk] at hu; injection hu with hu; rw [hu]
                have hrun := HQ.out.2.2
                rw [hdrop, runF] at hrun
                have hbeg : 0 ≤ beginF (dst d) (unF us) st.off time u := by
                  by_cases h0 : beginF (dst d) (unF us) st.off time u < 0
                  · rw [if_pos h0] at hrun; cases hrun
                  · omega
                rw [if_neg (by omega), Option.isSome_map] at hrun
                have hrt := HQ.out.2.1
                rw [hdrop, runT] at hrt
                have HQ2 := hide (And.intro hrt hrun)
                have hbd := begin_bd (off := st.off) (time := time) Hok.out hun
                obtain ⟨y, hy⟩ : ∃ y, beginF (dst d) (unF us) st.off time u = y := ⟨_, rfl⟩
                obtain ⟨sp, hsp⟩ : ∃ sp, (unF us u).span = sp := ⟨_, rfl⟩
                have hnx := HQ.out.1.next Hok.out hun hbeg
                rw [hsp, hy] at hbd
                rw [hy] at hbeg
                have Hy := hide hy; have Hsp := hide hsp; have Hnx := hide hnx
                clear hy hsp hnx hux hu hdrop hrun hrt
                obtain ⟨z1, z2, z3, z4⟩ := hbd
                have hwr : IntKind.i64.wrap (y + sp) = y + sp := IntWalk.i64_in _ (by omega)
                have k0 := HT.out.box.cell (k := 0) (v := .int .u32 (st.done : Int)) rfl
                have k1 := HT.out.box.cell (k := 1) (v := .int .i64 (offI st.off)) rfl
                have HSr := hide (HSF4.out.1.keep (Keeps.of_below HT.out.below))
                go_wp2_with (go_at_call 28; refine Stop.out ?_)
                refine Stop.go (begin_c sb d us st.done st.off time u _ _ HSr.out Hok.out hun HQ.out.1.lo HQ.out.1.hi HQ.out.1.off ?_)
                intro w7 hb
                rw [Hy.out]
                have HT7 := hide (HT.out.next hb)
                clear hb k0 k1 HT HSr hcu
                obtain ⟨ux, hux⟩ : ∃ ux, us[u]? = some ux := ⟨_, List.getElem?_eq_getElem hun⟩
                have hspx : ux.un.span = sp := by rw [← Hsp.out, unF_at hux]
                have Hwr := hide (show wrU (uvF us u) y ts = wrU ux y ts by rw [uvF_at hux])
                have hin := unit_in HW.out (HMem.out ux (List.mem_of_getElem? hux))
                have hub9 := HUv4.out.at_ hun
                obtain ⟨ub, uo, ux', hqq, hux', hcu'⟩ := (HUv4.out.keep (Keeps.of_below HT7.out.below)).at_ hun
                have hue : ux' = ux := by rw [hux] at hux'; injection hux' with h; exact h.symm
                subst hue
                subst hqq
                have HUb := hide (show ub < w4.heap.size by
                  obtain ⟨b9, o9, x9, hp9, _, hc9⟩ := hub9
                  injection hp9 with hp9; injection hp9 with e1 e2
                  rw [e1]; exact block_lt (hc9 0 _ rfl))
                clear hub9
                have cu := hcu' 0 _ rfl
                simp only [Nat.mul_one, Nat.add_zero] at cu
                clear hux hux' hcu'
                have m1 := m1_write; have m2 := m2_write
                rcases hin with ⟨wi, we, rfl, hwi⟩ | ⟨s, t, gp, xa, xb, rfl, h1s, h1t, hst, hg0, hg1⟩
                · simp only [Uv.val, Uv.un] at cu hspx
                  subst hspx
                  rw [Int.add_zero] at hwr
                  go_wp2_with (go_at_call 77; refine Stop.out ?_)
                  refine Stop.go (writeOne_c wi we tb es.length w4.heap.size ts y _ _ hwi hfew HT7.out.own ?_)
                  intro w8 hg8 ho8
                  have HT8 := hide (HT7.out.write hg8 ho8)
                  have htbw := (HT7.out.own.lt tb rfl).1
                  have hubw : ub < w4.heap.size := HUb.out
                  have cu8 : w8.cell? ⟨ub, uo + u, none⟩ = some (.iface 80 (agOne wi we)) := grow_cell hg8 cu (fun e => by injection e with e; omega)
                  clear hg8 ho8 HT7 cu
                  have KB : Hid (∀ w', Below w8.heap.size w8 w' → (w'.cell? ⟨bx, 0, none⟩ = some (.int .u32 (st.done : Int)) ∧ w'.cell? ⟨bx, 1, none⟩ = some (.int .i64 (offI st.off)) ∧ (∀ k, w'.frozen? ⟨bx, k, none⟩ = false) ∧ w'.cell? ⟨ub, uo + u, none⟩ = some (.iface 80 (agOne wi we)))) :=
                    hide (fun w' h => ⟨(HT8.out.box.next h).cell rfl, (HT8.out.box.next h).cell rfl, (HT8.out.box.next h).free, cell_later h cu8⟩)
                  have HSr8 := hide (HSF4.out.1.keep (Keeps.of_below HT8.out.below))
                  obtain ⟨p0, p1, p2, p3⟩ := KB.out _ (Below.refl _ _)
                  have hi1 : (0 : Int) ≤ (u : Int) := by omega
                  have hi2 : (u : Int) < (us.length : Int) := by omega
                  have f3 := m1_span; have f4 := m2_span
                  obtain ⟨z, hz⟩ : ∃ z, st.done ||| 2 ^ u = z := ⟨_, rfl⟩
                  obtain ⟨x2, hx2⟩ : ∃ x2, offI (some (unF us u).exit) = x2 := ⟨_, rfl⟩
                  have Hz := hide hz; have Hx2 := hide hx2
                  clear hz hx2 m1 m2
                  go_wp2
                  go_region_with (first
                    | (go_at_call 29; refine after_c sb d us st.done (offI st.off) u _ _ (SrAt.keep (Keeps.of_below (by first | exact b6 | exact (Below.refl _ _).drew)) HSr8.out) Hok.out hun HQ.out.1.done ?_; intro w5 hb5; rw [Hz.out, Hx2.out]; have b5 : Below w8.heap.size w8 w5 := (by first | exact bseq b6 hb5 | exact bseq ((Below.refl _ _).drew) hb5); obtain ⟨p0', p1', p2', p3'⟩ := KB.out _ b5)
                    | (go_at_call 75; refine spanOne_c _ _ _ _ ?_; intro w6 hb6; have b6 : Below w8.heap.size w8 w6 := (by first | exact bseq b5 hb6 | exact bseq ((Below.refl _ _).drew) hb6); obtain ⟨p0'', p1'', p2'', p3''⟩ := KB.out _ b6)
                    | (go_at_call 70; refine spanLeg_c _ _ _ _ _ ?_; intro w6 hb6; have b6 : Below w8.heap.size w8 w6 := (by first | exact bseq b5 hb6 | exact bseq ((Below.refl _ _).drew) hb6); obtain ⟨p0'', p1'', p2'', p3''⟩ := KB.out _ b6))
                  all_goals
                    clear p0 p1 p2 p3
                    have HX9 := hide (show StOk d (afterF (unF us) st u) y ∧ runT (dst d) us none 0 l (List.replicate es.length 0) = runT (dst d) us (some (unF us u).exit) y (l.drop (k + 1)) (ts.set wi y) ∧ (runF (dst d) (unF us) (some (unF us u).exit) y (l.drop (k + 1))).isSome = true by
                      have q1 := Hnx.out
                      have q2 := HQ2.out
                      rw [Hy.out, Hsp.out, Hwr.out] at q2
                      rw [Hy.out, Hsp.out] at q1
                      rw [Int.add_zero] at q1 q2
                      have q3 : wrU (.one wi we) y ts = (ts.set wi y) := rfl
                      rw [q3] at q2
                      exact ⟨q1, q2.1, q2.2⟩)
                    have hz9 : (afterF (unF us) st u).done = z := Hz.out
                    have hx9 : offI (afterF (unF us) st u).off = x2 := Hx2.out
                    have T1 : ∀ w9, Below w8.heap.size w8 w9 → TW w4 tb bx es.length (afterF (unF us) st u) (ts.set wi y) ((w9.setCell ⟨bx, 0, none⟩ (.int .u32 (z : Int))).setCell ⟨bx, 1, none⟩ (.int .i64 x2)) := fun w9 h => by
                      have := (HT8.out.next h).set (afterF (unF us) st u)
                      rw [hz9, hx9] at this
                      exact this
                    have HT9 := hide T1
                    clear hz9 hx9 T1
                    go_wp2
                    go_roundw
                    case rel => exact ⟨k + 1, afterF (unF us) st u, y, (ts.set wi y), by omega, rfl, by go_num, hide (by first | exact HT9.out _ (bseq b5 hb6) | exact HT9.out _ (bseq b6 hb5) | exact (HT9.out _ (bseq b5 hb6)).next ((Below.refl _ _).drew) | exact (HT9.out _ (bseq b6 hb5)).next ((Below.refl _ _).drew)), HX9⟩
                    case measure => simp [intOf]; omega
                · simp only [Uv.val, Uv.un] at cu hspx
                  subst hspx
                  go_wp2_with (go_at_call 72; refine Stop.out ?_)
                  refine Stop.go (writeLeg_c s t gp xa xb tb es.length w4.heap.size ts y _ _ h1s h1t hst hfew hbeg (by omega) hg0 hg1 HT7.out.own ?_)
                  intro w8 hg8 ho8
                  have HT8 := hide (HT7.out.write hg8 ho8)
                  have htbw := (HT7.out.own.lt tb rfl).1
                  have hubw : ub < w4.heap.size := HUb.out
                  have cu8 : w8.cell? ⟨ub, uo + u, none⟩ = some (.iface 78 (agLeg ⟨s, t, gp⟩ xa xb)) := grow_cell hg8 cu (fun e => by injection e with e; omega)
                  clear hg8 ho8 HT7 cu
                  have KB : Hid (∀ w', Below w8.heap.size w8 w' → (w'.cell? ⟨bx, 0, none⟩ = some (.int .u32 (st.done : Int)) ∧ w'.cell? ⟨bx, 1, none⟩ = some (.int .i64 (offI st.off)) ∧ (∀ k, w'.frozen? ⟨bx, k, none⟩ = false) ∧ w'.cell? ⟨ub, uo + u, none⟩ = some (.iface 78 (agLeg ⟨s, t, gp⟩ xa xb)))) :=
                    hide (fun w' h => ⟨(HT8.out.box.next h).cell rfl, (HT8.out.box.next h).cell rfl, (HT8.out.box.next h).free, cell_later h cu8⟩)
                  have HSr8 := hide (HSF4.out.1.keep (Keeps.of_below HT8.out.below))
                  obtain ⟨p0, p1, p2, p3⟩ := KB.out _ (Below.refl _ _)
                  have hi1 : (0 : Int) ≤ (u : Int) := by omega
                  have hi2 : (u : Int) < (us.length : Int) := by omega
                  have f3 := m1_span; have f4 := m2_span
                  obtain ⟨z, hz⟩ : ∃ z, st.done ||| 2 ^ u = z := ⟨_, rfl⟩
                  obtain ⟨x2, hx2⟩ : ∃ x2, offI (some (unF us u).exit) = x2 := ⟨_, rfl⟩
                  have Hz := hide hz; have Hx2 := hide hx2
                  clear hz hx2 m1 m2
                  go_wp2
                  go_region_with (first
                    | (go_at_call 29; refine after_c sb d us st.done (offI st.off) u _ _ (SrAt.keep (Keeps.of_below (by first | exact b6 | exact (Below.refl _ _).drew)) HSr8.out) Hok.out hun HQ.out.1.done ?_; intro w5 hb5; rw [Hz.out, Hx2.out]; have b5 : Below w8.heap.size w8 w5 := (by first | exact bseq b6 hb5 | exact bseq ((Below.refl _ _).drew) hb5); obtain ⟨p0', p1', p2', p3'⟩ := KB.out _ b5)
                    | (go_at_call 75; refine spanOne_c _ _ _ _ ?_; intro w6 hb6; have b6 : Below w8.heap.size w8 w6 := (by first | exact bseq b5 hb6 | exact bseq ((Below.refl _ _).drew) hb6); obtain ⟨p0'', p1'', p2'', p3''⟩ := KB.out _ b6)
                    | (go_at_call 70; refine spanLeg_c _ _ _ _ _ ?_; intro w6 hb6; have b6 : Below w8.heap.size w8 w6 := (by first | exact bseq b5 hb6 | exact bseq ((Below.refl _ _).drew) hb6); obtain ⟨p0'', p1'', p2'', p3''⟩ := KB.out _ b6))
                  all_goals
                    clear p0 p1 p2 p3
                    have HX9 := hide (show StOk d (afterF (unF us) st u) (y + gp) ∧ runT (dst d) us none 0 l (List.replicate es.length 0) = runT (dst d) us (some (unF us u).exit) (y + gp) (l.drop (k + 1)) ((ts.set s y).set t (y + gp)) ∧ (runF (dst d) (unF us) (some (unF us u).exit) (y + gp) (l.drop (k + 1))).isSome = true by
                      have q1 := Hnx.out
                      have q2 := HQ2.out
                      rw [Hy.out, Hsp.out, Hwr.out] at q2
                      rw [Hy.out, Hsp.out] at q1
                      skip
                      have q3 : wrU (.leg ⟨s, t, gp⟩ xa xb) y ts = ((ts.set s y).set t (y + gp)) := by show (ts.set (s : Int).toNat y).set (t : Int).toNat (y + gp) = _; rw [Int.toNat_natCast, Int.toNat_natCast]
                      rw [q3] at q2
                      exact ⟨q1, q2.1, q2.2⟩)
                    have hz9 : (afterF (unF us) st u).done = z := Hz.out
                    have hx9 : offI (afterF (unF us) st u).off = x2 := Hx2.out
                    have T1 : ∀ w9, Below w8.heap.size w8 w9 → TW w4 tb bx es.length (afterF (unF us) st u) ((ts.set s y).set t (y + gp)) ((w9.setCell ⟨bx, 0, none⟩ (.int .u32 (z : Int))).setCell ⟨bx, 1, none⟩ (.int .i64 x2)) := fun w9 h => by
                      have := (HT8.out.next h).set (afterF (unF us) st u)
                      rw [hz9, hx9] at this
                      exact this
                    have HT9 := hide T1
                    clear hz9 hx9 T1
                    go_wp2
                    go_roundw
                    case rel => exact ⟨k + 1, afterF (unF us) st u, (y + gp), ((ts.set s y).set t (y + gp)), by omega, rfl, by go_num, hide (by first | exact HT9.out _ (bseq b5 hb6) | exact HT9.out _ (bseq b6 hb5) | exact (HT9.out _ (bseq b5 hb6)).next ((Below.refl _ _).drew) | exact (HT9.out _ (bseq b6 hb5)).next ((Below.refl _ _).drew)), HX9⟩
                    case measure => simp [intOf]; omega
              · have hke : k = us.length := by omega
                have hnil : l.drop k = [] := List.drop_eq_nil_iff.2 (by omega)
                have hq := HQ.out.2.1
                rw [hnil, runT] at hq
                have HRm := hide HRn.out
                rw [hq] at HRm
                have hkn : ¬ (k : Int) < (us.length : Int) := by omega
                clear hq hnil
                go_wp2
                exact HRm.out _ _ (bseq B4.out HT.out.below) (IntsAt.of_own HT.out.own)
        · intro l hq sq sqc w4 hb hsq
          have B4 := hide (bseq B3.out hb)
          have HSF4 := hide (HSF.out.keep (Keeps.of_below hb))
          have HUv4 := hide (HUv3.out.keep (Keeps.of_below hb))
          have Hsq := hide hsq
          have Hseq := hide (show fitSeq (dst d) (unF us) us.length = some l by unfold fitSeq; rw [hq])
          have HF0 : Hid True := hide trivial
          clear hb hq hsq B3 HSF HUv3
          have hS := fitSeq_sound Hok.out.dist.Tri HU.out Hseq.out
          have Hfit2 := hide (Hfit.out.trans (by rw [Hseq.out]; try rfl))
          have HRn := hide (HR1.out _ Hfit2.out)
          have HSl := hide hS
          have hll1 : l.length ≤ us.length := by have := hS.1; omega
          have hll2 : us.length ≤ l.length := by have := hS.1; omega
          have hsz0 := B4.out.size
          obtain ⟨w5, hm5, how, hb5, hz5⟩ := mk25 w4 es.length (by omega)
          have HTW := hide (show TW w4 w4.heap.size w5.heap.size es.length ⟨0, none⟩ (List.replicate es.length 0) (w5.alloc (.cells #[.int .u32 0, .int .i64 (-1)] 54)) from
            ⟨balloc hb5 _, own_below how (balloc (Below.refl _ _) _), Blk.new _ _ _, by omega, by omega⟩)
          clear hS how hb5 Hseq HR0 HR1 Hfit HF0
          go_wp2
          clear hm5
          generalize w5.alloc (.cells #[.int .u32 0, .int .i64 (-1)] 54) = W6 at *
          obtain ⟨tb, htb⟩ : ∃ tb, w4.heap.size = tb := ⟨_, rfl⟩
          obtain ⟨bx, hbx⟩ : ∃ bx, w5.heap.size = bx := ⟨_, rfl⟩
          rw [hbx] at HTW ⊢
          have HTW' : Hid (TW w4 tb bx es.length ⟨0, none⟩ (List.replicate es.length 0) W6) := by rw [← htb]; exact HTW
          rw [htb]
          clear HTW hbx htb hz5
          go_loopw [14, 59] (fun s14 sk wr => ∃ (k : Nat) (st : Stt) (time : Int) (ts : List Int), k ≤ l.length ∧ s14 = .int .i64 time ∧ sk = .int .i64 k ∧ Hid (TW w4 tb bx es.length st ts wr) ∧
            Hid (StOk d st time ∧ runT (dst d) us none 0 l (List.replicate es.length 0) = runT (dst d) us st.off time (l.drop k) ts ∧ (runF (dst d) (unF us) st.off time (l.drop k)).isSome = true)) (fun _ sk _ => l.length - (intOf sk).toNat)
          case atStart => exact ⟨0, ⟨0, none⟩, 0, _, Nat.zero_le _, rfl, rfl, HTW', hide ⟨StOk.start d, rfl, HSl.out.2.2.2⟩⟩
          case round =>
            clear HTW'
            obtain ⟨k, st, time, ts, hk, rfl, rfl, HT, HQ⟩ := hrel
            by_cases hltL : k < l.length
            · have hltk : k < l.length := by omega
              obtain ⟨sb9, so9, ux, rfl, hux, hcu⟩ := (Hsq.out.keep (Keeps.of_below HT.out.below)).at_ (i := k) (by simp [nats]; exact hltk)
              obtain ⟨u, hu, rfl⟩ : ∃ u : Nat, l[k]? = some u ∧ (u : Int) = ux := by
                unfold nats at hux
                rw [List.getElem?_map] at hux
                obtain ⟨y, hy, e⟩ := Option.map_eq_some_iff.1 hux
                exact ⟨y, hy, e⟩
              have hun := HSl.out.2.2.1 u (List.mem_of_getElem? hu)
              have hdrop : l.drop k = u :: l.drop (k + 1) := by
                rw [List.drop_eq_getElem_cons hltk]
                rw [List.getElem?_eq_getElem hltk] at hu; injection hu with hu; rw [hu]
              have hrun := HQ.out.2.2
              rw [hdrop, runF] at hrun
              have hbeg : 0 ≤ beginF (dst d) (unF us) st.off time u := by
                by_cases h0 : beginF (dst d) (unF us) st.off time u < 0
                · rw [if_pos h0] at hrun; cases hrun
                · omega
              rw [if_neg (by omega), Option.isSome_map] at hrun
              have hrt := HQ.out.2.1
              rw [hdrop, runT] at hrt
              have HQ2 := hide (And.intro hrt hrun)
              have hbd := begin_bd (off := st.off) (time := time) Hok.out hun
              obtain ⟨y, hy⟩ : ∃ y, beginF (dst d) (unF us) st.off time u = y := ⟨_, rfl⟩
              obtain ⟨sp, hsp⟩ : ∃ sp, (unF us u).span = sp := ⟨_, rfl⟩
              have hnx := HQ.out.1.next Hok.out hun hbeg
              rw [hsp, hy] at hbd
              rw [hy] at hbeg
              have Hy := hide hy; have Hsp := hide hsp; have Hnx := hide hnx
              clear hy hsp hnx hux hu hdrop hrun hrt
              obtain ⟨z1, z2, z3, z4⟩ := hbd
              have hwr : IntKind.i64.wrap (y + sp) = y + sp := IntWalk.i64_in _ (by omega)
              have k0 := HT.out.box.cell (k := 0) (v := .int .u32 (st.done : Int)) rfl
              have k1 := HT.out.box.cell (k := 1) (v := .int .i64 (offI st.off)) rfl
              have HSr := hide (HSF4.out.1.keep (Keeps.of_below HT.out.below))
              go_wp2_with (go_at_call 28; refine Stop.out ?_)
              refine Stop.go (begin_c sb d us st.done st.off time u _ _ HSr.out Hok.out hun HQ.out.1.lo HQ.out.1.hi HQ.out.1.off ?_)
              intro w7 hb
              rw [Hy.out]
              have HT7 := hide (HT.out.next hb)
              clear hb k0 k1 HT HSr hcu
              obtain ⟨ux, hux⟩ : ∃ ux, us[u]? = some ux := ⟨_, List.getElem?_eq_getElem hun⟩
              have hspx : ux.un.span = sp := by rw [← Hsp.out, unF_at hux]
              have Hwr := hide (show wrU (uvF us u) y ts = wrU ux y ts by rw [uvF_at hux])
              have hin := unit_in HW.out (HMem.out ux (List.mem_of_getElem? hux))
              have hub9 := HUv4.out.at_ hun
              obtain ⟨ub, uo, ux', hqq, hux', hcu'⟩ := (HUv4.out.keep (Keeps.of_below HT7.out.below)).at_ hun
              have hue : ux' = ux := by rw [hux] at hux'; injection hux' with h; exact h.symm
              subst hue
              subst hqq
              have HUb := hide (show ub < w4.heap.size by
                obtain ⟨b9, o9, x9, hp9, _, hc9⟩ := hub9
                injection hp9 with hp9; injection hp9 with e1 e2
                rw [e1]; exact block_lt (hc9 0 _ rfl))
              clear hub9
              have cu := hcu' 0 _ rfl
              simp only [Nat.mul_one, Nat.add_zero] at cu
              clear hux hux' hcu'
              have m1 := m1_write; have m2 := m2_write
              rcases hin with ⟨wi, we, rfl, hwi⟩ | ⟨s, t, gp, xa, xb, rfl, h1s, h1t, hst, hg0, hg1⟩
              · simp only [Uv.val, Uv.un] at cu hspx
                subst hspx
                rw [Int.add_zero] at hwr
                go_wp2_with (go_at_call 77; refine Stop.out ?_)
                refine Stop.go (writeOne_c wi we tb es.length w4.heap.size ts y _ _ hwi hfew HT7.out.own ?_)
                intro w8 hg8 ho8
                have HT8 := hide (HT7.out.write hg8 ho8)
                have htbw := (HT7.out.own.lt tb rfl).1
                have hubw : ub < w4.heap.size := HUb.out
                have cu8 : w8.cell? ⟨ub, uo + u, none⟩ = some (.iface 80 (agOne wi we)) := grow_cell hg8 cu (fun e => by injection e with e; omega)
                clear hg8 ho8 HT7 cu
                have KB : Hid (∀ w', Below w8.heap.size w8 w' → (w'.cell? ⟨bx, 0, none⟩ = some (.int .u32 (st.done : Int)) ∧ w'.cell? ⟨bx, 1, none⟩ = some (.int .i64 (offI st.off)) ∧ (∀ k, w'.frozen? ⟨bx, k, none⟩ = false) ∧ w'.cell? ⟨ub, uo + u, none⟩ = some (.iface 80 (agOne wi we)))) :=
                  hide (fun w' h => ⟨(HT8.out.box.next h).cell rfl, (HT8.out.box.next h).cell rfl, (HT8.out.box.next h).free, cell_later h cu8⟩)
                have HSr8 := hide (HSF4.out.1.keep (Keeps.of_below HT8.out.below))
                obtain ⟨p0, p1, p2, p3⟩ := KB.out _ (Below.refl _ _)
                have hi1 : (0 : Int) ≤ (u : Int) := by omega
                have hi2 : (u : Int) < (us.length : Int) := by omega
                have f3 := m1_span; have f4 := m2_span
                obtain ⟨z, hz⟩ : ∃ z, st.done ||| 2 ^ u = z := ⟨_, rfl⟩
                obtain ⟨x2, hx2⟩ : ∃ x2, offI (some (unF us u).exit) = x2 := ⟨_, rfl⟩
                have Hz := hide hz; have Hx2 := hide hx2
                clear hz hx2 m1 m2
                go_wp2
                go_region_with (first
                  | (go_at_call 29; refine after_c sb d us st.done (offI st.off) u _ _ (SrAt.keep (Keeps.of_below (by first | exact b6 | exact (Below.refl _ _).drew)) HSr8.out) Hok.out hun HQ.out.1.done ?_; intro w5 hb5; rw [Hz.out, Hx2.out]; have b5 : Below w8.heap.size w8 w5 := (by first | exact bseq b6 hb5 | exact bseq ((Below.refl _ _).drew) hb5); obtain ⟨p0', p1', p2', p3'⟩ := KB.out _ b5)
                  | (go_at_call 75; refine spanOne_c _ _ _ _ ?_; intro w6 hb6; have b6 : Below w8.heap.size w8 w6 := (by first | exact bseq b5 hb6 | exact bseq ((Below.refl _ _).drew) hb6); obtain ⟨p0'', p1'', p2'', p3''⟩ := KB.out _ b6)
                  | (go_at_call 70; refine spanLeg_c _ _ _ _ _ ?_; intro w6 hb6; have b6 : Below w8.heap.size w8 w6 := (by first | exact bseq b5 hb6 | exact bseq ((Below.refl _ _).drew) hb6); obtain ⟨p0'', p1'', p2'', p3''⟩ := KB.out _ b6))
                all_goals
                  clear p0 p1 p2 p3
                  have HX9 := hide (show StOk d (afterF (unF us) st u) y ∧ runT (dst d) us none 0 l (List.replicate es.length 0) = runT (dst d) us (some (unF us u).exit) y (l.drop (k + 1)) (ts.set wi y) ∧ (runF (dst d) (unF us) (some (unF us u).exit) y (l.drop (k + 1))).isSome = true by
                    have q1 := Hnx.out
                    have q2 := HQ2.out
                    rw [Hy.out, Hsp.out, Hwr.out] at q2
                    rw [Hy.out, Hsp.out] at q1
                    rw [Int.add_zero] at q1 q2
                    have q3 : wrU (.one wi we) y ts = (ts.set wi y) := rfl
                    rw [q3] at q2
                    exact ⟨q1, q2.1, q2.2⟩)
                  have hz9 : (afterF (unF us) st u).done = z := Hz.out
                  have hx9 : offI (afterF (unF us) st u).off = x2 := Hx2.out
                  have T1 : ∀ w9, Below w8.heap.size w8 w9 → TW w4 tb bx es.length (afterF (unF us) st u) (ts.set wi y) ((w9.setCell ⟨bx, 0, none⟩ (.int .u32 (z : Int))).setCell ⟨bx, 1, none⟩ (.int .i64 x2)) := fun w9 h => by
                    have := (HT8.out.next h).set (afterF (unF us) st u)
                    rw [hz9, hx9] at this
                    exact this
                  have HT9 := hide T1
                  clear hz9 hx9 T1
                  go_wp2
                  go_roundw
                  case rel => exact ⟨k + 1, afterF (unF us) st u, y, (ts.set wi y), by omega, rfl, by go_num, hide (by first | exact HT9.out _ (bseq b5 hb6) | exact HT9.out _ (bseq b6 hb5) | exact (HT9.out _ (bseq b5 hb6)).next ((Below.refl _ _).drew) | exact (HT9.out _ (bseq b6 hb5)).next ((Below.refl _ _).drew)), HX9⟩
                  case measure => simp [intOf]; omega
              · simp only [Uv.val, Uv.un] at cu hspx
                subst hspx
                go_wp2_with (go_at_call 72; refine Stop.out ?_)
                refine Stop.go (writeLeg_c s t gp xa xb tb es.length w4.heap.size ts y _ _ h1s h1t hst hfew hbeg (by omega) hg0 hg1 HT7.out.own ?_)
                intro w8 hg8 ho8
                have HT8 := hide (HT7.out.write hg8 ho8)
                have htbw := (HT7.out.own.lt tb rfl).1
                have hubw : ub < w4.heap.size := HUb.out
                have cu8 : w8.cell? ⟨ub, uo + u, none⟩ = some (.iface 78 (agLeg ⟨s, t, gp⟩ xa xb)) := grow_cell hg8 cu (fun e => by injection e with e; omega)
                clear hg8 ho8 HT7 cu
                have KB : Hid (∀ w', Below w8.heap.size w8 w' → (w'.cell? ⟨bx, 0, none⟩ = some (.int .u32 (st.done : Int)) ∧ w'.cell? ⟨bx, 1, none⟩ = some (.int .i64 (offI st.off)) ∧ (∀ k, w'.frozen? ⟨bx, k, none⟩ = false) ∧ w'.cell? ⟨ub, uo + u, none⟩ = some (.iface 78 (agLeg ⟨s, t, gp⟩ xa xb)))) :=
                  hide (fun w' h => ⟨(HT8.out.box.next h).cell rfl, (HT8.out.box.next h).cell rfl, (HT8.out.box.next h).free, cell_later h cu8⟩)
                have HSr8 := hide (HSF4.out.1.keep (Keeps.of_below HT8.out.below))
                obtain ⟨p0, p1, p2, p3⟩ := KB.out _ (Below.refl _ _)
                have hi1 : (0 : Int) ≤ (u : Int) := by omega
                have hi2 : (u : Int) < (us.length : Int) := by omega
                have f3 := m1_span; have f4 := m2_span
                obtain ⟨z, hz⟩ : ∃ z, st.done ||| 2 ^ u = z := ⟨_, rfl⟩
                obtain ⟨x2, hx2⟩ : ∃ x2, offI (some (unF us u).exit) = x2 := ⟨_, rfl⟩
                have Hz := hide hz; have Hx2 := hide hx2
                clear hz hx2 m1 m2
                go_wp2
                go_region_with (first
                  | (go_at_call 29; refine after_c sb d us st.done (offI st.off) u _ _ (SrAt.keep (Keeps.of_below (by first | exact b6 | exact (Below.refl _ _).drew)) HSr8.out) Hok.out hun HQ.out.1.done ?_; intro w5 hb5; rw [Hz.out, Hx2.out]; have b5 : Below w8.heap.size w8 w5 := (by first | exact bseq b6 hb5 | exact bseq ((Below.refl _ _).drew) hb5); obtain ⟨p0', p1', p2', p3'⟩ := KB.out _ b5)
                  | (go_at_call 75; refine spanOne_c _ _ _ _ ?_; intro w6 hb6; have b6 : Below w8.heap.size w8 w6 := (by first | exact bseq b5 hb6 | exact bseq ((Below.refl _ _).drew) hb6); obtain ⟨p0'', p1'', p2'', p3''⟩ := KB.out _ b6)
                  | (go_at_call 70; refine spanLeg_c _ _ _ _ _ ?_; intro w6 hb6; have b6 : Below w8.heap.size w8 w6 := (by first | exact bseq b5 hb6 | exact bseq ((Below.refl _ _).drew) hb6); obtain ⟨p0'', p1'', p2'', p3''⟩ := KB.out _ b6))
                all_goals
                  clear p0 p1 p2 p3
                  have HX9 := hide (show StOk d (afterF (unF us) st u) (y + gp) ∧ runT (dst d) us none 0 l (List.replicate es.length 0) = runT (dst d) us (some (unF us u).exit) (y + gp) (l.drop (k + 1)) ((ts.set s y).set t (y + gp)) ∧ (runF (dst d) (unF us) (some (unF us u).exit) (y + gp) (l.drop (k + 1))).isSome = true by
                    have q1 := Hnx.out
                    have q2 := HQ2.out
                    rw [Hy.out, Hsp.out, Hwr.out] at q2
                    rw [Hy.out, Hsp.out] at q1
                    skip
                    have q3 : wrU (.leg ⟨s, t, gp⟩ xa xb) y ts = ((ts.set s y).set t (y + gp)) := by show (ts.set (s : Int).toNat y).set (t : Int).toNat (y + gp) = _; rw [Int.toNat_natCast, Int.toNat_natCast]
                    rw [q3] at q2
                    exact ⟨q1, q2.1, q2.2⟩)
                  have hz9 : (afterF (unF us) st u).done = z := Hz.out
                  have hx9 : offI (afterF (unF us) st u).off = x2 := Hx2.out
                  have T1 : ∀ w9, Below w8.heap.size w8 w9 → TW w4 tb bx es.length (afterF (unF us) st u) ((ts.set s y).set t (y + gp)) ((w9.setCell ⟨bx, 0, none⟩ (.int .u32 (z : Int))).setCell ⟨bx, 1, none⟩ (.int .i64 x2)) := fun w9 h => by
                    have := (HT8.out.next h).set (afterF (unF us) st u)
                    rw [hz9, hx9] at this
                    exact this
                  have HT9 := hide T1
                  clear hz9 hx9 T1
                  go_wp2
                  go_roundw
                  case rel => exact ⟨k + 1, afterF (unF us) st u, (y + gp), ((ts.set s y).set t (y + gp)), by omega, rfl, by go_num, hide (by first | exact HT9.out _ (bseq b5 hb6) | exact HT9.out _ (bseq b6 hb5) | exact (HT9.out _ (bseq b5 hb6)).next ((Below.refl _ _).drew) | exact (HT9.out _ (bseq b6 hb5)).next ((Below.refl _ _).drew)), HX9⟩
                  case measure => simp [intOf]; omega
            · have hke : k = l.length := by omega
              have hnil : l.drop k = [] := List.drop_eq_nil_iff.2 (by omega)
              have hq := HQ.out.2.1
              rw [hnil, runT] at hq
              have HRm := hide HRn.out
              rw [hq] at HRm
              have hkn : ¬ (k : Int) < (l.length : Int) := by omega
              clear hq hnil
              go_wp2
              exact HRm.out _ _ (bseq B4.out HT.out.below) (IntsAt.of_own HT.out.own)
theorem fit_c (dp ep lp : Option Addr) (dc ec lc : Nat) (d : List (List Int)) (es : List Evt) (ls : List Lgr) (w : World) (R) (hdl : d.length ≤ maxLen) (hel : es.length ≤ maxLen) (hll : ls.length ≤ maxLen) (hd : RowsAt w dp d) (he : EvsAt w ep es) (hl : LgsAt w lp ls)
    (hR0 : fitR d es ls = none → ∀ w', Below w.heap.size w w' → R (.returned (.tuple #[.slice none 0 0, .bool false])) w')
    (hR1 : ∀ ts, fitR d es ls = some ts → ∀ q c w', Below w.heap.size w w' → IntsAt .i64 w' q ts → R (.returned (.tuple #[.slice q es.length c, .bool true])) w') :
    Calls Try.prog 12 #[.slice dp d.length dc, .slice ep es.length ec, .slice lp ls.length lc] w R :=
  fitC_c dp ep lp dc ec lc d es ls w R hdl hel hll hd he hl hR0 (fun ts h q w' hb hi => hR1 ts h q es.length w' hb hi)
end Go.Proofs.Ytaopfoicdjejnaa
