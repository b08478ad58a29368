import Derived.Test.YtkpnbglghindjaaD2
set_option linter.unusedVariables false
set_option linter.unusedSimpArgs false
namespace Go.Proofs.Ytkpnbglghindjaa
open Go.ChangeShapes Go.WideShapes Go.ChangeAt Go.RowKit Math

set_option maxRecDepth 100000 in
set_option maxHeartbeats 4000000 in
theorem accounts_a_c (p : Option Addr) (n cap : Nat) (l : List Int) (f : Int) (w : World) (R) (hn : l.length = n) (hl : n ≤ maxLen) (h : IntsAt .i32 w p l) (_hz : p = none → n = 0) (hw : ∀ x ∈ l, (Lit.int .i32 x).wf = true)
    (hf : (Lit.int .u8 f).wf = true) (hside : (balL l).length + (f % 5).toNat < 40) (hR : ∀ w', Below w.heap.size w w' → R (.returned (.bool true)) w') : Calls Try.prog 9 #[.slice p n cap, .int .u8 f] w R := by
  have Hn := hide hn; have HR := hide hR; have H := hide h
  have H32 := hide (show I32 l from fun x hx => wf_i32.1 (hw x hx))
  have Hb1 : (balL l).length ≤ 40 ∧ 1 ≤ (balL l).length := by have := length_balL l; omega
  have Hs := hide (sum_balL l)
  have Hbb := hide (balL_Bnd l H32.out)
  obtain ⟨hf0, hf1⟩ := bounds_u8 hf
  obtain ⟨r, hr⟩ : ∃ r : Nat, f % 5 = r := ⟨(f % 5).toNat, by omega⟩
  have hr4 : r ≤ 4 := by omega
  have Hr := hide hr
  have hside' : (balL l).length + r < 40 := by rw [show (f % 5).toNat = r by omega] at hside; exact hside
  clear hside
  obtain ⟨i0, hi0, hz0, hz1, hz2⟩ := info_parts info_int
  clear hn hR h hw hf hr
  go_enter Try.func9, Try.ntmps9
  go_wp2_with (go_at_call 10; refine Stop.out ?_)
  refine Stop.go (head_c _ _ ?_)
  intro w1 B1
  replace B1 := hide B1
  go_wp2_with (go_at_call 17; refine Stop.out ?_)
  refine Stop.go (balanced2_c p n cap l _ _ Hn.out hl (H.out.keep (Keeps.of_below B1.out)) H32.out ?_)
  intro p2 cap2 w2 b2 i2 hp2
  have I2 := hide i2
  have B2 := hide (bseq B1.out b2)
  have Hp2 := hide hp2
  clear b2 i2 hp2
  generalize balL l = b at *
  have He := hide (netErr_of b Hbb.out Hb1.1 Hs.out)
  generalize hm : b.length = m at *
  have Hm := hide hm
  clear hm
  go_wp2_with (go_at_call 11; refine Stop.out ?_)
  refine Stop.go (netOk_c p2 m cap2 b _ _ Hm.out Hb1.1 I2.out Hp2.out He.out ?_)
  intro p3 cap3 w3 b3 t3
  have T3 := hide t3
  have I3 := hide (I2.out.keep (Keeps.of_below b3))
  have B3 := hide (bseq B2.out b3)
  clear b3 t3
  have Hts := hide (show netList b = netLoop (nz b) b from if_pos He.out)
  have hq40 : (netList b).length ≤ 39 := by rw [Hts.out]; have h1 := net_few b Hs.out; have h2 := nzle b; have := Hm.out; omega
  have Hd := hide (show ∀ t ∈ netList b, 0 ≤ t.fr ∧ t.fr < (m : Int) ∧ 0 ≤ t.to_ ∧ t.to_ < (m : Int) ∧ 0 < t.am ∧ t.am ≤ 83751862272 by
    intro t ht
    rw [Hts.out] at ht
    have := net_dir _ (by decide) b Hs.out Hbb.out t ht
    rw [Hm.out] at this
    exact ⟨this.1, this.2.1, this.2.2.1, this.2.2.2.1, this.2.2.2.2.1, this.2.2.2.2.2.1⟩)
  generalize hts : netList b = ts at *
  have Hts' := hide hts
  clear hts
  generalize hq : ts.length = q at *
  have Hq := hide hq
  clear hq
  go_wp2_with (at_builtin; refine Stop.out ?_)
  refine Stop.go ?_
  refine wpList_app _ rfl (.tmp 28) (.tmp 29) 22 rfl w3.heap.size 3 i0 _ 1 8 Try.underlying22 hi0 hz0 hz1 hz2 rfl (by omega) _ 0 [] rfl (World.ownsRow_lit _ #[] 0 (Nat.le_refl _) (by decide) rfl) p2 m cap2 (b.map (Value.int .i64)) rfl ((Src.ints Hm.out I3.out).keep (Keeps.alloc _ _)) (ints_oneCell _ _) (by unfold maxLen; omega) (by omega) (by simp) ?_
  intro v9 w4 hown4 hg4
  have hg4' : (w3.alloc (.cells #[] 3)).grownBy w4 (some w3.heap.size) := hg4
  have B4 := hide (show Below w3.heap.size w3 w4 from ((Below.refl w3.heap.size w3).alloc (Nat.le_refl _) (.cells #[] 3)).grown hg4' (by simp) (fun k hk => by injection hk with hk; omega))
  rw [Nat.zero_add, List.nil_append] at hown4
  have O4 := hide hown4
  clear hown4 hg4 hg4'
  go_wp2_with fail
  go_loopg [9] r (fun g v wr => ∃ (j : Nat) (p9 : Option Addr) (cap9 : Nat), v = .slice p9 (m + j) cap9 ∧ j + g = r ∧ m + j ≤ 40 ∧ Hid (wr.ownsRow w3.heap.size 3 1 (.slice p9 (m + j) cap9) (m + j) ((b ++ List.replicate j 0).map (Value.int .i64))) ∧ Hid (Below w3.heap.size w3 wr))
  case atStart =>
    obtain ⟨p9, cap9, rfl, _⟩ := own_val O4.out
    exact ⟨0, p9, cap9, rfl, by omega, by omega, hide (by simpa using O4.out), B4⟩
  case round =>
    obtain ⟨j, p9, cap9, rfl, hjr, hmj, Ho, Hb⟩ := hrel
    clear O4 B4
    have Hjr := hide hjr
    have hjr' : j ≤ r := by omega
    clear hjr
    by_cases hlt : m + j < 40 ∧ j < r
    · obtain ⟨h40, hjlt⟩ := hlt
      have hfm : (m : Int) + f % 5 = m + r := by rw [Hr.out]
      go_wp2_with (at_builtin; refine Stop.out ?_)
      refine Stop.go ?_
      refine wpList_app _ rfl (.tmp 45) (.tmp 46) 22 rfl w3.heap.size 3 i0 _ 1 8 Try.underlying22 hi0 hz0 hz1 hz2 rfl (by omega) _ (m + j) ((b ++ List.replicate j 0).map (Value.int .i64)) rfl (Ho.out.alloc _) (some ⟨wr.heap.size, 0, none⟩) 1 1 [.int .i64 0] rfl ⟨rfl, fun _ => ⟨_, rfl, fun j u hu => ?_⟩⟩ (ints_oneCell .i64 [0]) (by unfold maxLen; omega) (by omega) (by simp; have := Hb.out.size; omega) ?_
      · match j, hu with
        | 0, hu => cases hu; exact cell_new
      intro v1 w5 hown1 hg1
      have hg1' := World.grownBy.trans (World.grownBy_alloc wr _ _) hg1
      have Hb1' := hide (show Below w3.heap.size w3 w5 from Hb.out.grown hg1' Hb.out.size (fun k hk => (Ho.out.lt k hk).1))
      have Hown1 := hide hown1
      clear hown1 hg1 hg1' hfm
      go_wp2_with fail
      have Hn2 := Hjr.out
      go_roundg (r - (j + 1))
      case measure => omega
      case rel =>
        obtain ⟨p9', cap9', rfl, _⟩ := own_val Hown1.out
        refine ⟨j + 1, p9', cap9', rfl, by omega, by omega, hide ?_, Hb1'⟩
        have := Hown1.out
        rw [List.replicate_succ', ← List.append_assoc, List.map_append]
        exact this
    · have hfm : (m : Int) + f % 5 = m + r := by rw [Hr.out]
      have I6 := hide (I3.out.keep (Keeps.of_below Hb.out))
      have T6 := hide (T3.out.keep (Keeps.of_below Hb.out))
      have I9 := hide (IntsAt.of_own Ho.out)
      have B6 := hide (bseq B3.out Hb.out)
      have hlw : (b ++ List.replicate j 0).length = m + j := by rw [List.length_append, List.length_replicate, Hm.out]
      have Hlw := hide hlw
      have Hew := hide (netErr_of (b ++ List.replicate j 0) (Bnd_zeros b Hbb.out j) (by rw [hlw]; exact hmj) (by rw [sum_zeros, Hs.out]))
      have Hlz := hide (show netList (b ++ List.replicate j 0) = ts by rw [← Hts'.out]; exact netList_zeros b Hbb.out j (by rw [Hm.out]; exact hmj) Hs.out)
      clear hlw
      have Hp9 := hide (show p9 = none → m + j = 0 by
        intro h0
        obtain ⟨p9', cap9', hv, hz⟩ := own_val Ho.out
        injection hv with h1 h2 h3
        exact hz (by rw [← h1]; exact h0))
      have h40 : m + j < 40 := by omega
      all_goals
        have hjr2 : m + j < 40 → ¬ j < r := fun h1 h2 => hlt ⟨h1, h2⟩
        go_wp2_with (go_at_call 11; refine Stop.out ?_)
        refine Stop.go (netOk_c p9 (m + j) cap9 (b ++ List.replicate j 0) _ _ Hlw.out hmj I9.out Hp9.out Hew.out ?_)
        intro p10 cap10 w7 b7 t7
        rw [Hlz.out] at t7 ⊢
        rw [Hq.out]
        have T7 := hide t7
        have T67 := hide (T6.out.keep (Keeps.of_below b7))
        have I7 := hide (I6.out.keep (Keeps.of_below b7))
        have B7 := hide (bseq B6.out b7)
        clear b7 t7 hfm hjr2
        have Hng := hide (sum_neg b)
        go_wp2_with fail
        go_loopw [12, 13] (fun v i wr => ∃ k : Nat, k ≤ m ∧ i = .int .i64 k ∧ Hid (wr.ownsRow w7.heap.size 3 1 v k (((negL b).take k).map (Value.int .i64))) ∧ Hid (Below w7.heap.size w7 wr)) (fun _ i _ => m - (intOf i).toNat)
        case atStart => exact ⟨0, Nat.zero_le _, rfl, hide (World.ownsRow_nil ..), hide (Below.refl _ _)⟩
        case round => as_aux_lemma =>
          obtain ⟨k, hk, rfl, Hk, Hkb⟩ := hrel
          by_cases hkm : k < m
          · obtain ⟨b', o, x, rfl, hx, hcell⟩ := (I7.out.keep (Keeps.of_below Hkb.out)).at_ (i := k) (by rw [Hm.out]; exact hkm)
            have hxb := Hbb.out x (List.mem_of_getElem? hx)
            have Hx := hide hx; clear hx
            go_wp2_with (at_builtin; refine Stop.out ?_)
            refine Stop.go ?_
            refine wpList_app _ rfl (.tmp 59) (.tmp 65) 22 rfl w7.heap.size 3 i0 _ 1 8 Try.underlying22 hi0 hz0 hz1 hz2 rfl (by omega) u12 k (((negL b).take k).map (Value.int .i64)) rfl (Hk.out.alloc _) (some ⟨wr.heap.size, 0, none⟩) 1 1 [.int .i64 (-x)] rfl ⟨rfl, fun _ => ⟨_, rfl, fun j u hu => ?_⟩⟩ (ints_oneCell .i64 [-x]) (by unfold maxLen; omega) (by omega) (by simp; have := Hkb.out.size; omega) ?_
            · match j, hu with
              | 0, hu => cases hu; exact cell_new
            intro v1 w8 hown1 hg1
            have hg1' := World.grownBy.trans (World.grownBy_alloc wr _ _) hg1
            have Hb1' := hide (show Below w7.heap.size w7 w8 from Hkb.out.grown hg1' Hkb.out.size (fun k hk => (Hk.out.lt k hk).1))
            have Hown1 := hide hown1
            clear hown1 hg1 hg1' hcell
            go_wp2_with fail
            go_roundw
            case rel =>
              refine ⟨k + 1, by omega, by go_num, hide ?_, Hb1'⟩
              have := Hown1.out
              have e : (negL b)[k]? = some (-x) := by unfold negL; rw [List.getElem?_map, Hx.out]; rfl
              rw [List.take_add_one, e]
              simpa using this
            case measure => simp [intOf]; omega
          · obtain rfl : m = k := by omega
            have htk : (negL b).take m = negL b := List.take_of_length_le (by rw [length_neg, Hm.out]; exact Nat.le_refl _)
            rw [htk] at Hk
            clear htk
            obtain ⟨p12, cap12, hv12, hp12⟩ := own_val Hk.out
            subst hv12
            have I12 := hide (IntsAt.of_own Hk.out)
            have Hp12 := hide hp12
            clear hp12
            have T8 := hide (T7.out.keep (Keeps.of_below Hkb.out))
            have T68 := hide (T67.out.keep (Keeps.of_below Hkb.out))
            have B8 := hide (bseq B7.out Hkb.out)
            have Hen := hide (netErr_of (negL b) (Bnd_neg b Hbb.out) (by rw [length_neg, Hm.out]; exact Hb1.1) (by rw [sum_neg, Hs.out]; rfl))
            go_wp2_with (go_at_call 11; refine Stop.out ?_)
            refine Stop.go (netOk_c p12 m cap12 (negL b) _ _ (by rw [length_neg]; exact Hm.out) Hb1.1 I12.out Hp12.out Hen.out ?_)
            intro p14 cap14 w9 b9 t9
            have T9 := hide t9
            have T89 := hide (T8.out.keep (Keeps.of_below b9))
            have T69 := hide (T68.out.keep (Keeps.of_below b9))
            have B9 := hide (bseq B8.out b9)
            clear b9 t9
            have Hvs := hide (show netList (negL b) = netLoop (nz (negL b)) (negL b) from if_pos Hen.out)
            have hv40 : (netList (negL b)).length ≤ 39 := by rw [Hvs.out]; have h1 := net_few (negL b) (by rw [sum_neg, Hs.out]; rfl); have h2 := nzle (negL b); have h3 := length_neg b; have := Hm.out; omega
            have Hdv := hide (show ∀ t ∈ netList (negL b), 0 ≤ t.fr ∧ t.fr < (m : Int) ∧ 0 ≤ t.to_ ∧ t.to_ < (m : Int) ∧ 0 < t.am ∧ t.am ≤ 83751862272 by
              intro t ht
              rw [Hvs.out] at ht
              have := net_dir _ (by decide) (negL b) (by rw [sum_neg, Hs.out]; rfl) (Bnd_neg b Hbb.out) t ht
              rw [length_neg, Hm.out] at this
              exact ⟨this.1, this.2.1, this.2.2.1, this.2.2.2.1, this.2.2.2.2.1, this.2.2.2.2.2.1⟩)
            have Hfz := hide (show ∀ i, flow ts i + flow (netList (negL b)) i = 0 by intro i; rw [Hts.out, Hvs.out]; exact flow_zero b Hs.out i)
            generalize hvs : netList (negL b) = vs at *
            clear hvs
            generalize hqv : vs.length = qv at *
            have Hqv := hide hqv
            clear hqv
            go_wp2_with (go_at_call 13; refine Stop.out ?_)
            refine Stop.go (same_c p3 p10 q q cap3 cap10 ts ts _ _ Hq.out Hq.out (by unfold maxLen; omega) (by unfold maxLen; omega) T69.out T89.out ?_)
            intro w10 d10
            rw [decide_eq_true rfl]
            have T10 := hide (T69.out.keep d10.keeps)
            have V10 := hide (T9.out.keep d10.keeps)
            have B10 := hide (B9.out.trans d10.below)
            clear d10
            go_wp2_with (at_make; refine Stop.out ?_)
            refine Stop.go ?_
            refine wpList_make_full w10 rfl (.tmp 89) (.tmp 89) 22 rfl w10.heap.size 3 i0 _ 1 Try.underlying22 hi0 hz0 hz1 .i64 .i64 m m m rfl rfl rfl rfl (by rw [hz2]; omega) (by unfold maxLen; omega) (Nat.le_refl _) ?_
            intro w11 o11 g11
            have O11 := hide (show w11.ownsRow w10.heap.size 3 1 (.slice (some ⟨w10.heap.size, 0, none⟩) m m) m ((flowL m [] []).map (Value.int .i64)) by
              rw [show (Value.int .i64 0).cells = #[.int .i64 0] from rfl, Nat.mul_one, toList_madeCells_one] at o11
              have e : (flowL m [] []).map (Value.int .i64) = List.replicate m (.int .i64 0) := by
                apply List.ext_getElem?
                intro i
                simp [flowL, flow_nil, List.getElem?_replicate]
                rcases Nat.lt_or_ge i m with hi | hi
                · simp [List.getElem?_range hi, hi]
                · rw [List.getElem?_eq_none (by simpa using hi), if_neg (by omega)]; rfl
              rw [e]; exact o11)
            have B11 := hide (show Below w10.heap.size w10 w11 from (Below.refl _ _).grown g11 (Nat.le_refl _) (fun k hk => by cases hk))
            clear o11 g11
            generalize hg1 : w10.heap.size = g1 at *
            have Hg1 := hide hg1
            clear hg1
            go_wp2_with fail
            go_loopw [17] (fun i wr => ∃ k : Nat, k ≤ q ∧ i = .int .i64 k ∧ Hid (wr.ownsRow g1 3 1 (.slice (some ⟨g1, 0, none⟩) m m) m ((flowL m [] (ts.take k)).map (Value.int .i64))) ∧ Hid (Below g1 w10 wr)) (fun i _ => q - (intOf i).toNat)
            case atStart => exact ⟨0, Nat.zero_le _, rfl, hide (by simpa using O11.out), hide B11.out⟩
            case round => as_aux_lemma =>
              obtain ⟨k, hk, rfl, Ho, Hb⟩ := hrel
              have Hb' := hide (show Below w10.heap.size w10 wr by rw [Hg1.out]; exact Hb.out)
              by_cases hlt : k < q
              · obtain ⟨b', o, x, rfl, hx, hk1, hk2, hk3⟩ := (T10.out.keep (Keeps.of_below Hb'.out)).at_ (i := k) (by rw [Hq.out]; exact hlt)
                have hbl : b' < g1 := by
                  obtain ⟨b2, o2, x2, hq2, _, hc, _⟩ := T10.out.at_ (i := k) (by rw [Hq.out]; exact hlt)
                  cases hq2
                  have := block_lt hc
                  rw [Hg1.out] at this
                  exact this
                obtain ⟨hd1, hd2, hd3, hd4, hd5, hd6⟩ := Hd.out x (List.mem_of_getElem? hx)
                have hfb := fun i => flowL_bd m [] ts k (by first | exact Nat.zero_le _ | (rw [Hq.out]; omega)) (fun t ht => by first | (cases ht; done) | (have := Hd.out t ht; exact ⟨this.2.2.2.2.1, this.2.2.2.2.2⟩)) (fun t ht => by have := Hd.out t ht; exact ⟨this.2.2.2.2.1, this.2.2.2.2.2⟩) (by omega) i
                obtain ⟨xf, xt, xa⟩ := x
                simp only at hk1 hk2 hk3 hd1 hd2 hd3 hd4 hd5 hd6
                obtain ⟨f', rfl⟩ := Int.eq_ofNat_of_zero_le hd1
                obtain ⟨t', rfl⟩ := Int.eq_ofNat_of_zero_le hd3
                have hfn : f' < m := by omega
                have htn : t' < m := by omega
                have Hx := hide hx; clear hx
                have hcp := owni_cell Ho.out hfn
                rw [show (flowL m [] (ts.take k)).getD f' 0 = flow [] f' + flow (ts.take k) f' from getD_range m _ f' hfn] at hcp
                have hp1 := hfb f'
                have hp2 := hfb t'
                have hte : (flowL m [] (ts.take k)).getD t' 0 = flow [] t' + flow (ts.take k) t' := getD_range m _ t' htn
                clear hfb
                generalize hpv : flow [] f' + flow (ts.take k) f' = pv at *
                have Hpv := hide hpv
                have Hte := hide hte
                clear hpv hte
                have hfz := fun j => Ho.out.frozenAt j
                have hnb : b' ≠ g1 := by omega
                have Hk2 := hide hk2; have Hk3 := hide hk3
                go_wp2_with fail
                go_still_tail 21, (by kernel_rfl)
                change wpList _ _ _ _ _ wr.drew
                go_wp2_with fail
                have ho2 : Hid ((wr.setCell ⟨g1, f', none⟩ (.int .i64 (pv + xa))).drew.ownsRow g1 3 1 (.slice (some ⟨g1, 0, none⟩) m m) m (((flowL m [] (ts.take k)).set f' (pv + xa)).map (Value.int .i64))) := hide (owni_set Ho.out f' (pv + xa))
                have hgr : wr.grownBy (wr.setCell ⟨g1, f', none⟩ (.int .i64 (pv + xa))).drew (some g1) := by
                  have := grownBy_set (World.grownBy.refl wr (some g1)) f' (.int .i64 (pv + xa))
                  exact ⟨this.os, this.tape, this.output, this.size, this.block⟩
                have hb2 := hide (show Below g1 w10 (wr.setCell ⟨g1, f', none⟩ (.int .i64 (pv + xa))).drew from (Hb.out.setCell (p := ⟨g1, f', none⟩) (Nat.le_refl _) _).drew)
                have hk2' := hgr.cell Hk2.out (by simp; omega)
                have hk3' := hgr.cell Hk3.out (by simp; omega)
                clear hk1 hk2 hk3 hfz hgr hcp
                generalize hw2 : (wr.setCell ⟨g1, f', none⟩ (.int .i64 (pv + xa))).drew = wx at *
                clear hw2
                obtain ⟨yv, hyv, hcp⟩ := owni_at ho2.out htn
                have hyb : -20000000000000 ≤ yv ∧ yv ≤ 20000000000000 := by
                  rw [← hyv, getD_set _ _ _ _ (by simp [flowL]; exact hfn), Hte.out]
                  split <;> omega
                have Hyv := hide hyv
                clear hyv
                have hfz := fun j => ho2.out.frozenAt j
                go_still_tail 21, (by kernel_rfl)
                change wpList _ _ _ _ _ wx.drew
                go_wp2_with fail
                have ho4 := hide (owni_set ho2.out t' (yv - xa))
                have hb3 := hide (hb2.out.setCell (p := ⟨g1, t', none⟩) (Nat.le_refl _) (.int .i64 (yv - xa)))
                go_roundw
                case rel =>
                  refine ⟨k + 1, by omega, by go_num, hide ?_, hide hb3.out.drew⟩
                  rw [List.take_add_one, Hx.out]
                  show World.ownsRow _ _ _ _ _ _ ((flowL m [] (ts.take k ++ [_])).map _)
                  rw [flowL_snoc m [] (ts.take k) ⟨f', t', xa⟩ (by simp; exact hfn) (by simp; exact htn)]
                  have e : payOne (flowL m [] (ts.take k)) ⟨f', t', xa⟩ = ((flowL m [] (ts.take k)).set f' (pv + xa)).set t' (yv - xa) := by
                    simp only [payOne, Int.toNat_natCast]
                    rw [show (flowL m [] (ts.take k)).getD f' 0 = flow [] f' + flow (ts.take k) f' from getD_range m _ f' hfn, Hpv.out, Hyv.out]
                  rw [e]
                  exact ho4.out
                case measure => simp [intOf]; omega
              · have hkm : ts.take k = ts := List.take_of_length_le (by rw [Hq.out]; omega)
                rw [hkm] at Ho
                clear hkm
                have Hstart := hide (show flowL m ts (vs.take 0) = flowL m [] ts by simp [flowL, flow_nil])
                have Hob := Ho; have Hbb2 := Hb
                clear Ho Hb
                go_wp2_with fail
                go_loopw [18] (fun i wr => ∃ k : Nat, k ≤ qv ∧ i = .int .i64 k ∧ Hid (wr.ownsRow g1 3 1 (.slice (some ⟨g1, 0, none⟩) m m) m ((flowL m ts (vs.take k)).map (Value.int .i64))) ∧ Hid (Below g1 w10 wr)) (fun i _ => qv - (intOf i).toNat)
                case atStart => exact ⟨0, Nat.zero_le _, rfl, hide (by rw [Hstart.out]; exact Hob.out), Hbb2⟩
                case round => as_aux_lemma =>
                  obtain ⟨k, hk, rfl, Ho, Hb⟩ := hrel
                  have Hb' := hide (show Below w10.heap.size w10 wr by rw [Hg1.out]; exact Hb.out)
                  by_cases hlt : k < qv
                  · obtain ⟨b', o, x, rfl, hx, hk1, hk2, hk3⟩ := (V10.out.keep (Keeps.of_below Hb'.out)).at_ (i := k) (by rw [Hqv.out]; exact hlt)
                    have hbl : b' < g1 := by
                      obtain ⟨b2, o2, x2, hq2, _, hc, _⟩ := V10.out.at_ (i := k) (by rw [Hqv.out]; exact hlt)
                      cases hq2
                      have := block_lt hc
                      rw [Hg1.out] at this
                      exact this
                    obtain ⟨hd1, hd2, hd3, hd4, hd5, hd6⟩ := Hdv.out x (List.mem_of_getElem? hx)
                    have hfb := fun i => flowL_bd m ts vs k (by first | exact Nat.zero_le _ | (rw [Hq.out]; omega)) (fun t ht => by first | (cases ht; done) | (have := Hd.out t ht; exact ⟨this.2.2.2.2.1, this.2.2.2.2.2⟩)) (fun t ht => by have := Hdv.out t ht; exact ⟨this.2.2.2.2.1, this.2.2.2.2.2⟩) (by omega) i
                    obtain ⟨xf, xt, xa⟩ := x
                    simp only at hk1 hk2 hk3 hd1 hd2 hd3 hd4 hd5 hd6
                    obtain ⟨f', rfl⟩ := Int.eq_ofNat_of_zero_le hd1
                    obtain ⟨t', rfl⟩ := Int.eq_ofNat_of_zero_le hd3
                    have hfn : f' < m := by omega
                    have htn : t' < m := by omega
                    have Hx := hide hx; clear hx
                    have hcp := owni_cell Ho.out hfn
                    rw [show (flowL m ts (vs.take k)).getD f' 0 = flow ts f' + flow (vs.take k) f' from getD_range m _ f' hfn] at hcp
                    have hp1 := hfb f'
                    have hp2 := hfb t'
                    have hte : (flowL m ts (vs.take k)).getD t' 0 = flow ts t' + flow (vs.take k) t' := getD_range m _ t' htn
                    clear hfb
                    generalize hpv : flow ts f' + flow (vs.take k) f' = pv at *
                    have Hpv := hide hpv
                    have Hte := hide hte
                    clear hpv hte
                    have hfz := fun j => Ho.out.frozenAt j
                    have hnb : b' ≠ g1 := by omega
                    have Hk2 := hide hk2; have Hk3 := hide hk3
                    go_wp2_with fail
                    go_still_tail 21, (by kernel_rfl)
                    change wpList _ _ _ _ _ wr.drew
                    go_wp2_with fail
                    have ho2 : Hid ((wr.setCell ⟨g1, f', none⟩ (.int .i64 (pv + xa))).drew.ownsRow g1 3 1 (.slice (some ⟨g1, 0, none⟩) m m) m (((flowL m ts (vs.take k)).set f' (pv + xa)).map (Value.int .i64))) := hide (owni_set Ho.out f' (pv + xa))
                    have hgr : wr.grownBy (wr.setCell ⟨g1, f', none⟩ (.int .i64 (pv + xa))).drew (some g1) := by
                      have := grownBy_set (World.grownBy.refl wr (some g1)) f' (.int .i64 (pv + xa))
                      exact ⟨this.os, this.tape, this.output, this.size, this.block⟩
                    have hb2 := hide (show Below g1 w10 (wr.setCell ⟨g1, f', none⟩ (.int .i64 (pv + xa))).drew from (Hb.out.setCell (p := ⟨g1, f', none⟩) (Nat.le_refl _) _).drew)
                    have hk2' := hgr.cell Hk2.out (by simp; omega)
                    have hk3' := hgr.cell Hk3.out (by simp; omega)
                    clear hk1 hk2 hk3 hfz hgr hcp
                    generalize hw2 : (wr.setCell ⟨g1, f', none⟩ (.int .i64 (pv + xa))).drew = wx at *
                    clear hw2
                    obtain ⟨yv, hyv, hcp⟩ := owni_at ho2.out htn
                    have hyb : -20000000000000 ≤ yv ∧ yv ≤ 20000000000000 := by
                      rw [← hyv, getD_set _ _ _ _ (by simp [flowL]; exact hfn), Hte.out]
                      split <;> omega
                    have Hyv := hide hyv
                    clear hyv
                    have hfz := fun j => ho2.out.frozenAt j
                    go_still_tail 21, (by kernel_rfl)
                    change wpList _ _ _ _ _ wx.drew
                    go_wp2_with fail
                    have ho4 := hide (owni_set ho2.out t' (yv - xa))
                    have hb3 := hide (hb2.out.setCell (p := ⟨g1, t', none⟩) (Nat.le_refl _) (.int .i64 (yv - xa)))
                    go_roundw
                    case rel =>
                      refine ⟨k + 1, by omega, by go_num, hide ?_, hide hb3.out.drew⟩
                      rw [List.take_add_one, Hx.out]
                      show World.ownsRow _ _ _ _ _ _ ((flowL m ts (vs.take k ++ [_])).map _)
                      rw [flowL_snoc m ts (vs.take k) ⟨f', t', xa⟩ (by simp; exact hfn) (by simp; exact htn)]
                      have e : payOne (flowL m ts (vs.take k)) ⟨f', t', xa⟩ = ((flowL m ts (vs.take k)).set f' (pv + xa)).set t' (yv - xa) := by
                        simp only [payOne, Int.toNat_natCast]
                        rw [show (flowL m ts (vs.take k)).getD f' 0 = flow ts f' + flow (vs.take k) f' from getD_range m _ f' hfn, Hpv.out, Hyv.out]
                      rw [e]
                      exact ho4.out
                    case measure => simp [intOf]; omega
                  · have hkm : vs.take k = vs := List.take_of_length_le (by rw [Hqv.out]; omega)
                    rw [hkm] at Ho
                    clear hkm
                    have hall : flowL m ts vs = List.replicate m 0 := by
                      apply List.ext_getElem?
                      intro i
                      rw [List.getElem?_replicate]
                      split
                      · rename_i hi; unfold flowL; rw [at_range m _ i hi, Hfz.out i]
                      · rename_i hi; exact List.getElem?_eq_none (by simp [flowL]; omega)
                    rw [hall] at Ho
                    clear hall
                    have Bf := hide (bseq B10.out Hb'.out)
                    go_wp2_with fail
                    go_loop [19] (fun i => ∃ j : Nat, j ≤ m ∧ i = .int .i64 j) (fun i => m - (intOf i).toNat)
                    case atStart => exact ⟨0, Nat.zero_le _, rfl⟩
                    case round => as_aux_lemma =>
                      obtain ⟨j', hj', rfl⟩ := hrel
                      by_cases hjm : j' < m
                      · have hcp := owni_cell Ho.out hjm
                        rw [show (List.replicate m (0 : Int)).getD j' 0 = 0 by rw [List.getD_eq_getElem?_getD, List.getElem?_replicate, if_pos hjm]; rfl] at hcp
                        go_wp2_with fail
                        go_round
                        case rel => exact ⟨j' + 1, by omega, by go_num⟩
                        case measure => simp [intOf]; omega
                      · go_wp2_with fail
                        exact HR.out _ Bf.out
where
  nzle (l : List Int) : nz l ≤ l.length := by
    induction l with
    | nil => simp [nz]
    | cons a l ih => simp only [nz, List.length_cons]; split <;> omega
end Go.Proofs.Ytkpnbglghindjaa
