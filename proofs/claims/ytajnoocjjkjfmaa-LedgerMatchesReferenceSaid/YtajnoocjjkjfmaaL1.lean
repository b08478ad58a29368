/- LedgerMatchesReference: for any arguments the functions answer as the reference. -/
import Derived.Test.YtajnoocjjkjfmaaP3
import Derived.Test.YtajnoocjjkjfmaaF2
import Derived.Deep.RegionHeld3
set_option linter.unusedVariables false
set_option linter.unusedSimpArgs false
namespace Go.Proofs.Ytajnoocjjkjfmaa
open Go.ChangeShapes Go.WideShapes Go.ChangeAt Go.RowKit

theorem keep4 {w7 W w9 : World} {b o : Nat} {v1 v2 v3 v4 : Value} (hb : Below W.heap.size W w9) (h0 : Below w7.heap.size w7 W) (c1 : W.cell? ⟨b, o, none⟩ = some v1) (c2 : W.cell? ⟨b, o + 1, none⟩ = some v2) (c3 : W.cell? ⟨b, o + 2, none⟩ = some v3) (c4 : W.cell? ⟨b, o + 3, none⟩ = some v4) :
    Below w7.heap.size w7 w9 ∧ w9.cell? ⟨b, o, none⟩ = some v1 ∧ w9.cell? ⟨b, o + 1, none⟩ = some v2 ∧ w9.cell? ⟨b, o + 2, none⟩ = some v3 ∧ w9.cell? ⟨b, o + 3, none⟩ = some v4 :=
  ⟨h0.trans (hb.mono h0.size), cell_later hb c1, cell_later hb c2, cell_later hb c3, cell_later hb c4⟩
set_option maxRecDepth 100000 in
set_option maxHeartbeats 4000000 in
theorem matches_c (acc : Int) (ps : Option Addr) (ns cs : Nat) (ls : List Ent) (am : Int) (ph : Option Addr) (nh ch : Nat) (lh : List Int) (pf : Option Addr) (nf cf : Nat) (lf : List Int) (pt : Option Addr) (nt ct : Nat) (lt : List Int) (ref : ByteArray) (w : World) (R)
    (hw0 : (Lit.int .i64 acc).wf = true) (hn : ls.length = ns) (hls : ns ≤ maxLen) (he : EntsAt w ps ls) (hz : ps = none → ns = 0) (hwf : EWf ls) (hw2 : (Lit.int .i64 am).wf = true)
    (hh : lh.length = nh) (hlh : nh ≤ maxLen) (hih : IntsAt .i64 w ph lh) (_hzh : ph = none → nh = 0) (_hwh : ∀ x ∈ lh, (Lit.int .i64 x).wf = true)
    (hf : lf.length = nf) (hlf : nf ≤ maxLen) (hif : IntsAt .i64 w pf lf) (_hzf : pf = none → nf = 0) (_hwff : ∀ x ∈ lf, (Lit.int .i64 x).wf = true)
    (ht : lt.length = nt) (hlt : nt ≤ maxLen) (hit : IntsAt .i64 w pt lt) (_hzt : pt = none → nt = 0) (_hwt : ∀ x ∈ lt, (Lit.int .i64 x).wf = true) (hrm : ref.size ≤ maxLen)
    (hR : ∀ w', Below w.heap.size w w' → R (.returned (.bool true)) w') : Calls Try.prog 3 #[.int .i64 acc, .slice ps ns cs, .int .i64 am, .slice ph nh ch, .slice pf nf cf, .slice pt nt ct, .string ref] w R := by
  have Hn := hide hn; have HR := hide hR; have EE := hide he; have Hw := hide hwf; have Hh := hide hh; have Hf' := hide hf; have Ht := hide ht
  have Ih := hide hih; have If := hide hif; have It := hide hit; have Hw0 := hide hw0; have Hlss := hide hls; have Hlhs := hide hlh; have Hlfs := hide hlf; have Hlts := hide hlt; have Hrms := hide hrm
  clear hn hR he hwf hh hf ht hih hif hit hw0 hw2 hz _hzh _hwh _hzf _hwff _hzt _hwt
  have hls2 := hls; have hlh2 := hlh; have hlf2 := hlf; have hlt2 := hlt; have hrm2 := hrm
  unfold maxLen at hls2 hlh2 hlf2 hlt2 hrm2
  cases hfw : fewE ls 1010 with
  | false =>
    have Hf := hide hfw; clear hfw
    go_enter Try.func3, Try.ntmps3
    go_wp2_with (go_at_call 11; refine Stop.out ?_)
    refine Stop.go (head_c _ _ ?_)
    intro w1 B1
    have E1 := EE.out.keep (Keeps.of_below B1)
    replace B1 := hide B1
    go_wp2_with (go_at_call 12; refine Stop.out ?_)
    refine Stop.go (few_c ps ns cs ls 1010 _ _ Hn.out hls Hw.out E1 ?_)
    rw [Hf.out]
    go_wp2_with fail
    exact HR.out _ B1.out
  | true =>
    have Hf := hide hfw
    have hn1010 : ns ≤ 1010 := by
      unfold fewE at hfw
      rw [Bool.and_eq_true, decide_eq_true_eq, Hn.out] at hfw
      omega
    clear hfw
    by_cases c1 : 110 < nh
    · go_enter Try.func3, Try.ntmps3
      go_wp2_with (go_at_call 11; refine Stop.out ?_)
      refine Stop.go (head_c _ _ ?_)
      intro w1 B1
      have E1 := EE.out.keep (Keeps.of_below B1)
      replace B1 := hide B1
      go_wp2_with (go_at_call 12; refine Stop.out ?_)
      refine Stop.go (few_c ps ns cs ls 1010 _ _ Hn.out hls Hw.out E1 ?_)
      rw [Hf.out]
      go_wp2_with fail
      exact HR.out _ B1.out
    · by_cases c2 : 110 < nf
      · go_enter Try.func3, Try.ntmps3
        go_wp2_with (go_at_call 11; refine Stop.out ?_)
        refine Stop.go (head_c _ _ ?_)
        intro w1 B1
        have E1 := EE.out.keep (Keeps.of_below B1)
        replace B1 := hide B1
        go_wp2_with (go_at_call 12; refine Stop.out ?_)
        refine Stop.go (few_c ps ns cs ls 1010 _ _ Hn.out hls Hw.out E1 ?_)
        rw [Hf.out]
        go_wp2_with fail
        exact HR.out _ B1.out
      · by_cases c3 : 110 < nt
        · go_enter Try.func3, Try.ntmps3
          go_wp2_with (go_at_call 11; refine Stop.out ?_)
          refine Stop.go (head_c _ _ ?_)
          intro w1 B1
          have E1 := EE.out.keep (Keeps.of_below B1)
          replace B1 := hide B1
          go_wp2_with (go_at_call 12; refine Stop.out ?_)
          refine Stop.go (few_c ps ns cs ls 1010 _ _ Hn.out hls Hw.out E1 ?_)
          rw [Hf.out]
          go_wp2_with fail
          exact HR.out _ B1.out
        · by_cases c4 : 100 < ref.size
          · have c5 : (100 : Int) < (ref.size : Int) := by omega
            go_enter Try.func3, Try.ntmps3
            go_wp2_with (go_at_call 11; refine Stop.out ?_)
            refine Stop.go (head_c _ _ ?_)
            intro w1 B1
            have E1 := EE.out.keep (Keeps.of_below B1)
            replace B1 := hide B1
            go_wp2_with (go_at_call 12; refine Stop.out ?_)
            refine Stop.go (few_c ps ns cs ls 1010 _ _ Hn.out hls Hw.out E1 ?_)
            rw [Hf.out]
            go_wp2_with fail
            exact HR.out _ B1.out
          · have c5 : ¬ (100 : Int) < (ref.size : Int) := by omega
            have L1 := hide (balL_len acc ls); have L2 := hide (splitL_len am lh); have L3 := hide (adjL_len lf lt ref)
            have L2' := hide (show (splitL am lh).length ≤ 110 by have := L2.out; rw [Hh.out] at this; omega)
            go_enter Try.func3, Try.ntmps3
            go_wp2_with (go_at_call 11; refine Stop.out ?_)
            refine Stop.go (head_c _ _ ?_)
            intro w1 B1
            have E1 := hide (EE.out.keep (Keeps.of_below B1)); have I1 := hide (Ih.out.keep (Keeps.of_below B1)); have F1 := hide (If.out.keep (Keeps.of_below B1)); have T1 := hide (It.out.keep (Keeps.of_below B1))
            replace B1 := hide B1
            go_wp2_with (go_at_call 12; refine Stop.out ?_)
            refine Stop.go (few_c ps ns cs ls 1010 _ _ Hn.out Hlss.out Hw.out E1.out ?_)
            rw [Hf.out]
            go_wp2_with (go_at_call 13; refine Stop.out ?_)
            refine Stop.go (bal_b acc ps ns cs ls _ _ Hn.out Hlss.out E1.out Hw.out Hw0.out ?_)
            intro pa ca w2 hb ia
            have B2 := hide (bseq B1.out hb); have E2 := hide (E1.out.keep (Keeps.of_below hb)); have I2 := hide (I1.out.keep (Keeps.of_below hb)); have F2 := hide (F1.out.keep (Keeps.of_below hb)); have T2 := hide (T1.out.keep (Keeps.of_below hb)); have Ia := hide ia
            clear hb ia B1 E1 I1 F1 T1
            go_wp2_with (go_at_call 14; refine Stop.out ?_)
            refine Stop.go (refBal_b acc ps ns cs ls _ _ Hn.out (by omega) E2.out Hw.out Hw0.out ?_)
            intro pb cb w3 hb ib
            have B3 := hide (bseq B2.out hb); have E3 := hide (E2.out.keep (Keeps.of_below hb)); have I3 := hide (I2.out.keep (Keeps.of_below hb)); have F3 := hide (F2.out.keep (Keeps.of_below hb)); have T3 := hide (T2.out.keep (Keeps.of_below hb)); have Ia3 := hide (Ia.out.keep (Keeps.of_below hb)); have Ib := hide ib
            clear hb ib B2 E2 I2 F2 T2 Ia
            go_wp2_with (go_at_call 15; refine Stop.out ?_)
            refine Stop.go (split_b am ph nh ch lh _ _ Hh.out Hlhs.out I3.out ?_)
            intro pc cc w4 hb ic
            have B4 := hide (bseq B3.out hb); have E4 := hide (E3.out.keep (Keeps.of_below hb)); have I4 := hide (I3.out.keep (Keeps.of_below hb)); have F4 := hide (F3.out.keep (Keeps.of_below hb)); have T4 := hide (T3.out.keep (Keeps.of_below hb)); have Ia4 := hide (Ia3.out.keep (Keeps.of_below hb)); have Ib4 := hide (Ib.out.keep (Keeps.of_below hb)); have Ic := hide ic
            clear hb ic B3 E3 I3 F3 T3 Ia3 Ib
            go_wp2_with (go_at_call 16; refine Stop.out ?_)
            refine Stop.go (refSplit_b am ph nh ch lh _ _ Hh.out Hlhs.out I4.out ?_)
            intro pd cd w5 hb id
            have B5 := hide (bseq B4.out hb); have E5 := hide (E4.out.keep (Keeps.of_below hb)); have F5 := hide (F4.out.keep (Keeps.of_below hb)); have T5 := hide (T4.out.keep (Keeps.of_below hb)); have Ia5 := hide (Ia4.out.keep (Keeps.of_below hb)); have Ib5 := hide (Ib4.out.keep (Keeps.of_below hb)); have Ic5 := hide (Ic.out.keep (Keeps.of_below hb)); have Id := hide id
            clear hb id B4 E4 I4 F4 T4 Ia4 Ib4 Ic
            go_wp2_with (go_at_call 17; refine Stop.out ?_)
            refine Stop.go (adj_b pf pt nf nt cf ct lf lt ref _ _ Hf'.out Ht.out Hlfs.out Hlts.out F5.out T5.out Hrms.out ?_)
            intro pe ce w6 hb ie
            have B6 := hide (bseq B5.out hb); have E6 := hide (E5.out.keep (Keeps.of_below hb)); have F6 := hide (F5.out.keep (Keeps.of_below hb)); have T6 := hide (T5.out.keep (Keeps.of_below hb)); have Ia6 := hide (Ia5.out.keep (Keeps.of_below hb)); have Ib6 := hide (Ib5.out.keep (Keeps.of_below hb)); have Ic6 := hide (Ic5.out.keep (Keeps.of_below hb)); have Id6 := hide (Id.out.keep (Keeps.of_below hb)); have Ie := hide ie
            clear hb ie B5 E5 F5 T5 Ia5 Ib5 Ic5 Id
            go_wp2_with (go_at_call 18; refine Stop.out ?_)
            refine Stop.go (refAdj_b pf pt nf nt cf ct lf lt ref _ _ Hf'.out Ht.out Hlfs.out Hlts.out F6.out T6.out Hrms.out ?_)
            intro pg cg w7 hb ig
            have B7 := hide (bseq B6.out hb); have E7 := hide (E6.out.keep (Keeps.of_below hb)); have Ia7 := hide (Ia6.out.keep (Keeps.of_below hb)); have Ib7 := hide (Ib6.out.keep (Keeps.of_below hb)); have Ic7 := hide (Ic6.out.keep (Keeps.of_below hb)); have Id7 := hide (Id6.out.keep (Keeps.of_below hb)); have Ie7 := hide (Ie.out.keep (Keeps.of_below hb)); have Ig := hide ig
            clear hb ig B6 E6 F6 T6 Ia6 Ib6 Ic6 Id6 Ie
            generalize balE acc ls = e1 at *
            generalize splitE am lh = e2 at *
            generalize adjE lf lt ref = e3 at *
            have rest : ∀ W, Below w7.heap.size w7 W → True := fun _ _ => trivial
            clear rest
            by_cases hn0 : ns = 0
            · subst hn0
              go_wp2
              go_quiet (fail)
              have KK := hide (below_drewN' (Below.refl w7.heap.size w7) nq)
              have l1 := L1.out; have l2 := L2'.out; have l3 := L3.out
              generalize w7.drewN nq = w8 at *
              go_wp2_with (go_at_call 21; refine Stop.out ?_)
              refine Stop.go (ints_c pa pb _ _ ca cb _ _ _ _ rfl rfl (by unfold maxLen; omega) (by unfold maxLen; omega) (Ia7.out.keep (Keeps.of_below KK.out)) (Ib7.out.keep (Keeps.of_below KK.out)) ?_)
              rw [decide_eq_true rfl]
              intro w9 d9
              go_wp2_with (go_at_call 21; refine Stop.out ?_)
              refine Stop.go (ints_c pc pd _ _ cc cd _ _ _ _ rfl rfl (by unfold maxLen; omega) (by unfold maxLen; omega) ((Ic7.out.keep (Keeps.of_below KK.out)).keep d9.keeps) ((Id7.out.keep (Keeps.of_below KK.out)).keep d9.keeps) ?_)
              rw [decide_eq_true rfl]
              intro w10 d10
              go_wp2_with (go_at_call 22; refine Stop.out ?_)
              refine Stop.go (same_c pe pg _ _ ce cg _ _ _ _ rfl rfl (by unfold maxLen; omega) (by unfold maxLen; omega) ((Ie7.out.keep (Keeps.of_below KK.out)).keep (d9.trans d10).keeps) ((Ig.out.keep (Keeps.of_below KK.out)).keep (d9.trans d10).keeps) ?_)
              rw [decide_eq_true rfl]
              intro w11 d11
              have B11 := hide (((B7.out.trans (KK.out.mono B7.out.size)).trans (d9.below.trans d10.below)).trans d11.below)
              clear d9 d10 d11
              go_wp2_with fail
              exact HR.out _ B11.out
            · obtain ⟨b, o, x, rfl, hx, hc1, hc2, hc3, hc4⟩ := E7.out.at_ (i := 0) (by rw [Hn.out]; omega)
              have hxs := (Hw.out x (List.mem_of_getElem? hx)).2.2.2
              have hns0 : ((ns : Int) == 0) = false := by simp; omega
              have hns1 : 0 < ns := by omega
              cases hv : validE acc x with
              | true =>
                have Hv := hide hv; clear hv hx
                obtain ⟨xf, xt, xa, xr⟩ := x
                simp only at hc1 hc2 hc3 hc4 hxs
                simp only [Nat.zero_mul, Nat.add_zero] at hc1 hc2 hc3 hc4
                have hb0 : Below w7.heap.size w7 w7.drew := (Below.refl _ _).drew
                go_wp2
                go_region_held3 (fun w' => Below w7.heap.size w7 w' ∧ w'.cell? ⟨b, o, none⟩ = some (.int .i64 xf) ∧ w'.cell? ⟨b, o + 1, none⟩ = some (.int .i64 xt) ∧ w'.cell? ⟨b, o + 2, none⟩ = some (.int .i64 xa) ∧ w'.cell? ⟨b, o + 3, none⟩ = some (.string xr))
                  (first | exact ⟨hb0, hc1, hc2, hc3, hc4⟩ | (go_split_ands; exact keep4 hb9 (by assumption) (by assumption) (by assumption) (by assumption) (by assumption)))
                  (first | (go_at_call 19; refine valid_b acc ⟨xf, xt, xa, xr⟩ hxs _ _ ?_; intro w9 hb9; rw [Hv.out]) | (go_at_call 20; refine refValid_c acc ⟨xf, xt, xa, xr⟩ hxs _ _ ?_; intro w9 hb9; rw [Hv.out]))
                rename_i hS
                have KK := hide hS.1
                have l1 := L1.out; have l2 := L2'.out; have l3 := L3.out
                clear hS hb9 hb0 hc1 hc2 hc3 hc4
                generalize w9 = w8 at *
                go_wp2_with (go_at_call 21; refine Stop.out ?_)
                refine Stop.go (ints_c pa pb _ _ ca cb _ _ _ _ rfl rfl (by unfold maxLen; omega) (by unfold maxLen; omega) (Ia7.out.keep (Keeps.of_below KK.out)) (Ib7.out.keep (Keeps.of_below KK.out)) ?_)
                rw [decide_eq_true rfl]
                intro w9 d9
                go_wp2_with (go_at_call 21; refine Stop.out ?_)
                refine Stop.go (ints_c pc pd _ _ cc cd _ _ _ _ rfl rfl (by unfold maxLen; omega) (by unfold maxLen; omega) ((Ic7.out.keep (Keeps.of_below KK.out)).keep d9.keeps) ((Id7.out.keep (Keeps.of_below KK.out)).keep d9.keeps) ?_)
                rw [decide_eq_true rfl]
                intro w10 d10
                go_wp2_with (go_at_call 22; refine Stop.out ?_)
                refine Stop.go (same_c pe pg _ _ ce cg _ _ _ _ rfl rfl (by unfold maxLen; omega) (by unfold maxLen; omega) ((Ie7.out.keep (Keeps.of_below KK.out)).keep (d9.trans d10).keeps) ((Ig.out.keep (Keeps.of_below KK.out)).keep (d9.trans d10).keeps) ?_)
                rw [decide_eq_true rfl]
                intro w11 d11
                have B11 := hide (((B7.out.trans (KK.out.mono B7.out.size)).trans (d9.below.trans d10.below)).trans d11.below)
                clear d9 d10 d11
                go_wp2_with fail
                exact HR.out _ B11.out
              | false =>
                have Hv := hide hv; clear hv hx
                obtain ⟨xf, xt, xa, xr⟩ := x
                simp only at hc1 hc2 hc3 hc4 hxs
                simp only [Nat.zero_mul, Nat.add_zero] at hc1 hc2 hc3 hc4
                have hb0 : Below w7.heap.size w7 w7.drew := (Below.refl _ _).drew
                go_wp2
                go_region_held3 (fun w' => Below w7.heap.size w7 w' ∧ w'.cell? ⟨b, o, none⟩ = some (.int .i64 xf) ∧ w'.cell? ⟨b, o + 1, none⟩ = some (.int .i64 xt) ∧ w'.cell? ⟨b, o + 2, none⟩ = some (.int .i64 xa) ∧ w'.cell? ⟨b, o + 3, none⟩ = some (.string xr))
                  (first | exact ⟨hb0, hc1, hc2, hc3, hc4⟩ | (go_split_ands; exact keep4 hb9 (by assumption) (by assumption) (by assumption) (by assumption) (by assumption)))
                  (first | (go_at_call 19; refine valid_b acc ⟨xf, xt, xa, xr⟩ hxs _ _ ?_; intro w9 hb9; rw [Hv.out]) | (go_at_call 20; refine refValid_c acc ⟨xf, xt, xa, xr⟩ hxs _ _ ?_; intro w9 hb9; rw [Hv.out]))
                rename_i hS
                have KK := hide hS.1
                have l1 := L1.out; have l2 := L2'.out; have l3 := L3.out
                clear hS hb9 hb0 hc1 hc2 hc3 hc4
                generalize w9 = w8 at *
                go_wp2_with (go_at_call 21; refine Stop.out ?_)
                refine Stop.go (ints_c pa pb _ _ ca cb _ _ _ _ rfl rfl (by unfold maxLen; omega) (by unfold maxLen; omega) (Ia7.out.keep (Keeps.of_below KK.out)) (Ib7.out.keep (Keeps.of_below KK.out)) ?_)
                rw [decide_eq_true rfl]
                intro w9 d9
                go_wp2_with (go_at_call 21; refine Stop.out ?_)
                refine Stop.go (ints_c pc pd _ _ cc cd _ _ _ _ rfl rfl (by unfold maxLen; omega) (by unfold maxLen; omega) ((Ic7.out.keep (Keeps.of_below KK.out)).keep d9.keeps) ((Id7.out.keep (Keeps.of_below KK.out)).keep d9.keeps) ?_)
                rw [decide_eq_true rfl]
                intro w10 d10
                go_wp2_with (go_at_call 22; refine Stop.out ?_)
                refine Stop.go (same_c pe pg _ _ ce cg _ _ _ _ rfl rfl (by unfold maxLen; omega) (by unfold maxLen; omega) ((Ie7.out.keep (Keeps.of_below KK.out)).keep (d9.trans d10).keeps) ((Ig.out.keep (Keeps.of_below KK.out)).keep (d9.trans d10).keeps) ?_)
                rw [decide_eq_true rfl]
                intro w11 d11
                have B11 := hide (((B7.out.trans (KK.out.mono B7.out.size)).trans (d9.below.trans d10.below)).trans d11.below)
                clear d9 d10 d11
                go_wp2_with fail
                exact HR.out _ B11.out

set_option maxRecDepth 100000 in
theorem matches_holds_lifted (os : Os) (started : os.Started) (H : Type) (enc : TypeId × Value → H) :
    ReturnsInHanded {} Try.checked os 3 .any (Rows.ledgerMatchesReferenceSpec.pre6 enc Try.prog Try.f3 Rows.ledgerMatchesReferenceRow.domain false) (Rows.ledgerMatchesReferenceSpec.post enc Try.prog Try.f3 false true false false) := by
  refine returnsInHanded_of_change (C := Try.checked) Try.own started (by kernel_rfl) Try.func3
    (ChangeSpec.witness6 (enc := enc) (C := Try.checked) false ⟨#[], #[.int .i64 0, .slice none 0 0, .int .i64 0, .slice none 0 0, .slice none 0 0, .slice none 0 0, .string ⟨#[]⟩], []⟩ 8 (by kernel_rfl) (by kernel_rfl) (by kernel_rfl) (by kernel_rfl)) ?_
  intro W base args ds gs before hval0 hW hcnd _
  have hval : ∀ (j : Nat) t v, Try.f3.params[j]? = some t → args[j]? = some v → Value.okWide Try.prog W .any base t v := hval0
  have hW' := hW
  obtain ⟨p, q, hA0, hV, rfl, hfz, hnd⟩ := hW
  have hA : DataW.TrodAll enc Try.prog W 0 (fun _ => true) true Try.f3.params.toList args.toList ds p := hA0
  have hA1 := hA
  rw [Try.params3] at hA hval
  obtain ⟨v0, vs0, d0, ds0, p0, q0, hargs, rfl, rfl, h0, r0⟩ := trodAll_cons hA
  obtain ⟨v1, vs1, d1, ds1, p1, q1, rfl, rfl, rfl, h1, r1⟩ := trodAll_cons r0
  obtain ⟨v2, vs2, d2, ds2, p2, q2, rfl, rfl, rfl, h2, r2⟩ := trodAll_cons r1
  obtain ⟨v3, vs3, d3, ds3, p3, q3, rfl, rfl, rfl, h3, r3⟩ := trodAll_cons r2
  obtain ⟨v4, vs4, d4, ds4, p4, q4, rfl, rfl, rfl, h4, r4⟩ := trodAll_cons r3
  obtain ⟨v5, vs5, d5, ds5, p5, q5, rfl, rfl, rfl, h5, r5⟩ := trodAll_cons r4
  obtain ⟨v6, vs6, d6, ds6, p6, q6, rfl, rfl, rfl, h6, r6⟩ := trodAll_cons r5
  obtain ⟨rfl, rfl, rfl⟩ := trodAll_nil r6
  obtain rfl : args = #[v0, v1, v2, v3, v4, v5, v6] := by cases args; simp_all
  obtain ⟨rfl, rfl⟩ := trodVars_none hV
  obtain ⟨x0, rfl, _, _, hw0⟩ := open_int Try.underlying3 (hval 0 3 v0 rfl rfl) h0
  obtain ⟨a1, n1, c1, l1, rfl, hl1, hm1, hi1, hz1, hw1⟩ := open_ents (hval 1 22 v1 rfl rfl) h1
  obtain ⟨x2, rfl, _, _, hw2⟩ := open_int Try.underlying3 (hval 2 3 v2 rfl rfl) h2
  obtain ⟨a3, n3, c3, l3, rfl, hl3, hm3, hi3, hz3, hw3⟩ := open_ints' Try.underlying23 Try.underlying3 (by kernel_rfl) (hval 3 23 v3 rfl rfl) h3
  obtain ⟨a4, n4, c4, l4, rfl, hl4, hm4, hi4, hz4, hw4⟩ := open_ints' Try.underlying23 Try.underlying3 (by kernel_rfl) (hval 4 23 v4 rfl rfl) h4
  obtain ⟨a5, n5, c5, l5, rfl, hl5, hm5, hi5, hz5, hw5⟩ := open_ints' Try.underlying23 Try.underlying3 (by kernel_rfl) (hval 5 23 v5 rfl rfl) h5
  obtain ⟨x6, rfl, _, _, hw6⟩ := Go.ChangeMaps.open_string Try.underlying9 (hval 6 9 v6 rfl rfl) h6
  refine matches_c x0 a1 n1 c1 l1 x2 a3 n3 c3 l3 a4 n4 c4 l4 a5 n5 c5 l5 x6 W _ hw0 hl1 hm1 hi1 hz1 hw1 hw2 hl3 hm3 hi3 hz3 hw3 hl4 hm4 hi4 hz4 hw4 hl5 hm5 hi5 hz5 hw5 hw6 fun W' bel => ?_
  exact ⟨_, rfl, law_post Try.laidOut bel rfl hW' hA1 (by kernel_rfl) rfl Try.underlying4 rfl rfl rfl⟩

theorem matches_holds : Rows.LedgerMatchesReferenceSaid :=
  OpenClaim.holds_of_wide 3 Try.f3 rfl rfl rfl rfl rfl rfl rfl ⟨rfl, rfl, rfl, rfl, rfl⟩ rfl rfl rfl rfl rfl (by kernel_rfl) Try.func3 (by kernel_rfl)
    (of_decide_eq_true (by kernel_rfl)) (by unfold Func.isWrapper; rw [if_neg (of_decide_eq_false (by kernel_rfl))]; exact ⟨rfl, rfl⟩)
    (fun os started H enc _ => matches_holds_lifted os started H enc)

end Go.Proofs.Ytajnoocjjkjfmaa
