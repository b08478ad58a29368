/- OrderFits: the times that Fit finds are possible; if the given times are possible, Fit finds some; it finds the same ones again. -/
import Derived.Test.YtaopfoicdjejnaaH2
import Derived.Test.YtaopfoicdjejnaaF2
set_option linter.unusedVariables false
set_option linter.unusedSimpArgs false
namespace Go.Proofs.Ytaopfoicdjejnaa
open Go.ChangeShapes Go.WideShapes Go.ChangeAt Go.RowKit Go.Deep

theorem fewB_le {d : List (List Int)} {m k t : Nat} (h : fewB d m k t = true) : d.length ≤ 5 ∧ m ≤ 7 ∧ k ≤ 4 ∧ t ≤ 7 := by
  unfold fewB fewR at h
  simp only [Bool.and_eq_true, decide_eq_true_eq] at h
  omega
theorem fitR_len {d es ls ts} (h : fitR d es ls = some ts) : ts.length = es.length := (fitR_sound h).2.1
theorem noHold {d es ls ts} (h : fitR d es ls = none) : holdB d es ls ts = false := holdB_false (fun hh => by
  have := fitR_some hh.1 hh.2.2
  rw [h] at this; cases this)
set_option maxRecDepth 100000 in
set_option maxHeartbeats 8000000 in
theorem orderFits_c (dp : Option Addr) (n dc : Nat) (d : List (List Int)) (ep : Option Addr) (m ec : Nat) (es : List Evt) (lp : Option Addr) (k lc : Nat) (ls : List Lgr) (tp : Option Addr) (t tc : Nat) (ts : List Int) (w : World) (R)
    (hn : d.length = n) (hn2 : n ≤ maxLen) (hd : RowsAt w dp d) (_hdc : n ≤ dc) (_h1 : True) (hm : es.length = m) (hm2 : m ≤ maxLen) (he : EvsAt w ep es) (_hec : m ≤ ec) (_h2 : True)
    (hk : ls.length = k) (hk2 : k ≤ maxLen) (hl : LgsAt w lp ls) (hlc : k ≤ lc) (_h3 : True) (ht : ts.length = t) (ht2 : t ≤ maxLen) (hti : IntsAt .i64 w tp ts) (_htc : t ≤ tc) (_h4 : True)
    (hR : ∀ w', Below w.heap.size w w' → R (.returned (.bool true)) w') :
    Calls Try.prog 4 #[.slice dp n dc, .slice ep m ec, .slice lp k lc, .slice tp t tc] w R := by
  subst hn; subst hm; subst hk
  have HR := hide hR; have Hd := hide hd; have He := hide he; have Hl := hide hl; have Hti := hide hti; have Ht := hide ht
  clear hR hd he hl hti ht
  go_enter Try.func4, Try.ntmps4
  go_wp2_with (go_at_call 10; refine Stop.out ?_)
  refine Stop.go (head_c _ _ ?_)
  intro w1 hb
  have B1 := hide hb
  clear hb
  cases hf : fewB d es.length ls.length t with
  | false =>
    have Hf := hide hf
    clear hf
    go_wp2_with (go_at_call 11; refine Stop.out ?_)
    refine Stop.go (few_c dp ep lp tp dc ec lc tc _ _ _ d _ _ hn2 hm2 hk2 ht2 (Hd.out.keep (Keeps.of_below B1.out)) ?_)
    rw [Hf.out]
    go_wp2
    exact HR.out _ B1.out
  | true =>
    obtain ⟨l1, l2, l3, l4⟩ := fewB_le hf
    have Hf := hide hf
    clear hf
    go_wp2_with (go_at_call 11; refine Stop.out ?_)
    refine Stop.go (few_c dp ep lp tp dc ec lc tc _ _ _ d _ _ hn2 hm2 hk2 ht2 (Hd.out.keep (Keeps.of_below B1.out)) ?_)
    rw [Hf.out]
    cases hfit : fitR d es ls with
    | none =>
      have Hfit := hide hfit
      clear hfit
      go_wp2_with (go_at_call 12; refine Stop.out ?_)
      refine Stop.go (fit_c dp ep lp dc ec lc d es ls _ _ hn2 hm2 hk2 (Hd.out.keep (Keeps.of_below B1.out)) (He.out.keep (Keeps.of_below B1.out)) (Hl.out.keep (Keeps.of_below B1.out)) ?_ ?_)
      rotate_left
      · intro ts' hts'
        rw [Hfit.out] at hts'; cases hts'
      intro _ w2 hb
      have B2 := hide (bseq B1.out hb)
      clear hb
      go_wp2_with (go_at_call 12; refine Stop.out ?_)
      refine Stop.go (fit_c dp ep lp dc ec lc d es ls _ _ hn2 hm2 hk2 (Hd.out.keep (Keeps.of_below B2.out)) (He.out.keep (Keeps.of_below B2.out)) (Hl.out.keep (Keeps.of_below B2.out)) ?_ ?_)
      rotate_left
      · intro ts' hts'
        rw [Hfit.out] at hts'; cases hts'
      intro _ w3 hb
      have B3 := hide (bseq B2.out hb)
      clear hb
      go_wp2_with (go_at_call 16; refine Stop.out ?_)
      refine Stop.go (ints_c _ _ _ _ _ _ [] [] _ _ rfl rfl (by omega) (by omega) IntsAt.nil IntsAt.nil ?_)
      intro w4 hdr
      rw [decide_eq_true rfl]
      have B4 := hide (bseq B3.out hdr.below)
      clear hdr
      go_wp2_with (go_at_call 14; refine Stop.out ?_)
      refine Stop.go (holds_c dp ep lp tp dc ec lc tc t d es ls ts _ _ hn2 hm2 hk2 ht2 Ht.out hlc (Hd.out.keep (Keeps.of_below B4.out)) (He.out.keep (Keeps.of_below B4.out)) (Hl.out.keep (Keeps.of_below B4.out)) (Hti.out.keep (Keeps.of_below B4.out)) ?_)
      intro w5 hb
      rw [noHold Hfit.out]
      have B5 := hide (bseq B4.out hb)
      clear hb
      go_wp2
      exact HR.out _ B5.out
    | some x =>
      have Hfit := hide hfit
      have Hxl := hide (fitR_len hfit)
      clear hfit
      go_wp2_with (go_at_call 12; refine Stop.out ?_)
      refine Stop.go (fit_c dp ep lp dc ec lc d es ls _ _ hn2 hm2 hk2 (Hd.out.keep (Keeps.of_below B1.out)) (He.out.keep (Keeps.of_below B1.out)) (Hl.out.keep (Keeps.of_below B1.out)) ?_ ?_)
      · intro hnone
        rw [Hfit.out] at hnone; cases hnone
      intro x' hx' q c w2 hb hX
      have hxx : x' = x := by rw [Hfit.out] at hx'; injection hx' with h; exact h.symm
      subst hxx
      have B2 := hide (bseq B1.out hb)
      have X2 := hide hX
      clear hb hX hx'
      go_wp2_with (go_at_call 12; refine Stop.out ?_)
      refine Stop.go (fit_c dp ep lp dc ec lc d es ls _ _ hn2 hm2 hk2 (Hd.out.keep (Keeps.of_below B2.out)) (He.out.keep (Keeps.of_below B2.out)) (Hl.out.keep (Keeps.of_below B2.out)) ?_ ?_)
      · intro hnone
        rw [Hfit.out] at hnone; cases hnone
      intro x'' hx'' q' c' w3 hb hY
      have hxx : x'' = x' := by rw [Hfit.out] at hx''; injection hx'' with h; exact h.symm
      subst hxx
      have B3 := hide (bseq B2.out hb)
      have X3 := hide (X2.out.keep (Keeps.of_below hb))
      have Y3 := hide hY
      clear hb hY hx'' X2
      go_wp2_with (go_at_call 14; refine Stop.out ?_)
      refine Stop.go (holds_c dp ep lp q dc ec lc c es.length d es ls x'' _ _ hn2 hm2 hk2 hm2 Hxl.out hlc (Hd.out.keep (Keeps.of_below B3.out)) (He.out.keep (Keeps.of_below B3.out)) (Hl.out.keep (Keeps.of_below B3.out)) X3.out ?_)
      intro w4 hb
      rw [holdB_true.2 (fitR_sound Hfit.out)]
      have B4 := hide (bseq B3.out hb)
      have X4 := hide (X3.out.keep (Keeps.of_below hb)); have Y4 := hide (Y3.out.keep (Keeps.of_below hb))
      clear hb X3 Y3
      go_wp2_with (go_at_call 16; refine Stop.out ?_)
      refine Stop.go (ints_c _ _ _ _ _ _ x'' x'' _ _ Hxl.out Hxl.out (by omega) (by omega) X4.out Y4.out ?_)
      intro w5 hdr
      rw [decide_eq_true rfl]
      have B5 := hide (bseq B4.out hdr.below)
      clear hdr
      go_wp2
      exact HR.out _ B5.out

set_option maxRecDepth 100000 in
theorem fits_holds_lifted (os : Os) (started : os.Started) (H : Type) (enc : TypeId × Value → H) :
    ReturnsInHanded {} Try.checked os 4 .any (Rows.orderFitsSpec.pre6 enc Try.prog Try.f4 Rows.orderFitsRow.domain false) (Rows.orderFitsSpec.post enc Try.prog Try.f4 false true false false) := by
  refine returnsInHanded_of_change (C := Try.checked) Try.own started (by kernel_rfl) Try.func4
    (ChangeSpec.witness6 (enc := enc) (C := Try.checked) false ⟨#[], #[.slice none 0 0, .slice none 0 0, .slice none 0 0, .slice none 0 0], []⟩ 8 (by kernel_rfl) (by kernel_rfl) (by kernel_rfl) (by kernel_rfl)) ?_
  intro W base args ds gs before hval0 hW hcnd _
  have hval : ∀ (j : Nat) t v, Try.f4.params[j]? = some t → args[j]? = some v → Value.okWide Try.prog W .any base t v := hval0
  have hW' := hW
  obtain ⟨p, q, hA0, hV, rfl, hfz, hnd⟩ := hW
  have hA : DataW.TrodAll enc Try.prog W 0 (fun _ => true) true Try.f4.params.toList args.toList ds p := hA0
  have hA1 := hA
  rw [Try.params4] at hA hval
  obtain ⟨v0, vs0, d0, ds0, p0, q0, hargs, rfl, rfl, h0, r0⟩ := trodAll_cons hA
  obtain ⟨v1, vs1, d1, ds1, p1, q1, rfl, rfl, rfl, h1, r1⟩ := trodAll_cons r0
  obtain ⟨v2, vs2, d2, ds2, p2, q2, rfl, rfl, rfl, h2, r2⟩ := trodAll_cons r1
  obtain ⟨v3, vs3, d3, ds3, p3, q3, rfl, rfl, rfl, h3, r3⟩ := trodAll_cons r2
  obtain ⟨rfl, rfl, rfl⟩ := trodAll_nil r3
  obtain rfl : args = #[v0, v1, v2, v3] := by cases args; simp_all
  obtain ⟨rfl, rfl⟩ := trodVars_none hV
  obtain ⟨a0, n0, c0, l0, rfl, hl0, hm0, hi0, hz0, hw0⟩ := open_rows (hval 0 22 v0 rfl rfl) h0
  obtain ⟨a1, n1, c1, l1, rfl, hl1, hm1, hi1, hz1, hw1⟩ := open_evs (hval 1 23 v1 rfl rfl) h1
  obtain ⟨a2, n2, c2, l2, rfl, hl2, hm2, hi2, hz2, hw2⟩ := open_lgs (hval 2 24 v2 rfl rfl) h2
  obtain ⟨a3, n3, c3, l3, rfl, hl3, hm3, hi3, hz3, hw3⟩ := open_tms (hval 3 25 v3 rfl rfl) h3
  refine orderFits_c a0 n0 c0 l0 a1 n1 c1 l1 a2 n2 c2 l2 a3 n3 c3 l3 W _ hl0 hm0 hi0 hz0 hw0 hl1 hm1 hi1 hz1 hw1 hl2 hm2 hi2 hz2 hw2 hl3 hm3 hi3 hz3 hw3 fun W' bel => ?_
  exact ⟨_, rfl, law_post Try.laidOut bel rfl hW' hA1 (by kernel_rfl) rfl Try.underlying4 rfl rfl rfl⟩

theorem fits_holds : Rows.OrderFitsSaid :=
  OpenClaim.holds_of_wide 4 Try.f4 rfl rfl rfl rfl rfl rfl rfl ⟨rfl, rfl, rfl, rfl, rfl⟩ rfl rfl rfl rfl rfl (by kernel_rfl) Try.func4 (by kernel_rfl)
    (of_decide_eq_true (by kernel_rfl)) (by unfold Func.isWrapper; rw [if_neg (of_decide_eq_false (by kernel_rfl))]; exact ⟨rfl, rfl⟩)
    (fun os started H enc _ => fits_holds_lifted os started H enc)

end Go.Proofs.Ytaopfoicdjejnaa
