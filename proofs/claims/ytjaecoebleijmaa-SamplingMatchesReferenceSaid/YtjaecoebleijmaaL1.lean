/- SamplingMatchesReference: for any numbers and values both functions answer as the reference. -/
import Derived.Test.YtjaecoebleijmaaC7
import Derived.Test.YtjaecoebleijmaaC8
import Derived.Test.YtjaecoebleijmaaFr
set_option linter.unusedVariables false
set_option linter.unusedSimpArgs false
namespace Go.Proofs.Ytjaecoebleijmaa
open Go.ChangeShapes Go.WideShapes Go.ChangeAt Go.RowKit

theorem estR_form (n step first most : Int) (l : List Int) : ∃ x y e, estR n step first most l = .tuple #[.int .i64 x, .int .i64 y, .int .i64 e] := by
  unfold estR; split
  · exact ⟨_, _, _, rfl⟩
  · exact ⟨_, _, _, rfl⟩

/-- The second half: both estimates, and the comparison, behind two equal lists. -/
theorem matches_c (n step first most : Int) (p : Option Addr) (m cap : Nat) (l : List Int) (w : World) (R) (hw0 : (Lit.int .i64 n).wf = true) (hw1 : (Lit.int .i64 step).wf = true) (hw2 : (Lit.int .i64 first).wf = true) (hw3 : (Lit.int .i64 most).wf = true)
    (hm : l.length = m) (hl : m ≤ maxLen) (h : IntsAt .i64 w p l) (_hz : p = none → m = 0) (_hw : ∀ x ∈ l, (Lit.int .i64 x).wf = true)
    (hR : ∀ w', Below w.heap.size w w' → R (.returned (.bool true)) w') : Calls Try.prog 3 #[.int .i64 n, .int .i64 step, .int .i64 first, .int .i64 most, .slice p m cap] w R := by
  have Hm := hide hm; have HR := hide hR; have H := hide h
  clear hm hR h _hw hw0 hw1 hw2 hw3 _hz
  unfold maxLen at hl
  by_cases h1 : 3000 < n ∧ n ≤ 1000000
  · obtain ⟨h1, h2⟩ := h1
    go_enter Try.func3, Try.ntmps3
    go_wp2_with (go_at_call 9; refine Stop.out ?_)
    refine Stop.go (head_c _ _ ?_)
    intro w1 B1
    replace B1 := hide B1
    go_wp2_with fail
    exact HR.out _ B1.out
  · by_cases h3 : 3000 < m
    · by_cases h4 : 3000 < n
      · have h5 : ¬ n ≤ 1000000 := fun h => h1 ⟨h4, h⟩
        clear h1
        go_enter Try.func3, Try.ntmps3
        go_wp2_with (go_at_call 9; refine Stop.out ?_)
        refine Stop.go (head_c _ _ ?_)
        intro w1 B1
        replace B1 := hide B1
        go_wp2_with fail
        exact HR.out _ B1.out
      · clear h1
        go_enter Try.func3, Try.ntmps3
        go_wp2_with (go_at_call 9; refine Stop.out ?_)
        refine Stop.go (head_c _ _ ?_)
        intro w1 B1
        replace B1 := hide B1
        go_wp2_with fail
        exact HR.out _ B1.out
    · have Hn := hide (show validB n step first = true → n ≤ 3000 from fun hv => by have := valid_true hv; omega)
      have H1 := hide h1
      obtain ⟨x, y, e, hE⟩ := estR_form n step first most l
      have HE := hide hE
      clear hE
      have key : (3000 < n ∧ ¬ n ≤ 1000000) ∨ ¬ 3000 < n := by omega
      clear h1
      rcases key with ⟨h4, h5⟩ | h4
      all_goals
        cases hv : validB n step first with
        | false =>
          have Hv := hide hv; clear hv
          go_enter Try.func3, Try.ntmps3
          go_wp2_with (go_at_call 9; refine Stop.out ?_)
          refine Stop.go (head_c _ _ ?_)
          intro w1 B1
          have I1 := hide (H.out.keep (Keeps.of_below B1))
          replace B1 := hide B1
          go_wp2_with (go_at_call 10; refine Stop.out ?_)
          refine Stop.go (chosen_bad _ _ _ Hv.out _ _ ?_)
          go_wp2_with (go_at_call 11; refine Stop.out ?_)
          refine Stop.go (refChosen_bad _ _ _ Hv.out _ _ ?_)
          go_wp2_with (go_at_call 12; refine Stop.out ?_)
          refine Stop.go (estimate_c n step first most p m cap l _ _ Hn.out Hm.out (by unfold maxLen; omega) I1.out ?_)
          intro w2 b2
          rw [HE.out]
          have I2 := hide (I1.out.keep (Keeps.of_below b2)); have B2 := hide (bseq B1.out b2); clear b2
          go_wp2_with (go_at_call 13; refine Stop.out ?_)
          refine Stop.go (refEstimate_c n step first most p m cap l _ _ Hn.out Hm.out (by unfold maxLen; omega) I2.out ?_)
          intro w3 b3
          rw [HE.out]
          have B3 := hide (bseq B2.out b3); clear b3
          go_wp2_with (go_at_call 14; refine Stop.out ?_)
          refine Stop.go (ints_c none none 0 0 0 0 [] [] _ _ rfl rfl (by decide) (by decide) IntsAt.nil IntsAt.nil ?_)
          intro w4 hd
          have B4 := hide (B3.out.trans hd.below); clear hd
          rw [decide_eq_true rfl]
          go_wp2_with fail
          exact HR.out _ B4.out
        | true =>
          have Hv := hide hv; clear hv
          have hcl : cnt n step first ≤ 3000 := by have := cnt_le Hv.out; have := Hn.out Hv.out; omega
          go_enter Try.func3, Try.ntmps3
          go_wp2_with (go_at_call 9; refine Stop.out ?_)
          refine Stop.go (head_c _ _ ?_)
          intro w1 B1
          have I1 := hide (H.out.keep (Keeps.of_below B1))
          replace B1 := hide B1
          go_wp2_with (go_at_call 10; refine Stop.out ?_)
          refine Stop.go (chosen_c _ _ _ Hv.out _ _ ?_)
          intro va wa oa ba
          obtain ⟨pa, ca, rfl, _⟩ := own_val oa
          have Oa := hide (IntsAt.of_own oa); have Ia := hide (I1.out.keep (Keeps.of_below ba)); have Ba := hide (bseq B1.out ba); clear oa ba
          rw [sq_len]
          go_wp2_with (go_at_call 11; refine Stop.out ?_)
          refine Stop.go (refChosen_c _ _ _ Hv.out _ _ ?_)
          intro vb wb ob bb
          obtain ⟨pb, cb, rfl, _⟩ := own_val ob
          have Ob := hide (IntsAt.of_own ob); have Ib := hide (Ia.out.keep (Keeps.of_below bb)); have Bb := hide (bseq Ba.out bb); have Oa2 := hide (Oa.out.keep (Keeps.of_below bb)); clear ob bb
          rw [sq_len]
          go_wp2_with (go_at_call 12; refine Stop.out ?_)
          refine Stop.go (estimate_c n step first most p m cap l _ _ Hn.out Hm.out (by unfold maxLen; omega) Ib.out ?_)
          intro w2 b2
          rw [HE.out]
          have I2 := hide (Ib.out.keep (Keeps.of_below b2)); have B2 := hide (bseq Bb.out b2)
          have Oa3 := hide (Oa2.out.keep (Keeps.of_below b2)); have Ob3 := hide (Ob.out.keep (Keeps.of_below b2)); clear b2
          go_wp2_with (go_at_call 13; refine Stop.out ?_)
          refine Stop.go (refEstimate_c n step first most p m cap l _ _ Hn.out Hm.out (by unfold maxLen; omega) I2.out ?_)
          intro w3 b3
          rw [HE.out]
          have B3 := hide (bseq B2.out b3)
          have Oa4 := hide (Oa3.out.keep (Keeps.of_below b3)); have Ob4 := hide (Ob3.out.keep (Keeps.of_below b3)); clear b3
          have hsl := hide (sq_len n step first)
          generalize sq n step first = s at *
          generalize cnt n step first = c at *
          go_wp2_with (go_at_call 14; refine Stop.out ?_)
          refine Stop.go (ints_c pa pb c c ca cb s s _ _ hsl.out hsl.out (by unfold maxLen; omega) (by unfold maxLen; omega) Oa4.out Ob4.out ?_)
          intro w4 hd
          have B4 := hide (B3.out.trans hd.below); clear hd
          rw [decide_eq_true rfl]
          go_wp2_with fail
          exact HR.out _ B4.out

set_option maxRecDepth 100000 in
theorem matches_holds_lifted (os : Os) (started : os.Started) (H : Type) (enc : TypeId × Value → H) :
    ReturnsInHanded {} Try.checked os 3 .any (Rows.samplingMatchesReferenceSpec.pre6 enc Try.prog Try.f3 Rows.samplingMatchesReferenceRow.domain false) (Rows.samplingMatchesReferenceSpec.post enc Try.prog Try.f3 false true false false) := by
  refine returnsInHanded_of_change (C := Try.checked) Try.own started (by kernel_rfl) Try.func3
    (ChangeSpec.witness6 (enc := enc) (C := Try.checked) false ⟨#[], #[.int .i64 0, .int .i64 0, .int .i64 0, .int .i64 0, .slice none 0 0], []⟩ 8 (by kernel_rfl) (by kernel_rfl) (by kernel_rfl) (by kernel_rfl)) ?_
  intro W base args ds gs before hval0 hW hcnd _
  have hval : ∀ (j : Nat) t v, Try.f3.params[j]? = some t → args[j]? = some v → Value.okWide Try.prog W .any base t v := hval0
  have hW' := hW
  obtain ⟨p, q, hA0, hV, rfl, hfz, hnd⟩ := hW
  have hA : DataW.TrodAll enc Try.prog W 0 (fun _ => true) true Try.f3.params.toList args.toList ds p := hA0
  have hA1 := hA
  rw [Try.params3] at hA hval
  obtain ⟨v0, vs0, d0, ds0, p0, q0, hargs, rfl, rfl, h0, r0⟩ := trodAll_cons hA
  obtain ⟨v1, vs1, d1, ds1, p1, q1, rfl, rfl, rfl, h1, r1⟩ := trodAll_cons r0
  obtain ⟨v2, vs2, d2, ds2, p2, q2, rfl, rfl, rfl, h2, r2⟩ := trodAll_cons r1
  obtain ⟨v3, vs3, d3, ds3, p3, q3, rfl, rfl, rfl, h3, r3⟩ := trodAll_cons r2
  obtain ⟨v4, vs4, d4, ds4, p4, q4, rfl, rfl, rfl, h4, r4⟩ := trodAll_cons r3
  obtain ⟨rfl, rfl, rfl⟩ := trodAll_nil r4
  obtain rfl : args = #[v0, v1, v2, v3, v4] := by cases args; simp_all
  obtain ⟨rfl, rfl⟩ := trodVars_none hV
  obtain ⟨x0, rfl, _, _, hw0⟩ := open_int Try.underlying3 (hval 0 3 v0 rfl rfl) h0
  obtain ⟨x1, rfl, _, _, hw1⟩ := open_int Try.underlying3 (hval 1 3 v1 rfl rfl) h1
  obtain ⟨x2, rfl, _, _, hw2⟩ := open_int Try.underlying3 (hval 2 3 v2 rfl rfl) h2
  obtain ⟨x3, rfl, _, _, hw3⟩ := open_int Try.underlying3 (hval 3 3 v3 rfl rfl) h3
  obtain ⟨a4, n4, c4, l4, rfl, hl4, hm4, hi4, hz4, hw4⟩ := open_ints' Try.underlying22 Try.underlying3 (by kernel_rfl) (hval 4 22 v4 rfl rfl) h4
  refine matches_c x0 x1 x2 x3 a4 n4 c4 l4 W _ hw0 hw1 hw2 hw3 hl4 hm4 hi4 hz4 hw4 fun W' bel => ?_
  exact ⟨_, rfl, law_post Try.laidOut bel rfl hW' hA1 (by kernel_rfl) rfl Try.underlying4 rfl rfl rfl⟩

theorem matches_holds : Rows.SamplingMatchesReferenceSaid :=
  OpenClaim.holds_of_wide 3 Try.f3 rfl rfl rfl rfl rfl rfl rfl ⟨rfl, rfl, rfl, rfl, rfl⟩ rfl rfl rfl rfl rfl (by kernel_rfl) Try.func3 (by kernel_rfl)
    (of_decide_eq_true (by kernel_rfl)) (by unfold Func.isWrapper; rw [if_neg (of_decide_eq_false (by kernel_rfl))]; exact ⟨rfl, rfl⟩)
    (fun os started H enc _ => matches_holds_lifted os started H enc)

end Go.Proofs.Ytjaecoebleijmaa
