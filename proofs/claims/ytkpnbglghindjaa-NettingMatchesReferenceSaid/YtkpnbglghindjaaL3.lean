/- For any balances and payments, Net and Pay return the same results as the reference implementation (at most 45 balances and 60 payments). -/
import Derived.Test.YtkpnbglghindjaaF2
import Derived.Test.YtkpnbglghindjaaC10
import Derived.Test.YtkpnbglghindjaaM2
set_option linter.unusedVariables false
set_option linter.unusedSimpArgs false
namespace Go.Proofs.Ytkpnbglghindjaa
open Go.ChangeShapes Go.WideShapes Go.ChangeAt Go.RowKit Math

set_option maxRecDepth 100000 in
set_option maxHeartbeats 2000000 in
theorem matches_c (p : Option Addr) (n cap : Nat) (b : List Int) (q : Option Addr) (m cap' : Nat) (l : List Tr) (w : World) (R) (hn : b.length = n) (hl : n ≤ maxLen) (h : IntsAt .i64 w p b) (hz : p = none → n = 0) (_hw : ∀ x ∈ b, (Lit.int .i64 x).wf = true)
    (hm : l.length = m) (hlm : m ≤ maxLen) (ht : TrsAt w q l) (_hz' : q = none → m = 0) (_ : True)
    (hR : ∀ w', Below w.heap.size w w' → R (.returned (.bool true)) w') : Calls Try.prog 3 #[.slice p n cap, .slice q m cap'] w R := by
  have Hn := hide hn; have Hm := hide hm; have HR := hide hR; have H := hide h; have T := hide ht; have Hz := hide hz
  clear hn hm hR h ht hz _hw
  unfold maxLen at hl hlm
  by_cases hbig : 45 < n ∨ 60 < m
  · rcases hbig with h1 | h1
    · go_enter Try.func3, Try.ntmps3
      go_wp2_with (go_at_call 10; refine Stop.out ?_)
      refine Stop.go (head_c _ _ ?_)
      intro w1 B1
      replace B1 := hide B1
      go_wp2_with fail
      exact HR.out _ B1.out
    · by_cases h2 : 45 < n
      all_goals
        go_enter Try.func3, Try.ntmps3
        go_wp2_with (go_at_call 10; refine Stop.out ?_)
        refine Stop.go (head_c _ _ ?_)
        intro w1 B1
        replace B1 := hide B1
        go_wp2_with fail
        exact HR.out _ B1.out
  · obtain ⟨hn45, hm60⟩ : n ≤ 45 ∧ m ≤ 60 := by omega
    clear hbig
    go_enter Try.func3, Try.ntmps3
    go_wp2_with (go_at_call 10; refine Stop.out ?_)
    refine Stop.go (head_c _ _ ?_)
    intro w1 B1
    have H1 := hide (H.out.keep (Keeps.of_below B1)); have T1 := hide (T.out.keep (Keeps.of_below B1))
    replace B1 := hide B1
    go_wp2_with (go_at_call 11; refine Stop.out ?_)
    refine Stop.go (net_c p n cap b _ _ Hn.out (by unfold maxLen; omega) H1.out Hz.out ?_)
    intro v2 w2 b2 o2
    obtain ⟨p2, cap2, rfl, _⟩ := own_val o2
    have S2 := hide (TrsAt.of_own o2)
    have H2 := hide (H1.out.keep (Keeps.of_below b2)); have T2 := hide (T1.out.keep (Keeps.of_below b2))
    have B2 := hide (bseq B1.out b2)
    clear b2 o2
    go_wp2_with (go_at_call 12; refine Stop.out ?_)
    refine Stop.go (RNet_c p n cap b _ _ Hn.out (by unfold maxLen; omega) H2.out ?_)
    intro v3 w3 b3 o3
    obtain ⟨p3, cap3, rfl, _⟩ := own_val o3
    have S3 := hide (TrsAt.of_own o3)
    have S23 := hide (S2.out.keep (Keeps.of_below b3))
    have H3 := hide (H2.out.keep (Keeps.of_below b3)); have T3 := hide (T2.out.keep (Keeps.of_below b3))
    have B3 := hide (bseq B2.out b3)
    clear b3 o3
    have hq : (netList b).length ≤ 45 := by
      unfold netList
      split
      · rename_i he
        have hs : b.sum = 0 := by
          unfold netErr at he
          split at he
          · cases he
          · split at he
            · cases he
            · rename_i h; exact Classical.not_not.1 h
        have h1 := net_few b hs
        have h2 := nz_le'' b
        have := Hn.out
        omega
      · simp
    generalize netList b = ts at *
    generalize netErr b = er at *
    generalize hq2 : ts.length = k at *
    have Hq := hide hq2
    clear hq2
    have hee : (er == er) = true := by simp
    go_wp2_with (go_at_call 13; refine Stop.out ?_)
    refine Stop.go (same_c p2 p3 k k cap2 cap3 ts ts _ _ Hq.out Hq.out (by unfold maxLen; omega) (by unfold maxLen; omega) S23.out S3.out ?_)
    intro w4 d4
    rw [decide_eq_true rfl]
    have H4 := hide (H3.out.keep d4.keeps); have T4 := hide (T3.out.keep d4.keeps)
    have B4 := hide (B3.out.trans d4.below)
    clear d4
    go_wp2_with (go_at_call 15; refine Stop.out ?_)
    refine Stop.go (Pay_c p q n m cap cap' b l _ _ Hn.out Hm.out (by omega) (by unfold maxLen; omega) H4.out Hz.out T4.out ?_)
    intro v5 w5 b5 o5
    obtain ⟨p5, cap5, rfl, _⟩ := own_val o5
    have S5 := hide (IntsAt.of_own o5)
    have H5 := hide (H4.out.keep (Keeps.of_below b5)); have T5 := hide (T4.out.keep (Keeps.of_below b5))
    have B5 := hide (bseq B4.out b5)
    clear b5 o5
    go_wp2_with (go_at_call 16; refine Stop.out ?_)
    refine Stop.go (RPay_c p q n m cap cap' b l _ _ Hn.out Hm.out (by omega) (by unfold maxLen; omega) H5.out T5.out ?_)
    intro v6 w6 b6 o6
    obtain ⟨p6, cap6, rfl, _⟩ := own_val o6
    have S6 := hide (IntsAt.of_own o6)
    have S56 := hide (S5.out.keep (Keeps.of_below b6))
    have B6 := hide (bseq B5.out b6)
    clear b6 o6
    have hr : (payRes b l).length ≤ 45 := by
      unfold payRes
      split
      · simp
      · rw [length_payAll, Hn.out]; exact hn45
    generalize payRes b l = rs at *
    generalize hr2 : rs.length = k2 at *
    have Hr := hide hr2
    clear hr2
    go_wp2_with (go_at_call 14; refine Stop.out ?_)
    refine Stop.go (ints_c p5 p6 k2 k2 cap5 cap6 rs rs _ _ Hr.out Hr.out (by unfold maxLen; omega) (by unfold maxLen; omega) S56.out S6.out ?_)
    intro w7 d7
    rw [decide_eq_true rfl]
    have B7 := hide (B6.out.trans d7.below)
    clear d7
    go_wp2_with fail
    exact HR.out _ B7.out
where
  nz_le'' (l : List Int) : nz l ≤ l.length := by
    induction l with
    | nil => simp [nz]
    | cons a l ih => simp only [nz, List.length_cons]; split <;> omega

set_option maxRecDepth 100000 in
theorem matches_holds_lifted (os : Os) (started : os.Started) (H : Type) (enc : TypeId × Value → H) :
    ReturnsInHanded {} Try.checked os 3 .any (Rows.nettingMatchesReferenceSpec.pre6 enc Try.prog Try.f3 Rows.nettingMatchesReferenceRow.domain false) (Rows.nettingMatchesReferenceSpec.post enc Try.prog Try.f3 false true false false) := by
  refine returnsInHanded_of_change (C := Try.checked) Try.own started (by kernel_rfl) Try.func3
    (ChangeSpec.witness6 (enc := enc) (C := Try.checked) false ⟨#[], #[.slice none 0 0, .slice none 0 0], []⟩ 8 (by kernel_rfl) (by kernel_rfl) (by kernel_rfl) (by kernel_rfl)) ?_
  intro W base args ds gs before hval0 hW hcnd _
  have hval : ∀ (j : Nat) t v, Try.f3.params[j]? = some t → args[j]? = some v → Value.okWide Try.prog W .any base t v := hval0
  have hW' := hW
  obtain ⟨p, q, hA0, hV, rfl, hfz, hnd⟩ := hW
  have hA : DataW.TrodAll enc Try.prog W 0 (fun _ => true) true Try.f3.params.toList args.toList ds p := hA0
  have hA1 := hA
  rw [Try.params3] at hA hval
  obtain ⟨v0, vs0, d0, ds0, p0, q0, hargs, rfl, rfl, h0, r0⟩ := trodAll_cons hA
  obtain ⟨v1, vs1, d1, ds1, p1, q1, rfl, rfl, rfl, h1, r1⟩ := trodAll_cons r0
  obtain ⟨rfl, rfl, rfl⟩ := trodAll_nil r1
  obtain rfl : args = #[v0, v1] := by cases args; simp_all
  obtain ⟨rfl, rfl⟩ := trodVars_none hV
  obtain ⟨a0, n0, c0, l0, rfl, hl0, hm0, hi0, hz0, hw0⟩ := open_ints' Try.underlying22 Try.underlying3 (by kernel_rfl) (hval 0 22 v0 rfl rfl) h0
  obtain ⟨a1, n1, c1, l1, rfl, hl1, hm1, hi1, hz1, hw1⟩ := open_trs (hval 1 23 v1 rfl rfl) h1
  refine matches_c a0 n0 c0 l0 a1 n1 c1 l1 W _ hl0 hm0 hi0 hz0 hw0 hl1 hm1 hi1 hz1 hw1 fun W' bel => ?_
  exact ⟨_, rfl, law_post Try.laidOut bel rfl hW' hA1 (by kernel_rfl) rfl Try.underlying4 rfl rfl rfl⟩

theorem matches_holds : Rows.NettingMatchesReferenceSaid :=
  OpenClaim.holds_of_wide 3 Try.f3 rfl rfl rfl rfl rfl rfl rfl ⟨rfl, rfl, rfl, rfl, rfl⟩ rfl rfl rfl rfl rfl (by kernel_rfl) Try.func3 (by kernel_rfl)
    (of_decide_eq_true (by kernel_rfl)) (by unfold Func.isWrapper; rw [if_neg (of_decide_eq_false (by kernel_rfl))]; exact ⟨rfl, rfl⟩)
    (fun os started H enc _ => matches_holds_lifted os started H enc)

end Go.Proofs.Ytkpnbglghindjaa
