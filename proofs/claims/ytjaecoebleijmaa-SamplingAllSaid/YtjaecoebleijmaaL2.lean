/- SamplingAll: with step 1 the estimate is 1000 times the sum and the error bound is 0. -/
import Derived.Test.YtjaecoebleijmaaC8
import Derived.Test.YtjaecoebleijmaaM1
import Derived.Test.YtjaecoebleijmaaFr
set_option linter.unusedVariables false
set_option linter.unusedSimpArgs false
namespace Go.Proofs.Ytjaecoebleijmaa
open Go.ChangeShapes Go.WideShapes Go.ChangeAt Go.RowKit

set_option maxHeartbeats 1000000 in
theorem all_c (n most : Int) (p : Option Addr) (m cap : Nat) (l : List Int) (w : World) (R) (hw0 : (Lit.int .i64 n).wf = true) (hw1 : (Lit.int .i64 most).wf = true)
    (hm : l.length = m) (hl : m ≤ maxLen) (h : IntsAt .u16 w p l) (_hz : p = none → m = 0) (hw : ∀ x ∈ l, (Lit.int .u16 x).wf = true)
    (hR : ∀ w', Below w.heap.size w w' → R (.returned (.bool true)) w') : Calls Try.prog 6 #[.int .i64 n, .int .i64 most, .slice p m cap] w R := by
  have Hm := hide hm; have HR := hide hR; have H := hide h
  have H16 := hide (show ∀ x ∈ l, 0 ≤ x ∧ x ≤ 65535 from fun x hx => wf_u16.1 (hw x hx))
  clear hm hR h hw hw0 hw1 _hz
  unfold maxLen at hl
  by_cases hb : n < 1 ∨ (1 ≤ n ∧ 500 < n) ∨ (1 ≤ n ∧ n ≤ 500 ∧ most < 0) ∨ (1 ≤ n ∧ n ≤ 500 ∧ 0 ≤ most ∧ 60000 < most) ∨ (1 ≤ n ∧ n ≤ 500 ∧ 0 ≤ most ∧ most ≤ 60000 ∧ 500 < m)
  · rcases hb with h1 | ⟨h1, h2⟩ | ⟨h1, h2, h3⟩ | ⟨h1, h2, h3, h4⟩ | ⟨h1, h2, h3, h4, h5⟩
    all_goals
      go_enter Try.func6, Try.ntmps6
      go_wp2_with (go_at_call 9; refine Stop.out ?_)
      refine Stop.go (head_c _ _ ?_)
      intro w1 B1
      replace B1 := hide B1
      go_wp2_with fail
      exact HR.out _ B1.out
  · obtain ⟨h1, h2, h3, h4, h5⟩ : 1 ≤ n ∧ n ≤ 500 ∧ 0 ≤ most ∧ most ≤ 60000 ∧ m ≤ 500 := by omega
    clear hb
    obtain ⟨n, rfl⟩ := Int.eq_ofNat_of_zero_le (show 0 ≤ n by omega)
    go_enter Try.func6, Try.ntmps6
    go_wp2_with (go_at_call 9; refine Stop.out ?_)
    refine Stop.go (head_c _ _ ?_)
    intro w1 B1
    have I1 := hide (H.out.keep (Keeps.of_below B1))
    replace B1 := hide B1
    go_wp2_with (go_at_call 16; refine Stop.out ?_)
    refine Stop.go (values_c n most p m cap l _ _ Hm.out h5 (by omega) I1.out H16.out ⟨h3, h4⟩ ?_)
    intro g w2 b2 o2
    have Hvb := hide (valL_bd (n := n) h3 l)
    have Hvl := hide (valL_len n most l)
    have O2 := hide (IntsAt.of_own o2)
    have B2 := hide (bseq B1.out b2)
    clear b2 o2
    generalize valL n most l = a at *
    have hok := estOk_mk (n := n) (step := 1) (first := 0) (validB_mk (by omega) (by omega) (by omega) (by omega) (by omega) (by omega)) h3 (by omega) (by rw [cnt_one n (by omega)]; exact Hvl.out) Hvb.out
    have hE := estR_true hok
    have hs := sum_bd h3 Hvb.out
    rw [Hvl.out] at hs
    have hs1 : most * (n : Int) ≤ 60000 * 500 := Int.mul_le_mul h4 (by omega) (by omega) (by omega)
    have e1 : est n 1 0 a = 1000 * a.sum := by
      unfold est; rw [cnt_one n (by omega)]; exact Int.mul_ediv_cancel _ (by omega)
    have e2 : estErr n 1 0 most a = 0 := by
      unfold estErr; rw [e1, cnt_one n (by omega), Int.sub_self, Int.sub_self, Int.zero_mul]; omega
    rw [e1, e2] at hE
    have HE := hide hE
    clear hE hok e1 e2
    go_wp2_with (go_at_call 12; refine Stop.out ?_)
    refine Stop.go (estimate_c n 1 0 most _ n n a _ _ (fun _ => by omega) Hvl.out (by unfold maxLen; omega) O2.out ?_)
    intro w3 b3
    rw [HE.out]
    have O3 := hide (O2.out.keep (Keeps.of_below b3))
    have B3 := hide (bseq B2.out b3)
    clear b3
    go_wp2_with (go_at_call 19; refine Stop.out ?_)
    refine Stop.go (total_c _ n n a _ _ Hvl.out (by omega) O3.out (fun x hx => by have := Hvb.out x hx; omega) ?_)
    generalize a.sum = s at *
    go_wp2_with fail
    exact HR.out _ B3.out

set_option maxRecDepth 100000 in
theorem all_holds_lifted (os : Os) (started : os.Started) (H : Type) (enc : TypeId × Value → H) :
    ReturnsInHanded {} Try.checked os 6 .any (Rows.samplingAllSpec.pre6 enc Try.prog Try.f6 Rows.samplingAllRow.domain false) (Rows.samplingAllSpec.post enc Try.prog Try.f6 false true false false) := by
  refine returnsInHanded_of_change (C := Try.checked) Try.own started (by kernel_rfl) Try.func6
    (ChangeSpec.witness6 (enc := enc) (C := Try.checked) false ⟨#[], #[.int .i64 0, .int .i64 0, .slice none 0 0], []⟩ 8 (by kernel_rfl) (by kernel_rfl) (by kernel_rfl) (by kernel_rfl)) ?_
  intro W base args ds gs before hval0 hW hcnd _
  have hval : ∀ (j : Nat) t v, Try.f6.params[j]? = some t → args[j]? = some v → Value.okWide Try.prog W .any base t v := hval0
  have hW' := hW
  obtain ⟨p, q, hA0, hV, rfl, hfz, hnd⟩ := hW
  have hA : DataW.TrodAll enc Try.prog W 0 (fun _ => true) true Try.f6.params.toList args.toList ds p := hA0
  have hA1 := hA
  rw [Try.params6] at hA hval
  obtain ⟨v0, vs0, d0, ds0, p0, q0, hargs, rfl, rfl, h0, r0⟩ := trodAll_cons hA
  obtain ⟨v1, vs1, d1, ds1, p1, q1, rfl, rfl, rfl, h1, r1⟩ := trodAll_cons r0
  obtain ⟨v2, vs2, d2, ds2, p2, q2, rfl, rfl, rfl, h2, r2⟩ := trodAll_cons r1
  obtain ⟨rfl, rfl, rfl⟩ := trodAll_nil r2
  obtain rfl : args = #[v0, v1, v2] := by cases args; simp_all
  obtain ⟨rfl, rfl⟩ := trodVars_none hV
  obtain ⟨x0, rfl, _, _, hw0⟩ := open_int Try.underlying3 (hval 0 3 v0 rfl rfl) h0
  obtain ⟨x1, rfl, _, _, hw1⟩ := open_int Try.underlying3 (hval 1 3 v1 rfl rfl) h1
  obtain ⟨a2, n2, c2, l2, rfl, hl2, hm2, hi2, hz2, hw2⟩ := open_ints' Try.underlying32 Try.underlying39 (by kernel_rfl) (hval 2 32 v2 rfl rfl) h2
  refine all_c x0 x1 a2 n2 c2 l2 W _ hw0 hw1 hl2 hm2 hi2 hz2 hw2 fun W' bel => ?_
  exact ⟨_, rfl, law_post Try.laidOut bel rfl hW' hA1 (by kernel_rfl) rfl Try.underlying4 rfl rfl rfl⟩

theorem all_holds : Rows.SamplingAllSaid :=
  OpenClaim.holds_of_wide 6 Try.f6 rfl rfl rfl rfl rfl rfl rfl ⟨rfl, rfl, rfl, rfl, rfl⟩ rfl rfl rfl rfl rfl (by kernel_rfl) Try.func6 (by kernel_rfl)
    (of_decide_eq_true (by kernel_rfl)) (by unfold Func.isWrapper; rw [if_neg (of_decide_eq_false (by kernel_rfl))]; exact ⟨rfl, rfl⟩)
    (fun os started H enc _ => all_holds_lifted os started H enc)

end Go.Proofs.Ytjaecoebleijmaa
