/- SamplingError: the estimate differs from 1000 times the sum of all values by at most the error bound, and the bound is reached. -/
import Derived.Test.YtjaecoebleijmaaC8
import Derived.Test.YtjaecoebleijmaaM1
import Derived.Test.YtjaecoebleijmaaFr
set_option linter.unusedVariables false
set_option linter.unusedSimpArgs false
namespace Go.Proofs.Ytjaecoebleijmaa
open Go.ChangeShapes Go.WideShapes Go.ChangeAt Go.RowKit

set_option maxHeartbeats 1000000 in
theorem error_c (n step first most : Int) (p : Option Addr) (m cap : Nat) (l : List Int) (w : World) (R) (hw0 : (Lit.int .i64 n).wf = true) (hw1 : (Lit.int .i64 step).wf = true) (hw2 : (Lit.int .i64 first).wf = true) (hw3 : (Lit.int .i64 most).wf = true)
    (hm : l.length = m) (hl : m ≤ maxLen) (h : IntsAt .u16 w p l) (_hz : p = none → m = 0) (hw : ∀ x ∈ l, (Lit.int .u16 x).wf = true)
    (hR : ∀ w', Below w.heap.size w w' → R (.returned (.bool true)) w') : Calls Try.prog 5 #[.int .i64 n, .int .i64 step, .int .i64 first, .int .i64 most, .slice p m cap] w R := by
  have Hm := hide hm; have HR := hide hR; have H := hide h
  have H16 := hide (show ∀ x ∈ l, 0 ≤ x ∧ x ≤ 65535 from fun x hx => wf_u16.1 (hw x hx))
  clear hm hR h hw hw0 hw1 hw2 hw3 _hz
  unfold maxLen at hl
  cases hf : (decide (n ≤ 500) && validB n step first) with
  | false =>
    have Hf := hide hf; clear hf
    go_enter Try.func5, Try.ntmps5
    go_wp2_with (go_at_call 9; refine Stop.out ?_)
    refine Stop.go (head_c _ _ ?_)
    intro w1 B1
    replace B1 := hide B1
    go_wp2_with (go_at_call 15; refine fine_c _ _ _ _ _ ?_; rw [Hf.out])
    exact HR.out _ B1.out
  | true =>
    have Hf := hide hf
    rw [Bool.and_eq_true, decide_eq_true_eq] at hf
    obtain ⟨hn5, hv⟩ := hf
    have Hv := hide hv; clear hv
    by_cases hb : most < 0 ∨ (0 ≤ most ∧ 60000 < most) ∨ (0 ≤ most ∧ most ≤ 60000 ∧ 500 < m)
    · rcases hb with h1 | ⟨h1, h2⟩ | ⟨h1, h2, h3⟩
      all_goals
        go_enter Try.func5, Try.ntmps5
        go_wp2_with (go_at_call 9; refine Stop.out ?_)
        refine Stop.go (head_c _ _ ?_)
        intro w1 B1
        replace B1 := hide B1
        go_wp2_with (go_at_call 15; refine fine_c _ _ _ _ _ ?_; rw [Hf.out])
        exact HR.out _ B1.out
    · obtain ⟨h1, h2, h3⟩ : 0 ≤ most ∧ most ≤ 60000 ∧ m ≤ 500 := by omega
      clear hb
      obtain ⟨v1, v2, v3, v4, v5, v6⟩ := valid_true Hv.out
      obtain ⟨n, rfl⟩ := Int.eq_ofNat_of_zero_le (show 0 ≤ n by omega)
      obtain ⟨_, hcl, hsub⟩ := chosen_vals Hv.out most l
      have hva := valL_bd (n := n) h1 l
      have hvl := valL_len n most l
      have hcb : Bd most (pickL (valL n most l) (sq n step first)) := fun x hx => hva x (hsub.subset hx)
      have hss := sub_sum h1 hsub hva
      rw [hcl, hvl] at hss
      have hok := estOk_mk Hv.out h1 (by omega) hcl hcb
      have hE := estR_true hok
      have hbd := est_bd (by omega) hok
      have hge := est_ge Hv.out hbd.1
      have c1 := cnt_le Hv.out
      have c0 := cnt_pos Hv.out
      have hD : (n - (cnt n step first : Int)) * most = most * n - most * (cnt n step first : Int) := by rw [Int.sub_mul, Int.mul_comm (n : Int) most, Int.mul_comm (cnt n step first : Int) most]
      have hsl := sq_len n step first
      have hse : estErr n step first most (pickL (valL n most l) (sq n step first)) = max (est n step first (pickL (valL n most l) (sq n step first)) - 1000 * (pickL (valL n most l) (sq n step first)).sum) (1000 * ((pickL (valL n most l) (sq n step first)).sum + (n - (cnt n step first : Int)) * most) - est n step first (pickL (valL n most l) (sq n step first))) := rfl
      have hsi : ∀ x ∈ sq n step first, (Lit.int .i64 x).wf = true := fun x hx => by
        obtain ⟨k, hk, rfl⟩ := List.mem_map.1 hx
        have hk' : k < cnt n step first := by simpa using hk
        have := (cnt_iff (by omega) (by omega) k).1 hk'
        have h0 : 0 ≤ (k : Int) * step := Int.mul_nonneg (by omega) (by omega)
        exact wf_i64.2 ⟨by omega, by omega⟩
      have hvs : 0 ≤ (valL n most l).sum ∧ (valL n most l).sum ≤ 30000000 := by
        have := sum_bd h1 hva
        rw [hvl] at this
        have : most * (n : Int) ≤ 60000 * 500 := Int.mul_le_mul h2 (by omega) (by omega) (by omega)
        omega
      generalize hcd : pickL (valL n most l) (sq n step first) = ch at *
      generalize hal : valL n most l = al at *
      generalize hsq : sq n step first = sqq at *
      generalize cnt n step first = c at *
      have Hcd := hide hcd; have Hal := hide hal; have Hsq := hide hsq; have Hsl := hide hsl; have Hvl := hide hvl; have Hcl := hide hcl; have Hcb := hide hcb; have Hva := hide hva
      have HE := hide hE; have Hsi := hide hsi
      clear hcd hal hsq hsl hvl hcl hcb hva hE hok hsub hsi
      generalize est n step first ch = E at *
      generalize estErr n step first most ch = Y at *
      generalize hDD : ((n : Int) - (c : Int)) * most = D at *
      have HDD := hide hDD; clear hDD
      have Hse := hide hse; clear hse
      have HD := hide hD; clear hD
      go_enter Try.func5, Try.ntmps5
      go_wp2_with (go_at_call 9; refine Stop.out ?_)
      refine Stop.go (head_c _ _ ?_)
      intro w1 B1
      have I1 := hide (H.out.keep (Keeps.of_below B1))
      replace B1 := hide B1
      go_wp2_with (first | (go_at_call 15; refine fine_c _ _ _ _ _ ?_; rw [Hf.out]) | (go_at_call 16; refine Stop.out ?_))
      refine Stop.go (values_c n most p m cap l _ _ Hm.out h3 (by omega) I1.out H16.out ⟨h1, h2⟩ ?_)
      intro g w2 b2 o2
      rw [Hal.out] at o2
      have O2 := hide (IntsAt.of_own o2)
      have B2 := hide (bseq B1.out b2)
      clear b2 o2
      go_wp2_with (go_at_call 10; refine Stop.out ?_)
      refine Stop.go (chosen_c _ _ _ Hv.out _ _ ?_)
      intro v3 w3 o3 b3
      rw [Hsq.out, Hsl.out] at o3
      obtain ⟨p3, cap3, rfl, _⟩ := own_val o3
      have O3 := hide (O2.out.keep (Keeps.of_below b3))
      have S3 := hide (IntsAt.of_own o3)
      have B3 := hide (bseq B2.out b3)
      clear b3 o3
      go_wp2_with (go_at_call 17; refine Stop.out ?_)
      refine Stop.go (picked_c _ p3 n c _ cap3 al sqq _ _ Hvl.out Hsl.out (by omega) (by omega) O3.out S3.out Hsi.out ?_)
      intro v4 w4 b4 o4
      rw [Hcd.out] at o4
      rw [Hcl.out] at o4
      obtain ⟨p4, cap4, rfl, _⟩ := own_val o4
      have O4 := hide (O3.out.keep (Keeps.of_below b4))
      have C4 := hide (IntsAt.of_own o4)
      have B4 := hide (bseq B3.out b4)
      clear b4 o4
      go_wp2_with (go_at_call 12; refine Stop.out ?_)
      refine Stop.go (estimate_c n step first most p4 c cap4 ch _ _ (fun _ => by omega) Hcl.out (by unfold maxLen; omega) C4.out ?_)
      intro w5 b5
      rw [HE.out]
      have O5 := hide (O4.out.keep (Keeps.of_below b5))
      have C5 := hide (C4.out.keep (Keeps.of_below b5))
      have B5 := hide (bseq B4.out b5)
      clear b5
      go_wp2_with (go_at_call 19; refine Stop.out ?_)
      refine Stop.go (total_c _ n n al _ _ Hvl.out (by omega) O5.out (fun x hx => by have := Hva.out x hx; omega) ?_)
      generalize al.sum = s at *
      generalize hcs : ch.sum = cs at *
      have Hcs := hide hcs; clear hcs
      go_wp2_with (go_at_call 18; refine Stop.out ?_)
      refine Stop.go (apart_c _ _ _ _ (by omega) (by omega) ?_)
      have hD := HD.out
      have hY : Y = max (E - 1000 * cs) (1000 * (cs + D) - E) := Hse.out
      have hd0 : max E (1000 * s) - min E (1000 * s) ≤ Y := by omega
      have hd1 : max E (1000 * cs) - min E (1000 * cs) ≤ Y := by omega
      have hd2 : max E (1000 * (cs + D)) - min E (1000 * (cs + D)) ≤ Y := by omega
      have hd3 : max E (1000 * cs) - min E (1000 * cs) = Y ∨ max E (1000 * (cs + D)) - min E (1000 * (cs + D)) = Y := by omega
      have HY := hide hY
      clear hY hss hge hD
      generalize max E (1000 * s) - min E (1000 * s) = d0 at *
      have Hd3 := hide hd3; clear hd3
      have HDm := hide (show most * ((n : Int) - (c : Int)) = D by rw [Int.mul_comm]; exact HDD.out)
      have hwm : IntKind.i64.wrap (most * ((n : Int) - (c : Int))) = D := by rw [HDm.out]; exact IntWalk.i64_in _ (by omega)
      go_wp2_with (go_at_call 19; refine Stop.out ?_)
      refine Stop.go (total_c _ c cap4 _ _ _ Hcl.out (by omega) C5.out (fun x hx => by have := Hcb.out x hx; omega) ?_)
      rw [Hcs.out]
      go_wp2_with (go_at_call 18; refine Stop.out ?_)
      refine Stop.go (apart_c _ _ _ _ (by omega) (by omega) ?_)
      generalize hd1e : max E (1000 * cs) - min E (1000 * cs) = d1 at *
      have Hd1e := hide hd1e; clear hd1e
      go_wp2_with (go_at_call 18; refine Stop.out ?_)
      refine Stop.go (apart_c _ _ _ _ (by omega) (by omega) ?_)
      generalize hd2e : max E (1000 * (cs + D)) - min E (1000 * (cs + D)) = d2 at *
      have Hd2e := hide hd2e; clear hd2e
      go_wp2_with (go_at_call 18; refine Stop.out ?_)
      refine Stop.go (apart_c _ _ _ _ (by omega) (by omega) ?_)
      rw [Hd1e.out]
      by_cases hq : d1 = Y
      · subst hq
        go_wp2_with fail
        exact HR.out _ B5.out
      · have hq2 : d2 = Y := by rcases Hd3.out with h | h; exact absurd h hq; exact h
        subst hq2
        go_wp2_with (go_at_call 18; refine Stop.out ?_)
        refine Stop.go (apart_c _ _ _ _ (by omega) (by omega) ?_)
        rw [Hd2e.out]
        go_wp2_with fail
        exact HR.out _ B5.out

set_option maxRecDepth 100000 in
theorem error_holds_lifted (os : Os) (started : os.Started) (H : Type) (enc : TypeId × Value → H) :
    ReturnsInHanded {} Try.checked os 5 .any (Rows.samplingErrorSpec.pre6 enc Try.prog Try.f5 Rows.samplingErrorRow.domain false) (Rows.samplingErrorSpec.post enc Try.prog Try.f5 false true false false) := by
  refine returnsInHanded_of_change (C := Try.checked) Try.own started (by kernel_rfl) Try.func5
    (ChangeSpec.witness6 (enc := enc) (C := Try.checked) false ⟨#[], #[.int .i64 0, .int .i64 0, .int .i64 0, .int .i64 0, .slice none 0 0], []⟩ 8 (by kernel_rfl) (by kernel_rfl) (by kernel_rfl) (by kernel_rfl)) ?_
  intro W base args ds gs before hval0 hW hcnd _
  have hval : ∀ (j : Nat) t v, Try.f5.params[j]? = some t → args[j]? = some v → Value.okWide Try.prog W .any base t v := hval0
  have hW' := hW
  obtain ⟨p, q, hA0, hV, rfl, hfz, hnd⟩ := hW
  have hA : DataW.TrodAll enc Try.prog W 0 (fun _ => true) true Try.f5.params.toList args.toList ds p := hA0
  have hA1 := hA
  rw [Try.params5] at hA hval
  obtain ⟨v0, vs0, d0, ds0, p0, q0, hargs, rfl, rfl, h0, r0⟩ := trodAll_cons hA
  obtain ⟨v1, vs1, d1, ds1, p1, q1, rfl, rfl, rfl, h1, r1⟩ := trodAll_cons r0
  obtain ⟨v2, vs2, d2, ds2, p2, q2, rfl, rfl, rfl, h2, r2⟩ := trodAll_cons r1
  obtain ⟨v3, vs3, d3, ds3, p3, q3, rfl, rfl, rfl, h3, r3⟩ := trodAll_cons r2
  obtain ⟨v4, vs4, d4, ds4, p4, q4, rfl, rfl, rfl, h4, r4⟩ := trodAll_cons r3
  obtain ⟨rfl, rfl, rfl⟩ := trodAll_nil r4
  obtain rfl : args = #[v0, v1, v2, v3, v4] := by cases args; simp_all
  obtain ⟨rfl, rfl⟩ := trodVars_none hV
  obtain ⟨x0, rfl, _, _, hw0⟩ := open_int Try.underlying3 (hval 0 3 v0 rfl rfl) h0
  obtain ⟨x1, rfl, _, _, hw1⟩ := open_int Try.underlying3 (hval 1 3 v1 rfl rfl) h1
  obtain ⟨x2, rfl, _, _, hw2⟩ := open_int Try.underlying3 (hval 2 3 v2 rfl rfl) h2
  obtain ⟨x3, rfl, _, _, hw3⟩ := open_int Try.underlying3 (hval 3 3 v3 rfl rfl) h3
  obtain ⟨a4, n4, c4, l4, rfl, hl4, hm4, hi4, hz4, hw4⟩ := open_ints' Try.underlying32 Try.underlying39 (by kernel_rfl) (hval 4 32 v4 rfl rfl) h4
  refine error_c x0 x1 x2 x3 a4 n4 c4 l4 W _ hw0 hw1 hw2 hw3 hl4 hm4 hi4 hz4 hw4 fun W' bel => ?_
  exact ⟨_, rfl, law_post Try.laidOut bel rfl hW' hA1 (by kernel_rfl) rfl Try.underlying4 rfl rfl rfl⟩

theorem error_holds : Rows.SamplingErrorSaid :=
  OpenClaim.holds_of_wide 5 Try.f5 rfl rfl rfl rfl rfl rfl rfl ⟨rfl, rfl, rfl, rfl, rfl⟩ rfl rfl rfl rfl rfl (by kernel_rfl) Try.func5 (by kernel_rfl)
    (of_decide_eq_true (by kernel_rfl)) (by unfold Func.isWrapper; rw [if_neg (of_decide_eq_false (by kernel_rfl))]; exact ⟨rfl, rfl⟩)
    (fun os started H enc _ => error_holds_lifted os started H enc)

end Go.Proofs.Ytjaecoebleijmaa
