/- LedgerFair: a greater share gets no smaller part; of equal shares the earlier one gets as much, or 1 more. -/
import Derived.Test.YtajnoocjjkjfmaaL4
import Derived.BigGuardPart
set_option linter.unusedVariables false
set_option linter.unusedSimpArgs false
namespace Go.Proofs.Ytajnoocjjkjfmaa
open Go.ChangeShapes Go.WideShapes Go.ChangeAt Go.RowKit

theorem wf_u8 {n : Int} (h : (Lit.int .u8 n).wf = true) : 0 ≤ n ∧ n ≤ 255 := by
  simp [Lit.wf, show IntKind.min .u8 = 0 from rfl, show IntKind.max .u8 = 255 from rfl] at h
  exact h
theorem mod_nat {x : Int} {n : Nat} (h : 0 ≤ x) (hn : 0 < n) : ∃ i : Nat, x % (n : Int) = i ∧ i < n := by
  have h1 := Int.emod_nonneg x (show (n : Int) ≠ 0 by omega)
  have h2 := Int.emod_lt_of_pos x (show 0 < (n : Int) by omega)
  obtain ⟨i, hi⟩ := Int.eq_ofNat_of_zero_le h1
  exact ⟨i, hi, by omega⟩

set_option maxRecDepth 100000 in
set_option maxHeartbeats 4000000 in
theorem fair_c (a : Int) (p : Option Addr) (n cap : Nat) (l : List Int) (x y : Int) (w : World) (R) (hw0 : (Lit.int .i64 a).wf = true) (hn : l.length = n) (hl : n ≤ maxLen) (h : IntsAt .i64 w p l) (_hz : p = none → n = 0) (_hw : ∀ x ∈ l, (Lit.int .i64 x).wf = true) (hw1 : (Lit.int .u8 x).wf = true) (hw2 : (Lit.int .u8 y).wf = true)
    (hR : ∀ w', Below w.heap.size w w' → R (.returned (.bool true)) w') : Calls Try.prog 7 #[.int .i64 a, .slice p n cap, .int .u8 x, .int .u8 y] w R := by
  have Hn := hide hn; have HR := hide hR; have H := hide h; have Hl := hide hl
  obtain ⟨x0, x1⟩ := wf_u8 hw1
  obtain ⟨y0, y1⟩ := wf_u8 hw2
  clear hn hR h _hz _hw hw0 hw1 hw2
  unfold maxLen at hl
  by_cases h1 : 100 < n
  · go_enter Try.func7, Try.ntmps7
    go_wp2_with (go_at_call 11; refine Stop.out ?_)
    refine Stop.go (head_c _ _ ?_)
    intro w1 B1
    replace B1 := hide B1
    go_wp2_with fail
    exact HR.out _ B1.out
  · by_cases h0 : n = 0
    · subst h0
      go_enter Try.func7, Try.ntmps7
      go_wp2_with (go_at_call 11; refine Stop.out ?_)
      refine Stop.go (head_c _ _ ?_)
      intro w1 B1
      replace B1 := hide B1
      go_wp2_with fail
      exact HR.out _ B1.out
    · have hn0 : ((n : Int) == 0) = false := by simp; omega
      have hnp : 0 < n := by omega
      clear h0
      cases hok : splitOk a l with
      | false =>
        obtain ⟨e1, e2⟩ := split_no hok
        have E1 := hide e1; have E2 := hide e2
        clear hok e1 e2
        go_enter Try.func7, Try.ntmps7
        go_wp2_with (go_at_call 11; refine Stop.out ?_)
        refine Stop.go (head_c _ _ ?_)
        intro w1 B1
        have I1 := hide (H.out.keep (Keeps.of_below B1))
        replace B1 := hide B1
        go_wp2_with (go_at_call 15; refine Stop.out ?_)
        refine Stop.go (split_b a p n cap l _ _ Hn.out Hl.out I1.out ?_)
        intro p2 c2 w2 hb _
        rw [E1.out, E2.out]
        have B2 := hide (bseq B1.out hb); clear hb
        go_wp2_with fail
        exact HR.out _ B2.out
      | true =>
        have HE := hide (split_yes hok)
        have hlen := hide (split_len hok)
        obtain ⟨i, hi, hin⟩ := mod_nat x0 hnp
        obtain ⟨j, hj, hjn⟩ := mod_nat y0 hnp
        have hat := hide (fun i (hi : i < l.length) => split_at hok hi)
        have hbdp := hide (fun i (hi : i < l.length) => part_bd hok hi)
        have hgt := hide (fun (hg : l.getD j 0 < l.getD i 0) => part_greater hok (i := i) (j := j) (by rw [Hn.out]; exact hin) (by rw [Hn.out]; exact hjn) hg)
        have heq := hide (fun (he : l.getD i 0 = l.getD j 0) (hij : i ≤ j) => part_equal (a := a) (i := i) (j := j) (by rw [Hn.out]; exact hin) (by rw [Hn.out]; exact hjn) he hij)
        have HI := hide hi; have HJ := hide hj
        clear hok hi hj
        go_enter Try.func7, Try.ntmps7
        go_wp2_with (go_at_call 11; refine Stop.out ?_)
        refine Stop.go (head_c _ _ ?_)
        intro w1 B1
        have I1 := hide (H.out.keep (Keeps.of_below B1))
        replace B1 := hide B1
        go_wp2_with (go_at_call 15; refine Stop.out ?_)
        refine Stop.go (split_b a p n cap l _ _ Hn.out Hl.out I1.out ?_)
        intro p2 c2 w2 hb i2
        rw [HE.out, hlen.out, Hn.out]
        have B2 := hide (bseq B1.out hb); have I2 := hide (I1.out.keep (Keeps.of_below hb)); have S2 := hide i2; clear hb i2 I1
        obtain ⟨b, o, xi, rfl, hxi, hci⟩ := I2.out.at_ (i := i) (by rw [Hn.out]; exact hin)
        obtain ⟨b1, o1, xj, hq, hxj, hcj⟩ := I2.out.at_ (i := j) (by rw [Hn.out]; exact hjn)
        cases hq
        obtain ⟨b', o', vi, rfl, hvi, hdi⟩ := S2.out.at_ (i := i) (by rw [hlen.out, Hn.out]; exact hin)
        obtain ⟨b1', o1', vj, hq, hvj, hdj⟩ := S2.out.at_ (i := j) (by rw [hlen.out, Hn.out]; exact hjn)
        cases hq
        have hpi : part a l (lft a l) i = vi := by
          have := hat.out i (by rw [Hn.out]; exact hin)
          rw [hvi] at this; injection this with this; exact this.symm
        have hpj : part a l (lft a l) j = vj := by
          have := hat.out j (by rw [Hn.out]; exact hjn)
          rw [hvj] at this; injection this with this; exact this.symm
        have hgt2 := hide hgt.out; have heq2 := hide heq.out
        rw [getD_of hxi, getD_of hxj, hpi, hpj] at hgt2 heq2
        obtain ⟨bj1, bj2⟩ := hbdp.out j (by rw [Hn.out]; exact hjn)
        rw [hpj] at bj1 bj2
        have hwj := wrap_small (x := vj + 1) (by omega)
        clear hxi hxj hvi hvj hpi hpj
        go_wp2
        rw [HI.out, HJ.out]
        have hcases : (xi ≠ xj ∧ ¬ (xj < xi ∧ vi < vj)) ∨ (xi = xj ∧ j < i) ∨ (xi = xj ∧ i ≤ j ∧ vi = vj) ∨ (xi = xj ∧ i ≤ j ∧ vi ≠ vj ∧ vi = vj + 1) := by
          by_cases he : xi = xj
          · rcases Nat.lt_or_ge j i with h2 | h2
            · exact .inr (.inl ⟨he, h2⟩)
            · rcases heq2.out he h2 with h3 | h3
              · exact .inr (.inr (.inl ⟨he, h2, h3⟩))
              · exact .inr (.inr (.inr ⟨he, h2, by omega, h3⟩))
          · exact .inl ⟨he, fun ⟨h2, h3⟩ => by have := hgt2.out h2; omega⟩
        rcases hcases with ⟨he, hno⟩ | ⟨he, h2⟩ | ⟨he, h2, h3⟩ | ⟨he, h2, h3, h4⟩
        · have he1 : (xi != xj) = true := by simpa using he
          by_cases hg : xj < xi
          · have hv1 : decide (vi < vj) = false := decide_eq_false (fun h => hno ⟨hg, h⟩)
            have hg1 : decide (xj < xi) = true := decide_eq_true hg
            clear hno he
            go_quiet (fail)
            go_wp2
            go_quiet (fail)
            go_wp2
            exact HR.out _ (by first | exact below_drewN' (below_drewN' B2.out _) _ | exact below_drewN' B2.out _)
          · have hg1 : decide (xj < xi) = false := decide_eq_false hg
            clear hno he
            go_quiet (fail)
            go_wp2
            go_quiet (fail)
            go_wp2
            exact HR.out _ (by first | exact below_drewN' (below_drewN' B2.out _) _ | exact below_drewN' B2.out _)
        · subst he
          have he1 : (xi != xi) = false := by simp
          have hg1 : decide (xi < xi) = false := decide_eq_false (by omega)
          have h5 : decide (j < i) = true := decide_eq_true (by omega)
          go_quiet (fail)
          go_wp2
          go_quiet (fail)
          go_wp2
          exact HR.out _ (by first | exact below_drewN' (below_drewN' B2.out _) _ | exact below_drewN' B2.out _)
        · subst he
          have he1 : (xi != xi) = false := by simp
          have hg1 : decide (xi < xi) = false := decide_eq_false (by omega)
          have h5 : decide (j < i) = false := decide_eq_false (by omega)
          have h6 : (vi == vj) = true := by simpa using h3
          clear h3
          go_quiet (fail)
          go_wp2
          go_quiet (fail)
          go_wp2
          exact HR.out _ (by first | exact below_drewN' (below_drewN' B2.out _) _ | exact below_drewN' B2.out _)
        · subst he
          have he1 : (xi != xi) = false := by simp
          have hg1 : decide (xi < xi) = false := decide_eq_false (by omega)
          have h5 : decide (j < i) = false := decide_eq_false (by omega)
          have h6 : (vi == vj) = false := by simp; omega
          have h7 : (vi == vj + 1) = true := by simp; omega
          clear h3 h4
          go_quiet (fail)
          go_wp2
          go_quiet (fail)
          go_wp2
          exact HR.out _ (by first | exact below_drewN' (below_drewN' B2.out _) _ | exact below_drewN' B2.out _)

set_option maxRecDepth 100000 in
theorem fair_holds_lifted (os : Os) (started : os.Started) (H : Type) (enc : TypeId × Value → H) :
    ReturnsInHanded {} Try.checked os 7 .any (Rows.ledgerFairSpec.pre6 enc Try.prog Try.f7 Rows.ledgerFairRow.domain false) (Rows.ledgerFairSpec.post enc Try.prog Try.f7 false true false false) := by
  refine returnsInHanded_of_change (C := Try.checked) Try.own started (by kernel_rfl) Try.func7
    (ChangeSpec.witness6 (enc := enc) (C := Try.checked) false ⟨#[], #[.int .i64 0, .slice none 0 0, .int .u8 0, .int .u8 0], []⟩ 8 (by kernel_rfl) (by kernel_rfl) (by kernel_rfl) (by kernel_rfl)) ?_
  intro W base args ds gs before hval0 hW hcnd _
  have hval : ∀ (j : Nat) t v, Try.f7.params[j]? = some t → args[j]? = some v → Value.okWide Try.prog W .any base t v := hval0
  have hW' := hW
  obtain ⟨p, q, hA0, hV, rfl, hfz, hnd⟩ := hW
  have hA : DataW.TrodAll enc Try.prog W 0 (fun _ => true) true Try.f7.params.toList args.toList ds p := hA0
  have hA1 := hA
  rw [Try.params7] at hA hval
  obtain ⟨v0, vs0, d0, ds0, p0, q0, hargs, rfl, rfl, h0, r0⟩ := trodAll_cons hA
  obtain ⟨v1, vs1, d1, ds1, p1, q1, rfl, rfl, rfl, h1, r1⟩ := trodAll_cons r0
  obtain ⟨v2, vs2, d2, ds2, p2, q2, rfl, rfl, rfl, h2, r2⟩ := trodAll_cons r1
  obtain ⟨v3, vs3, d3, ds3, p3, q3, rfl, rfl, rfl, h3, r3⟩ := trodAll_cons r2
  obtain ⟨rfl, rfl, rfl⟩ := trodAll_nil r3
  obtain rfl : args = #[v0, v1, v2, v3] := by cases args; simp_all
  obtain ⟨rfl, rfl⟩ := trodVars_none hV
  obtain ⟨x0, rfl, _, _, hw0⟩ := open_int Try.underlying3 (hval 0 3 v0 rfl rfl) h0
  obtain ⟨a1, n1, c1, l1, rfl, hl1, hm1, hi1, hz1, hw1⟩ := open_ints' Try.underlying23 Try.underlying3 (by kernel_rfl) (hval 1 23 v1 rfl rfl) h1
  obtain ⟨x2, rfl, _, _, hw2⟩ := open_int Try.underlying5 (hval 2 5 v2 rfl rfl) h2
  obtain ⟨x3, rfl, _, _, hw3⟩ := open_int Try.underlying5 (hval 3 5 v3 rfl rfl) h3
  refine fair_c x0 a1 n1 c1 l1 x2 x3 W _ hw0 hl1 hm1 hi1 hz1 hw1 hw2 hw3 fun W' bel => ?_
  exact ⟨_, rfl, law_post Try.laidOut bel rfl hW' hA1 (by kernel_rfl) rfl Try.underlying4 rfl rfl rfl⟩

theorem fair_holds : Rows.LedgerFairSaid :=
  OpenClaim.holds_of_wide 7 Try.f7 rfl rfl rfl rfl rfl rfl rfl ⟨rfl, rfl, rfl, rfl, rfl⟩ rfl rfl rfl rfl rfl (by kernel_rfl) Try.func7 (by kernel_rfl)
    (of_decide_eq_true (by kernel_rfl)) (by unfold Func.isWrapper; rw [if_neg (of_decide_eq_false (by kernel_rfl))]; exact ⟨rfl, rfl⟩)
    (fun os started H enc _ => fair_holds_lifted os started H enc)

end Go.Proofs.Ytajnoocjjkjfmaa
