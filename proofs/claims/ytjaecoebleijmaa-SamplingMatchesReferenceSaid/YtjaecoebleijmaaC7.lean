import Derived.Test.YtjaecoebleijmaaC6
set_option linter.unusedVariables false
set_option linter.unusedSimpArgs false
namespace Go.Proofs.Ytjaecoebleijmaa
open Go.RowKit

theorem est_two (n s m : Int) (hm : 1 ≤ m) : 1000 * n * (s / m) + 1000 * n * (s % m) / m = 1000 * s * n / m := by
  have h1 : 1000 * s * n = 1000 * n * (s % m) + m * (1000 * n * (s / m)) := by
    have h := Int.emod_add_mul_ediv s m
    rw [show 1000 * s * n = 1000 * n * s by rw [Int.mul_assoc, Int.mul_comm s n, ← Int.mul_assoc]]
    conv => lhs; rw [← h]
    rw [Int.mul_add, Int.mul_left_comm (1000 * n) m]
  rw [h1, Int.add_mul_ediv_left _ _ (by omega)]
  omega

theorem any_take_false {l : List Int} {f : Int → Bool} {k : Nat} {x : Int} (h : (l.take k).any f = false) (hx : l[k]? = some x) (hf : f x = false) : (l.take (k + 1)).any f = false := by
  rw [List.take_add_one, hx]; simp only [Option.toList, List.any_append, h, List.any_cons, List.any_nil, hf, Bool.or_false]

set_option maxHeartbeats 1000000 in
theorem refEstimate_c (n step first most : Int) (p : Option Addr) (m cap : Nat) (l : List Int) (w : World) (R) (hn : validB n step first = true → n ≤ 3000) (hm : l.length = m) (hl : m ≤ maxLen) (h : IntsAt .i64 w p l)
    (hR : ∀ w', Below w.heap.size w w' → R (.returned (estR n step first most l)) w') : Calls Try.prog 13 #[.int .i64 n, .int .i64 step, .int .i64 first, .int .i64 most, .slice p m cap] w R := by
  have Hm := hide hm; have H := hide h; have Hn := hide hn
  clear hm h hn
  cases hv : validB n step first with
  | false =>
    have hok : estOk n step first most l = false := by unfold estOk; rw [hv]; rfl
    rw [estR_false hok] at hR
    have HR := hide hR
    have Hv := hide hv; clear hR hok hv
    go_enter Try.func13, Try.ntmps13
    go_wp2_with (go_at_call 11; refine refChosen_bad _ _ _ Hv.out _ _ ?_)
    go_ret3
    exact HR.out _ (Below.refl _ _)
  | true =>
    have Hv := hide hv; clear hv
    have hcl : cnt n step first ≤ 2000000 := by have := cnt_le Hv.out; obtain ⟨v1, v2, v3, v4, v5, v6⟩ := valid_true Hv.out; omega
    by_cases h0 : most < 0
    · have hok : estOk n step first most l = false := by
        cases h : estOk n step first most l with
        | false => rfl
        | true => have := estOk_true h; omega
      rw [estR_false hok] at hR
      have HR := hide hR; clear hR hok
      go_enter Try.func13, Try.ntmps13
      go_wp2_with (go_at_call 11; refine Stop.out ?_)
      refine Stop.go (refChosen_c _ _ _ Hv.out _ _ ?_)
      intro v w1 ho hb
      obtain ⟨q, cap', rfl, _⟩ := own_val ho
      rw [sq_len]
      go_wp2_with fail
      go_ret3
      exact HR.out _ hb
    · by_cases h1 : 1000000 < most
      · have hok : estOk n step first most l = false := by
          cases h : estOk n step first most l with
          | false => rfl
          | true => have := estOk_true h; omega
        rw [estR_false hok] at hR
        have HR := hide hR; clear hR hok
        go_enter Try.func13, Try.ntmps13
        go_wp2_with (go_at_call 11; refine Stop.out ?_)
        refine Stop.go (refChosen_c _ _ _ Hv.out _ _ ?_)
        intro v w1 ho hb
        obtain ⟨q, cap', rfl, _⟩ := own_val ho
        rw [sq_len]
        go_wp2_with fail
        go_ret3
        exact HR.out _ hb
      · by_cases h2 : m = cnt n step first
        · have hv3 := Hn.out Hv.out
          obtain ⟨v1, v2, v3, v4, v5, v6⟩ := valid_true Hv.out
          have c1 := cnt_le Hv.out
          have c0 := cnt_pos Hv.out
          have HR := hide hR; clear hR
          have H2 := hide h2
          go_enter Try.func13, Try.ntmps13
          go_wp2_with (go_at_call 11; refine Stop.out ?_)
          refine Stop.go (refChosen_c _ _ _ Hv.out _ _ ?_)
          intro v w1 ho hb
          have Hb := hide hb; clear hb
          obtain ⟨q, cap', rfl, _⟩ := own_val ho
          rw [sq_len, ← h2]
          rw [← h2] at c1 c0 hcl
          clear h2 ho
          have hmm : ((m : Int) != (m : Int)) = false := by simp
          go_wp2_with fail
          clear hmm
          go_loop [15] (fun i => ∃ k : Nat, k ≤ m ∧ i = .int .i64 k ∧ Hid ((l.take k).any (wrongB most) = false)) (fun i => m - (intOf i).toNat)
          case atStart => exact ⟨0, Nat.zero_le _, rfl, hide (by simp)⟩
          case round =>
            obtain ⟨k, hk, rfl, ha⟩ := hrel
            by_cases hlt : k < m
            · obtain ⟨b, o, x, rfl, hx, hc⟩ := (H.out.keep (Keeps.of_below Hb.out)).at_ (i := k) (by rw [Hm.out]; exact hlt)
              have Hx := hide hx; clear hx
              by_cases hx0 : x < 0
              · have hok : estOk n step first most l = false := by
                  cases h : estOk n step first most l with
                  | false => rfl
                  | true =>
                    have := (estOk_true h).2.2.2.2
                    rw [List.any_eq_false] at this
                    have := this x (List.mem_of_getElem? Hx.out)
                    simp [wrongB, hx0] at this
                have HR' := HR.out
                rw [estR_false hok] at HR'
                have HR2 := hide HR'; clear HR' hok
                go_wp2_with fail
                go_ret3
                exact HR2.out _ Hb.out
              · by_cases hx1 : most < x
                · have hok : estOk n step first most l = false := by
                    cases h : estOk n step first most l with
                    | false => rfl
                    | true =>
                      have := (estOk_true h).2.2.2.2
                      rw [List.any_eq_false] at this
                      have := this x (List.mem_of_getElem? Hx.out)
                      simp [wrongB, hx1] at this
                  have HR' := HR.out
                  rw [estR_false hok] at HR'
                  have HR2 := hide HR'; clear HR' hok
                  go_wp2_with fail
                  go_ret3
                  exact HR2.out _ Hb.out
                · have hw := hide (any_take_false ha.out Hx.out (show wrongB most x = false by simp [wrongB]; omega))
                  go_wp2_with fail
                  go_round
                  case rel => exact ⟨k + 1, by omega, by go_num, hw⟩
                  case measure => simp [intOf]; omega
            · have hkm : l.take k = l := List.take_of_length_le (by rw [Hm.out]; omega)
              rw [hkm] at ha
              clear hkm
              have hok : estOk n step first most l = true := by
                unfold estOk; rw [Hv.out, ha.out, Hm.out, ← H2.out]; simp; omega
              have HR' := HR.out
              rw [estR_true hok] at HR'
              have Hbd := hide (est_bd hv3 hok)
              have Hsb := hide (wrong_bd ha.out)
              unfold estErr est at HR'
              unfold est at Hbd
              rw [← H2.out] at HR' Hbd
              obtain ⟨b1, b2, b3, b4, b5, b6⟩ := Hbd.out
              have HR2 := hide HR'
              clear HR' Hbd hok
              go_wp2_with (go_at_call 19; refine Stop.out ?_)
              refine Stop.go (total_c p m cap l _ _ Hm.out (by omega) (H.out.keep (Keeps.of_below Hb.out)) (fun x hx => by have := Hsb.out x hx; omega) ?_)
              generalize l.sum = s at *
              have He := hide (est_two n s m (by omega))
              have q0 : 0 ≤ s / (m : Int) ∧ s / (m : Int) ≤ s := ⟨Int.ediv_nonneg b1 (by omega), Int.ediv_le_self _ b1⟩
              have r0 : 0 ≤ s % (m : Int) ∧ s % (m : Int) < m := ⟨Int.emod_nonneg _ (by omega), Int.emod_lt_of_pos _ (by omega)⟩
              have p1 : 0 ≤ 1000 * n * (s / (m : Int)) := Int.mul_nonneg (by omega) q0.1
              have p2 : 1000 * n * (s / (m : Int)) ≤ 3000000 * 3000000000 := Int.mul_le_mul (by omega) (by omega) (by omega) (by omega)
              have p3 : 0 ≤ 1000 * n * (s % (m : Int)) := Int.mul_nonneg (by omega) r0.1
              have p4 : 1000 * n * (s % (m : Int)) ≤ 3000000 * 3000 := Int.mul_le_mul (by omega) (by omega) (by omega) (by omega)
              have p5 : 0 ≤ 1000 * n * (s % (m : Int)) / (m : Int) := Int.ediv_nonneg p3 (by omega)
              have p6 : 1000 * n * (s % (m : Int)) / (m : Int) ≤ 1000 * n * (s % (m : Int)) := Int.ediv_le_self _ p3
              rw [Int.mul_comm (n - (m : Int)) most] at b5 b6
              go_wp2_with fail
              go_quiet (fail)
              go_wp2_with fail
              go_ret3
              have HR3 := HR2.out
              rw [← He.out, Int.mul_comm (n - (m : Int)) most] at HR3
              exact HR3 _ (Hb.out.trans (Dr.one _ _).below)
        · have hok : estOk n step first most l = false := by
            cases h : estOk n step first most l with
            | false => rfl
            | true => have := (estOk_true h).2.2.2.1; rw [Hm.out] at this; omega
          rw [estR_false hok] at hR
          have HR := hide hR; clear hR hok
          have Hmc := hide h2
          go_enter Try.func13, Try.ntmps13
          go_wp2_with (go_at_call 11; refine Stop.out ?_)
          refine Stop.go (refChosen_c _ _ _ Hv.out _ _ ?_)
          intro v w1 ho hb
          obtain ⟨q, cap', rfl, _⟩ := own_val ho
          rw [sq_len]
          generalize cnt n step first = c at *
          have hmc : ((m : Int) != (c : Int)) = true := by simp; omega
          clear h2
          go_wp2_with fail
          go_ret3
          exact HR.out _ hb
end Go.Proofs.Ytjaecoebleijmaa
