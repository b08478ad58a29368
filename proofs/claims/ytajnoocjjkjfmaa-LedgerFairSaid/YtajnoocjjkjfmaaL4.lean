/- LedgerSplits: the parts sum to the amount, and each differs from the exact share by less than 1. -/
import Derived.Test.YtajnoocjjkjfmaaP3
import Derived.Test.YtajnoocjjkjfmaaP4
import Derived.Test.YtajnoocjjkjfmaaF2
set_option linter.unusedVariables false
set_option linter.unusedSimpArgs false
namespace Go.Proofs.Ytajnoocjjkjfmaa
open Go.ChangeShapes Go.WideShapes Go.ChangeAt Go.RowKit

theorem split_no {a : Int} {l : List Int} (h : splitOk a l = false) : splitL a l = [] ∧ splitE a l = 1 := by unfold splitL splitE; rw [h]; exact ⟨rfl, rfl⟩
theorem split_yes {a : Int} {l : List Int} (h : splitOk a l = true) : splitE a l = 0 := by unfold splitE; rw [if_pos h]

set_option maxRecDepth 100000 in
set_option maxHeartbeats 4000000 in
theorem splits_c (a : Int) (p : Option Addr) (n cap : Nat) (l : List Int) (w : World) (R) (hw0 : (Lit.int .i64 a).wf = true) (hn : l.length = n) (hl : n ≤ maxLen) (h : IntsAt .i64 w p l) (_hz : p = none → n = 0) (_hw : ∀ x ∈ l, (Lit.int .i64 x).wf = true)
    (hR : ∀ w', Below w.heap.size w w' → R (.returned (.bool true)) w') : Calls Try.prog 6 #[.int .i64 a, .slice p n cap] w R := by
  have Hn := hide hn; have HR := hide hR; have H := hide h; have Hl := hide hl
  clear hn hR h _hz _hw hw0
  unfold maxLen at hl
  by_cases h1 : 100 < n
  · go_enter Try.func6, Try.ntmps6
    go_wp2_with (go_at_call 11; refine Stop.out ?_)
    refine Stop.go (head_c _ _ ?_)
    intro w1 B1
    replace B1 := hide B1
    go_wp2_with fail
    exact HR.out _ B1.out
  · cases hok : splitOk a l with
    | false =>
      obtain ⟨e1, e2⟩ := split_no hok
      have E1 := hide e1; have E2 := hide e2
      clear hok e1 e2
      go_enter Try.func6, Try.ntmps6
      go_wp2_with (go_at_call 11; refine Stop.out ?_)
      refine Stop.go (head_c _ _ ?_)
      intro w1 B1
      have I1 := hide (H.out.keep (Keeps.of_below B1))
      replace B1 := hide B1
      go_wp2_with (go_at_call 15; refine Stop.out ?_)
      refine Stop.go (split_b a p n cap l _ _ Hn.out Hl.out I1.out ?_)
      intro p2 c2 w2 hb _
      rw [E1.out, E2.out]
      have B2 := hide (bseq B1.out hb); clear hb
      go_wp2_with fail
      exact HR.out _ B2.out
    | true =>
      have hE := split_yes hok
      obtain ⟨h1', h2', _, hx0, hs0, hs1⟩ := splitOk_true hok
      have hbd := hide (show Bd 1000000000000000 l from fun x hx => by have := hx0 x hx; omega)
      have hbd2 := hide (show Bd 1000000000000000 (splitL a l) from fun x hx => by
        obtain ⟨i, hi⟩ := List.getElem?_of_mem hx
        have hil : i < l.length := by have := (List.getElem?_eq_some_iff.1 hi).1; rw [split_len hok] at this; exact this
        rw [split_at hok hil] at hi
        injection hi with hi
        have h3 := flo_nonneg hok hil
        have h4 := part_bd hok hil
        have h5 := part_exact (a := a) hs0 hil
        have h6 := flo_rmd a l i
        have h7 := rmd_bd (a := a) hs0 i
        have hxx := hx0 _ (List.mem_of_getElem? (List.getElem?_eq_getElem hil))
        have h8 := (prod_bd ⟨h1', h2'⟩ hxx).2
        rw [← hi]
        have h9 : part a l (lft a l) i ≤ part a l (lft a l) i * l.sum := by
          have := Int.mul_le_mul_of_nonneg_left (show (1 : Int) ≤ l.sum by omega) h4.1
          omega
        have h10 : l.getD i 0 = l[i] := getD_of (List.getElem?_eq_getElem hil)
        rw [h10] at h5
        refine ⟨by omega, ?_⟩
        have h11 : flo a l i ≤ flo a l i * l.sum := by
          have := Int.mul_le_mul_of_nonneg_left (show (1 : Int) ≤ l.sum by omega) h3.1
          omega
        rw [h10] at h6
        rcases Int.lt_or_le (part a l (lft a l) i) (1000000000000001) with h12 | h12
        · omega
        · exfalso
          have h13 : (1000000000000001 : Int) * l.sum ≤ part a l (lft a l) i * l.sum := Int.mul_le_mul_of_nonneg_right h12 (by omega)
          omega)
      have hsum := hide (split_sum hok)
      have hlen := hide (split_len hok)
      have hat := hide (fun i (hi : i < l.length) => split_at hok hi)
      have hfacts := hide (fun i (hi : i < l.length) => (⟨part_bd hok hi, part_exact (a := a) hs0 hi, part_zero_share hok hi⟩ : _ ∧ _ ∧ _))
      have HE := hide hE
      have hxs := hide hx0
      clear hok hE hx0
      generalize hsv : l.sum = s at *
      have Hs := hide hsv; clear hsv
      go_enter Try.func6, Try.ntmps6
      go_wp2_with (go_at_call 11; refine Stop.out ?_)
      refine Stop.go (head_c _ _ ?_)
      intro w1 B1
      have I1 := hide (H.out.keep (Keeps.of_below B1))
      replace B1 := hide B1
      go_wp2_with (go_at_call 15; refine Stop.out ?_)
      refine Stop.go (split_b a p n cap l _ _ Hn.out Hl.out I1.out ?_)
      intro p2 c2 w2 hb i2
      rw [HE.out, hlen.out, Hn.out]
      have B2 := hide (bseq B1.out hb); have I2 := hide (I1.out.keep (Keeps.of_below hb)); have S2 := hide i2; clear hb i2 I1
      go_wp2_with (go_at_call 23; refine Stop.out ?_)
      refine Stop.go (sum_c p n cap l _ _ Hn.out (by omega) I2.out hbd.out ?_)
      rw [Hs.out]
      go_wp2_with (go_at_call 23; refine Stop.out ?_)
      refine Stop.go (sum_c p2 n c2 (splitL a l) _ _ (by rw [hlen.out]; exact Hn.out) (by omega) S2.out hbd2.out ?_)
      rw [hsum.out]
      go_wp2_with fail
      go_loopw [9, 10] (fun i d wr => ∃ k q : Nat, k ≤ n ∧ i = .int .i64 k ∧ wr = w2.drewN q) (fun i _ _ => n - (intOf i).toNat)
      case atStart => exact ⟨0, 0, Nat.zero_le _, rfl, rfl⟩
      case round =>
        obtain ⟨k, q, hk, rfl, rfl⟩ := hrel
        by_cases hlt : k < n
        · obtain ⟨b, o, x, rfl, hx, hc⟩ := I2.out.at_ (i := k) (by rw [Hn.out]; exact hlt)
          obtain ⟨b', o', v, rfl, hv, hc'⟩ := S2.out.at_ (i := k) (by rw [hlen.out, Hn.out]; exact hlt)
          have hxb := hxs.out x (List.mem_of_getElem? hx)
          have hpv : part a l (lft a l) k = v := by
            have := hat.out k (by rw [Hn.out]; exact hlt)
            rw [hv] at this; injection this with this; exact this.symm
          obtain ⟨f1, f2, f3⟩ := hfacts.out k (by rw [Hn.out]; exact hlt)
          rw [getD_of hx] at f2 f3
          rw [hpv] at f1 f2 f3
          obtain ⟨hp1, hp2⟩ := prod_bd ⟨h1', h2'⟩ hxb
          obtain ⟨f21, f22⟩ := f2
          have F3 := hide f3
          have f11 := f1.1
          have hw1 := wrap_small (x := v * s) (by omega)
          have hw2 := wrap_small (x := a * x) (by omega)
          have hw3 := wrap_small (x := v * s - a * x) (by omega)
          obtain ⟨hx1, hx2⟩ := hxb
          clear hx hv hpv f3 f1
          go_wp2
          go_quiet (fail)
          clear hw1 hw2 hw3
          generalize v * s - a * x = d at *
          by_cases h0 : x = 0
          · have hv0 : v = 0 := F3.out h0
            subst h0; subst hv0
            go_wp2
            go_roundw
            case rel => exact ⟨k + 1, _, by omega, by go_num, (by first | rfl | exact World.drewN_drewN _ _ _)⟩
            case measure => simp [intOf]; omega
          · have hx00 : (x == 0) = false := by simpa using h0
            clear h0
            go_wp2
            go_roundw
            case rel => exact ⟨k + 1, _, by omega, by go_num, (by first | rfl | exact World.drewN_drewN _ _ _)⟩
            case measure => simp [intOf]; omega
        · have B3 := hide (below_drewN' B2.out q)
          go_wp2
          exact HR.out _ B3.out

set_option maxRecDepth 100000 in
theorem splits_holds_lifted (os : Os) (started : os.Started) (H : Type) (enc : TypeId × Value → H) :
    ReturnsInHanded {} Try.checked os 6 .any (Rows.ledgerSplitsSpec.pre6 enc Try.prog Try.f6 Rows.ledgerSplitsRow.domain false) (Rows.ledgerSplitsSpec.post enc Try.prog Try.f6 false true false false) := by
  refine returnsInHanded_of_change (C := Try.checked) Try.own started (by kernel_rfl) Try.func6
    (ChangeSpec.witness6 (enc := enc) (C := Try.checked) false ⟨#[], #[.int .i64 0, .slice none 0 0], []⟩ 8 (by kernel_rfl) (by kernel_rfl) (by kernel_rfl) (by kernel_rfl)) ?_
  intro W base args ds gs before hval0 hW hcnd _
  have hval : ∀ (j : Nat) t v, Try.f6.params[j]? = some t → args[j]? = some v → Value.okWide Try.prog W .any base t v := hval0
  have hW' := hW
  obtain ⟨p, q, hA0, hV, rfl, hfz, hnd⟩ := hW
  have hA : DataW.TrodAll enc Try.prog W 0 (fun _ => true) true Try.f6.params.toList args.toList ds p := hA0
  have hA1 := hA
  rw [Try.params6] at hA hval
  obtain ⟨v0, vs0, d0, ds0, p0, q0, hargs, rfl, rfl, h0, r0⟩ := trodAll_cons hA
  obtain ⟨v1, vs1, d1, ds1, p1, q1, rfl, rfl, rfl, h1, r1⟩ := trodAll_cons r0
  obtain ⟨rfl, rfl, rfl⟩ := trodAll_nil r1
  obtain rfl : args = #[v0, v1] := by cases args; simp_all
  obtain ⟨rfl, rfl⟩ := trodVars_none hV
  obtain ⟨x0, rfl, _, _, hw0⟩ := open_int Try.underlying3 (hval 0 3 v0 rfl rfl) h0
  obtain ⟨a1, n1, c1, l1, rfl, hl1, hm1, hi1, hz1, hw1⟩ := open_ints' Try.underlying23 Try.underlying3 (by kernel_rfl) (hval 1 23 v1 rfl rfl) h1
  refine splits_c x0 a1 n1 c1 l1 W _ hw0 hl1 hm1 hi1 hz1 hw1 fun W' bel => ?_
  exact ⟨_, rfl, law_post Try.laidOut bel rfl hW' hA1 (by kernel_rfl) rfl Try.underlying4 rfl rfl rfl⟩

theorem splits_holds : Rows.LedgerSplitsSaid :=
  OpenClaim.holds_of_wide 6 Try.f6 rfl rfl rfl rfl rfl rfl rfl ⟨rfl, rfl, rfl, rfl, rfl⟩ rfl rfl rfl rfl rfl (by kernel_rfl) Try.func6 (by kernel_rfl)
    (of_decide_eq_true (by kernel_rfl)) (by unfold Func.isWrapper; rw [if_neg (of_decide_eq_false (by kernel_rfl))]; exact ⟨rfl, rfl⟩)
    (fun os started H enc _ => splits_holds_lifted os started H enc)

end Go.Proofs.Ytajnoocjjkjfmaa
