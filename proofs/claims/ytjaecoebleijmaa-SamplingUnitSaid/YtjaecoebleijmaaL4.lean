/- SamplingUnit: with all values and the greatest one multiplied by a factor, the estimate is the multiple, up to less than the factor. -/
import Derived.Test.YtjaecoebleijmaaC8
import Derived.Test.YtjaecoebleijmaaM1
import Derived.Test.YtjaecoebleijmaaFr
set_option linter.unusedVariables false
set_option linter.unusedSimpArgs false
namespace Go.Proofs.Ytjaecoebleijmaa
open Go.ChangeShapes Go.WideShapes Go.ChangeAt Go.RowKit

theorem sum_mul (k : Int) (l : List Int) : (l.map (k * ·)).sum = k * l.sum := by
  induction l with
  | nil => simp
  | cons x l ih => rw [List.map_cons, List.sum_cons, List.sum_cons, ih, Int.mul_add]
theorem est_unit {n step first : Int} (hv : validB n step first = true) (k : Int) (hk : 1 ≤ k) (l : List Int) : k * est n step first l ≤ est n step first (l.map (k * ·)) ∧ est n step first (l.map (k * ·)) < k * est n step first l + k := by
  have c0 := cnt_pos hv
  unfold est
  rw [sum_mul, show 1000 * (k * l.sum) * n = k * (1000 * l.sum * n) by rw [Int.mul_left_comm, Int.mul_assoc k]]
  generalize 1000 * l.sum * n = a
  generalize hm : (cnt n step first : Int) = m at *
  have hm0 : 0 < m := by omega
  have h1 := Int.emod_add_mul_ediv a m
  have h2 := Int.emod_nonneg a (show m ≠ 0 by omega)
  have h3 := Int.emod_lt_of_pos a hm0
  generalize a / m = q at *
  generalize a % m = r at *
  subst h1
  rw [Int.mul_add, Int.mul_left_comm k m q, Int.add_mul_ediv_left _ _ (show m ≠ 0 by omega)]
  have h4 : 0 ≤ k * r / m := Int.ediv_nonneg (Int.mul_nonneg (by omega) h2) (by omega)
  have h5 : k * r / m < k := by
    rw [Int.ediv_lt_iff_lt_mul hm0]
    exact Int.mul_lt_mul_of_pos_left h3 (by omega)
  omega
theorem bd_mul {k M : Int} (hk : 0 ≤ k) {l : List Int} (h : Bd M l) : Bd (k * M) (l.map (k * ·)) := fun x hx => by
  obtain ⟨y, hy, rfl⟩ := List.mem_map.1 hx
  have := h y hy
  exact ⟨Int.mul_nonneg hk this.1, Int.mul_le_mul_of_nonneg_left this.2 hk⟩

set_option maxHeartbeats 1000000 in
theorem unit_c (n step first most : Int) (p : Option Addr) (m cap : Nat) (l : List Int) (fa : Int) (w : World) (R) (hw0 : (Lit.int .i64 n).wf = true) (hw1 : (Lit.int .i64 step).wf = true) (hw2 : (Lit.int .i64 first).wf = true) (hw3 : (Lit.int .i64 most).wf = true)
    (hm : l.length = m) (hl : m ≤ maxLen) (h : IntsAt .u16 w p l) (_hz : p = none → m = 0) (hw : ∀ x ∈ l, (Lit.int .u16 x).wf = true) (hw5 : (Lit.int .u16 fa).wf = true)
    (hR : ∀ w', Below w.heap.size w w' → R (.returned (.bool true)) w') : Calls Try.prog 8 #[.int .i64 n, .int .i64 step, .int .i64 first, .int .i64 most, .slice p m cap, .int .u16 fa] w R := by
  have Hm := hide hm; have HR := hide hR; have H := hide h
  have H16 := hide (show ∀ x ∈ l, 0 ≤ x ∧ x ≤ 65535 from fun x hx => wf_u16.1 (hw x hx))
  obtain ⟨hf0, hf1⟩ := wf_u16.1 hw5
  clear hm hR h hw hw0 hw1 hw2 hw3 _hz hw5
  unfold maxLen at hl
  cases hf : (decide (n ≤ 500) && validB n step first) with
  | false =>
    have Hf := hide hf; clear hf
    go_enter Try.func8, Try.ntmps8
    go_wp2_with (go_at_call 9; refine Stop.out ?_)
    refine Stop.go (head_c _ _ ?_)
    intro w1 B1
    replace B1 := hide B1
    go_wp2_with (go_at_call 15; refine fine_c _ _ _ _ _ ?_; rw [Hf.out])
    exact HR.out _ B1.out
  | true =>
    have Hf := hide hf
    rw [Bool.and_eq_true, decide_eq_true_eq] at hf
    obtain ⟨hn5, hv⟩ := hf
    have Hv := hide hv; clear hv
    by_cases hb : most < 0 ∨ (0 ≤ most ∧ 1000 < most) ∨ (0 ≤ most ∧ most ≤ 1000 ∧ 500 < m)
    · rcases hb with h1 | ⟨h1, h2⟩ | ⟨h1, h2, h3⟩
      all_goals
        go_enter Try.func8, Try.ntmps8
        go_wp2_with (go_at_call 9; refine Stop.out ?_)
        refine Stop.go (head_c _ _ ?_)
        intro w1 B1
        replace B1 := hide B1
        go_wp2_with (go_at_call 15; refine fine_c _ _ _ _ _ ?_; rw [Hf.out])
        exact HR.out _ B1.out
    · obtain ⟨h1, h2, h3⟩ : 0 ≤ most ∧ most ≤ 1000 ∧ m ≤ 500 := by omega
      clear hb
      obtain ⟨v1, v2, v3, v4, v5, v6⟩ := valid_true Hv.out
      have c1 := cnt_le Hv.out
      have c0 := cnt_pos Hv.out
      have hsl := sq_len n step first
      obtain ⟨k, hk⟩ : ∃ k, k = 1 + fa % 1000 := ⟨_, rfl⟩
      have hk0 : 1 ≤ k ∧ k ≤ 1000 := by omega
      have hva := valL_bd (n := cnt n step first) h1 l
      have hvl := valL_len (cnt n step first) most l
      have hok := estOk_mk Hv.out h1 (by omega) hvl hva
      have hkm : 0 ≤ k * most ∧ k * most ≤ 1000 * 1000 := ⟨Int.mul_nonneg (by omega) h1, Int.mul_le_mul hk0.2 h2 h1 (by omega)⟩
      have hok2 := estOk_mk (l := (valL (cnt n step first) most l).map (k * ·)) Hv.out hkm.1 (by omega) (by rw [List.length_map]; exact hvl) (bd_mul (by omega) hva)
      have hE := estR_true hok
      have hE2 := estR_true hok2
      have hu := est_unit Hv.out k (by omega) (valL (cnt n step first) most l)
      have hbd := est_bd (by omega) hok
      have hbd2 := est_bd (by omega) hok2
      have hkx : 0 ≤ k * est n step first (valL (cnt n step first) most l) := Int.mul_nonneg (by omega) hbd.2.2.1
      generalize hal : valL (cnt n step first) most l = al at *
      generalize hsq : sq n step first = sqq at *
      generalize hcc : cnt n step first = c at *
      have Hal := hide hal; have Hsq := hide hsq; have Hsl := hide hsl; have Hvl := hide hvl; have Hva := hide hva; have Hcc := hide hcc
      have HE := hide hE; have HE2 := hide hE2; have Hk := hide hk
      clear hal hsq hsl hvl hva hE hE2 hok hok2 hcc hk
      generalize est n step first al = E at *
      generalize estErr n step first most al = Y at *
      generalize est n step first (al.map (k * ·)) = E2 at *
      generalize estErr n step first (k * most) (al.map (k * ·)) = Y2 at *
      obtain ⟨-, -, hx0, hx1, -⟩ := hbd
      obtain ⟨-, -, hy0, hy1, -⟩ := hbd2
      obtain ⟨i0, hi0, hz0, hz1, hz2⟩ := info_parts Try.info3'
      go_enter Try.func8, Try.ntmps8
      go_wp2_with (go_at_call 9; refine Stop.out ?_)
      refine Stop.go (head_c _ _ ?_)
      intro w1 B1
      have I1 := hide (H.out.keep (Keeps.of_below B1))
      replace B1 := hide B1
      go_wp2_with (first | (go_at_call 15; refine fine_c _ _ _ _ _ ?_; rw [Hf.out]) | (go_at_call 10; refine Stop.out ?_))
      rw [← Hk.out]
      refine Stop.go (chosen_c _ _ _ Hv.out _ _ ?_)
      intro v3 w3 o3 b3
      rw [Hsq.out, Hsl.out] at o3
      obtain ⟨p3, cap3, rfl, _⟩ := own_val o3
      have I3 := hide (I1.out.keep (Keeps.of_below b3))
      have B3 := hide (bseq B1.out b3)
      clear b3 o3
      go_wp2_with (go_at_call 16; refine Stop.out ?_)
      refine Stop.go (values_c c most p m cap l _ _ Hm.out h3 (by omega) I3.out H16.out ⟨h1, by omega⟩ ?_)
      intro g w4 b4 o4
      rw [Hal.out] at o4
      have A4 := hide (IntsAt.of_own o4)
      have B4 := hide (bseq B3.out b4)
      clear b4 o4
      go_wp2_with fail
      go_loopw [18, 19] (fun v i wr => ∃ j : Nat, j ≤ c ∧ i = .int .i64 j ∧ Hid (wr.ownsRow w4.heap.size 3 1 v ((al.take j).map (k * ·)).length (((al.take j).map (k * ·)).map (Value.int .i64))) ∧ Hid (Below w4.heap.size w4 wr)) (fun _ i _ => c - (intOf i).toNat)
      case atStart => exact ⟨0, Nat.zero_le _, rfl, hide (World.ownsRow_nil ..), hide (Below.refl _ _)⟩
      case round =>
        obtain ⟨j, hj, rfl, Ho, Hb⟩ := hrel
        by_cases hlt : j < c
        · obtain ⟨b, o, x, hq, hx, hc⟩ := (A4.out.keep (Keeps.of_below Hb.out)).at_ (i := j) (by rw [Hvl.out]; exact hlt)
          cases hq
          rw [Nat.zero_add] at hc
          have hxb := Hva.out x (List.mem_of_getElem? hx)
          have hkx1 : 0 ≤ k * x ∧ k * x ≤ 1000 * 1000 := ⟨Int.mul_nonneg (by omega) hxb.1, Int.mul_le_mul hk0.2 (by omega) hxb.1 (by omega)⟩
          have Hs := hide (show (al.take (j + 1)).map (k * ·) = (al.take j).map (k * ·) ++ [k * x] by rw [List.take_add_one, hx]; simp)
          have hlj : ((al.take j).map (k * ·)).length ≤ j := by rw [List.length_map]; exact List.length_take_le _ _
          clear hx
          generalize hpl : (al.take j).map (k * ·) = pl at *
          have Hpl := hide hpl; clear hpl
          go_wp2_with (at_builtin; refine Stop.out ?_)
          refine Stop.go ?_
          refine wpList_app _ rfl (.tmp 68) (.tmp 75) 22 rfl w4.heap.size 3 i0 _ 1 8 Try.underlying22 hi0 hz0 hz1 hz2 rfl (by omega) _ pl.length (pl.map (Value.int .i64)) rfl (Ho.out.alloc _) (some ⟨wr.heap.size, 0, none⟩) 1 1 [.int .i64 (k * x)] rfl ⟨rfl, fun _ => ⟨_, rfl, fun j u hu => ?_⟩⟩ (ints_oneCell .i64 [k * x]) (by unfold maxLen; omega) (by omega) (by simp; have := Hb.out.size; omega) ?_
          · match j, hu with
            | 0, hu => cases hu; exact cell_new
          intro v1 w1 hown1 hg1
          have Hb1 := hide (show Below w4.heap.size w4 w1 from Hb.out.grown (World.grownBy.trans (World.grownBy_alloc _ _ _) hg1) Hb.out.size (fun k hk => (Ho.out.lt k hk).1))
          have Hown1 := hide hown1
          clear hown1 hg1
          go_wp2_with fail
          go_roundw
          case rel => exact ⟨j + 1, by omega, by go_num, hide (by rw [Hs.out]; simpa using Hown1.out), Hb1⟩
          case measure => simp [intOf]; omega
        · have hkm' : al.take j = al := List.take_of_length_le (by rw [Hvl.out]; omega)
          rw [hkm'] at Ho
          clear hkm'
          obtain ⟨pg, capg, hvg, _⟩ := own_val Ho.out
          subst hvg
          have G5 := hide (IntsAt.of_own Ho.out)
          have B5 := hide (bseq B4.out Hb.out)
          have A5 := hide (A4.out.keep (Keeps.of_below Hb.out))
          have Hgl := hide (show (al.map (k * ·)).length = c by rw [List.length_map]; exact Hvl.out)
          rw [Hgl.out]
          generalize al.map (k * ·) = gr at *
          go_wp2_with (go_at_call 12; refine Stop.out ?_)
          refine Stop.go (estimate_c n step first most _ c c al _ _ (fun _ => by omega) Hvl.out (by unfold maxLen; omega) A5.out ?_)
          intro w6 b6
          rw [HE.out]
          have G6 := hide (G5.out.keep (Keeps.of_below b6))
          have B6 := hide (bseq B5.out b6)
          clear b6
          go_wp2_with (go_at_call 12; refine Stop.out ?_)
          refine Stop.go (estimate_c n step first (k * most) pg c capg gr _ _ (fun _ => by omega) Hgl.out (by unfold maxLen; omega) G6.out ?_)
          intro w7 b7
          rw [HE2.out]
          have B7 := hide (bseq B6.out b7)
          clear b7
          go_wp2_with fail
          exact HR.out _ B7.out

set_option maxRecDepth 100000 in
theorem unit_holds_lifted (os : Os) (started : os.Started) (H : Type) (enc : TypeId × Value → H) :
    ReturnsInHanded {} Try.checked os 8 .any (Rows.samplingUnitSpec.pre6 enc Try.prog Try.f8 Rows.samplingUnitRow.domain false) (Rows.samplingUnitSpec.post enc Try.prog Try.f8 false true false false) := by
  refine returnsInHanded_of_change (C := Try.checked) Try.own started (by kernel_rfl) Try.func8
    (ChangeSpec.witness6 (enc := enc) (C := Try.checked) false ⟨#[], #[.int .i64 0, .int .i64 0, .int .i64 0, .int .i64 0, .slice none 0 0, .int .u16 0], []⟩ 8 (by kernel_rfl) (by kernel_rfl) (by kernel_rfl) (by kernel_rfl)) ?_
  intro W base args ds gs before hval0 hW hcnd _
  have hval : ∀ (j : Nat) t v, Try.f8.params[j]? = some t → args[j]? = some v → Value.okWide Try.prog W .any base t v := hval0
  have hW' := hW
  obtain ⟨p, q, hA0, hV, rfl, hfz, hnd⟩ := hW
  have hA : DataW.TrodAll enc Try.prog W 0 (fun _ => true) true Try.f8.params.toList args.toList ds p := hA0
  have hA1 := hA
  rw [Try.params8] at hA hval
  obtain ⟨v0, vs0, d0, ds0, p0, q0, hargs, rfl, rfl, h0, r0⟩ := trodAll_cons hA
  obtain ⟨v1, vs1, d1, ds1, p1, q1, rfl, rfl, rfl, h1, r1⟩ := trodAll_cons r0
  obtain ⟨v2, vs2, d2, ds2, p2, q2, rfl, rfl, rfl, h2, r2⟩ := trodAll_cons r1
  obtain ⟨v3, vs3, d3, ds3, p3, q3, rfl, rfl, rfl, h3, r3⟩ := trodAll_cons r2
  obtain ⟨v4, vs4, d4, ds4, p4, q4, rfl, rfl, rfl, h4, r4⟩ := trodAll_cons r3
  obtain ⟨v5, vs5, d5, ds5, p5, q5, rfl, rfl, rfl, h5, r5⟩ := trodAll_cons r4
  obtain ⟨rfl, rfl, rfl⟩ := trodAll_nil r5
  obtain rfl : args = #[v0, v1, v2, v3, v4, v5] := by cases args; simp_all
  obtain ⟨rfl, rfl⟩ := trodVars_none hV
  obtain ⟨x0, rfl, _, _, hw0⟩ := open_int Try.underlying3 (hval 0 3 v0 rfl rfl) h0
  obtain ⟨x1, rfl, _, _, hw1⟩ := open_int Try.underlying3 (hval 1 3 v1 rfl rfl) h1
  obtain ⟨x2, rfl, _, _, hw2⟩ := open_int Try.underlying3 (hval 2 3 v2 rfl rfl) h2
  obtain ⟨x3, rfl, _, _, hw3⟩ := open_int Try.underlying3 (hval 3 3 v3 rfl rfl) h3
  obtain ⟨a4, n4, c4, l4, rfl, hl4, hm4, hi4, hz4, hw4⟩ := open_ints' Try.underlying32 Try.underlying39 (by kernel_rfl) (hval 4 32 v4 rfl rfl) h4
  obtain ⟨x5, rfl, _, _, hw5⟩ := open_int Try.underlying39 (hval 5 39 v5 rfl rfl) h5
  refine unit_c x0 x1 x2 x3 a4 n4 c4 l4 x5 W _ hw0 hw1 hw2 hw3 hl4 hm4 hi4 hz4 hw4 hw5 fun W' bel => ?_
  exact ⟨_, rfl, law_post Try.laidOut bel rfl hW' hA1 (by kernel_rfl) rfl Try.underlying4 rfl rfl rfl⟩

theorem unit_holds : Rows.SamplingUnitSaid :=
  OpenClaim.holds_of_wide 8 Try.f8 rfl rfl rfl rfl rfl rfl rfl ⟨rfl, rfl, rfl, rfl, rfl⟩ rfl rfl rfl rfl rfl (by kernel_rfl) Try.func8 (by kernel_rfl)
    (of_decide_eq_true (by kernel_rfl)) (by unfold Func.isWrapper; rw [if_neg (of_decide_eq_false (by kernel_rfl))]; exact ⟨rfl, rfl⟩)
    (fun os started H enc _ => unit_holds_lifted os started H enc)

end Go.Proofs.Ytjaecoebleijmaa
