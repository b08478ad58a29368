/- For any well-formed balances and factor from 1 to 10, the balances that are multiplied by it have the same payments, multiplied by it. -/
import Derived.Test.YtkpnbglghindjaaP1
set_option linter.unusedVariables false
set_option linter.unusedSimpArgs false
namespace Go.Proofs.Ytkpnbglghindjaa
open Go.ChangeShapes Go.WideShapes Go.ChangeAt Go.RowKit Math

theorem netErr_scale (l : List Int) (h : I32 l) (c : Int) (h1 : 1 ≤ c) (h2 : c ≤ 10) : netErr ((balL l).map (c * ·)) = 0 := by
  unfold netErr
  rw [if_neg, if_neg (by rw [sum_scale, sum_balL]; simp)]
  rintro (h3 | h3)
  · rw [List.length_map, length_balL] at h3; omega
  · rw [List.any_eq_true] at h3
    obtain ⟨x, hx, hw⟩ := h3
    obtain ⟨y, hy, rfl⟩ := List.mem_map.1 hx
    have hb := balL_bd l h y hy
    have e1 : c * y ≤ 10 * 83751862272 := by
      rcases Int.le_total 0 y with h0 | h0
      · exact Int.mul_le_mul h2 hb.2 h0 (by decide)
      · have := Int.mul_nonneg (show 0 ≤ c by omega) (show 0 ≤ -y by omega)
        rw [Int.mul_neg] at this; omega
    have e2 : -(10 * 83751862272) ≤ c * y := by
      rcases Int.le_total 0 y with h0 | h0
      · have := Int.mul_nonneg (show 0 ≤ c by omega) h0; omega
      · have := Int.mul_le_mul h2 (show -y ≤ 83751862272 by omega) (by omega) (by decide)
        rw [Int.mul_neg] at this; omega
    unfold wrongB maxB at hw
    simp at hw
    omega
theorem netList_scale (l : List Int) (h : I32 l) (c : Int) (h1 : 1 ≤ c) (h2 : c ≤ 10) : netList ((balL l).map (c * ·)) = (netList (balL l)).map (scale c) := by
  rw [netList_balL l h, show netList ((balL l).map (c * ·)) = _ from if_pos (netErr_scale l h c h1 h2), nz_scale c (by omega), loop_scale c (by omega)]

set_option maxRecDepth 100000 in
set_option maxHeartbeats 1000000 in
theorem units_c (p : Option Addr) (n cap : Nat) (l : List Int) (f : Int) (w : World) (R) (hn : l.length = n) (hl : n ≤ maxLen) (h : IntsAt .i32 w p l) (_hz : p = none → n = 0) (hw : ∀ x ∈ l, (Lit.int .i32 x).wf = true)
    (hf : (Lit.int .u8 f).wf = true) (hR : ∀ w', Below w.heap.size w w' → R (.returned (.bool true)) w') : Calls Try.prog 8 #[.slice p n cap, .int .u8 f] w R := by
  have Hn := hide hn; have HR := hide hR; have H := hide h
  have H32 := hide (show I32 l from fun x hx => wf_i32.1 (hw x hx))
  have Hb1 : (balL l).length ≤ 40 := by have := length_balL l; omega
  have Hd := hide (net_dir_balL l H32.out)
  have He := hide (netErr_balL l H32.out)
  have hf40 := few40 l H32.out
  obtain ⟨hf0, hf1⟩ := bounds_u8 hf
  obtain ⟨c, hc⟩ : ∃ c, 1 + f % 10 = c := ⟨_, rfl⟩
  have hc1 : 1 ≤ c ∧ c ≤ 10 := by omega
  have Hc := hide hc
  have Hes := hide (netErr_scale l H32.out c hc1.1 hc1.2)
  have Hls := hide (netList_scale l H32.out c hc1.1 hc1.2)
  have Hbb := hide (balL_Bnd l H32.out)
  obtain ⟨i0, hi0, hz0, hz1, hz2⟩ := info_parts info_int
  clear hn hR h hw hf hc
  go_enter Try.func8, Try.ntmps8
  go_wp2_with (go_at_call 10; refine Stop.out ?_)
  refine Stop.go (head_c _ _ ?_)
  intro w1 B1
  replace B1 := hide B1
  go_wp2_with (go_at_call 17; refine Stop.out ?_)
  refine Stop.go (balanced2_c p n cap l _ _ Hn.out hl (H.out.keep (Keeps.of_below B1.out)) H32.out ?_)
  intro p2 cap2 w2 b2 i2 hp2
  have I2 := hide i2
  have B2 := hide (bseq B1.out b2)
  have Hp2 := hide hp2
  clear b2 i2 hp2
  generalize balL l = b at *
  generalize hm : b.length = m at *
  have Hm := hide hm
  clear hm
  go_wp2_with fail
  rw [Hc.out]
  go_loopw [8, 9] (fun v i wr => ∃ k : Nat, k ≤ m ∧ i = .int .i64 k ∧ Hid (OwnI wr w2.heap.size v ((b.take k).map (c * ·))) ∧ Hid (Below w2.heap.size w2 wr)) (fun _ i _ => m - (intOf i).toNat)
  case atStart => exact ⟨0, Nat.zero_le _, rfl, hide (World.ownsRow_nil ..), hide (Below.refl _ _)⟩
  case round =>
    obtain ⟨k, hk, rfl, Ho, Hb⟩ := hrel
    have Hi := hide (I2.out.keep (Keeps.of_below Hb.out))
    have hlk : ((b.take k).map (c * ·)).length = k := by rw [List.length_map, List.length_take, Hm.out]; omega
    have Hlk := hide hlk
    clear hlk
    by_cases hlt : k < m
    · obtain ⟨b', o, x, rfl, hx, hcell⟩ := Hi.out.at_ (i := k) (by rw [Hm.out]; exact hlt)
      have hxb := Hbb.out x (List.mem_of_getElem? hx)
      have hcx : -837518622720 ≤ c * x ∧ c * x ≤ 837518622720 := by
        have e1 : c * x ≤ 10 * 83751862272 := by
          rcases Int.le_total 0 x with h0 | h0
          · exact Int.mul_le_mul hc1.2 hxb.2 h0 (by decide)
          · have := Int.mul_nonneg (show 0 ≤ c by omega) (show 0 ≤ -x by omega)
            rw [Int.mul_neg] at this; omega
        have e2 : -(10 * 83751862272) ≤ c * x := by
          rcases Int.le_total 0 x with h0 | h0
          · have := Int.mul_nonneg (show 0 ≤ c by omega) h0; omega
          · have := Int.mul_le_mul hc1.2 (show -x ≤ 83751862272 by omega) (by omega) (by decide)
            rw [Int.mul_neg] at this; omega
        omega
      have Hx := hide hx; clear hx
      have Hcell := hide hcell
      go_wp2_with (at_builtin; refine Stop.out ?_)
      refine Stop.go ?_
      refine wpList_app _ rfl (.tmp 28) (.tmp 35) 22 rfl w2.heap.size 3 i0 _ 1 8 Try.underlying22 hi0 hz0 hz1 hz2 rfl (by omega) u8 ((b.take k).map (c * ·)).length (((b.take k).map (c * ·)).map (Value.int .i64)) rfl (Ho.out.alloc _) (some ⟨wr.heap.size, 0, none⟩) 1 1 [.int .i64 (c * x)] rfl ⟨rfl, fun _ => ⟨_, rfl, fun j u hu => ?_⟩⟩ (ints_oneCell .i64 [c * x]) (by rw [Hlk.out]; unfold maxLen; omega) (by rw [Hlk.out]; omega) (by simp; have := Hb.out.size; omega) ?_
      · match j, hu with
        | 0, hu => cases hu; exact cell_new
      intro v1 w3 hown1 hg1
      have hg1' : wr.grownBy w3 u8.ownBlock := World.grownBy.trans (World.grownBy_alloc _ _ _) hg1
      have Hb1' := hide (show Below w2.heap.size w2 w3 from Hb.out.grown hg1' Hb.out.size (fun k hk => (Ho.out.lt k hk).1))
      have Hown1 := hide hown1
      clear hown1 hg1 hg1' hcell
      go_wp2_with fail
      go_roundw
      case rel =>
        refine ⟨k + 1, by omega, by go_num, hide ?_, Hb1'⟩
        have := Hown1.out
        unfold OwnI
        rw [List.take_add_one, Hx.out]
        simpa using this
      case measure => simp [intOf]; omega
    · have hkm : b.take k = b := List.take_of_length_le (by rw [Hm.out]; omega)
      rw [hkm] at Ho
      clear hkm
      obtain ⟨p4, cap4, hv4, hp4⟩ := own_val Ho.out
      subst hv4
      have I4 := hide (IntsAt.of_own Ho.out)
      have B4 := hide (bseq B2.out Hb.out)
      have Hp4 := hide hp4
      clear hp4 Hlk
      have hlm : (b.map (c * ·)).length = m := by rw [List.length_map]; exact Hm.out
      rw [hlm]
      rw [hlm] at Hp4
      have Hlm := hide hlm
      clear hlm
      go_wp2_with (go_at_call 11; refine Stop.out ?_)
      refine Stop.go (netOk_c p2 m cap2 b _ _ Hm.out Hb1 Hi.out Hp2.out He.out ?_)
      intro p5 cap5 w5 b5 t5
      have T5 := hide t5
      have I5 := hide (I4.out.keep (Keeps.of_below b5))
      have B5 := hide (bseq B4.out b5)
      clear b5 t5
      go_wp2_with (go_at_call 11; refine Stop.out ?_)
      refine Stop.go (netOk_c p4 m cap4 (b.map (c * ·)) _ _ Hlm.out Hb1 I5.out Hp4.out Hes.out ?_)
      intro p6 cap6 w6 b6 t6
      rw [Hls.out, List.length_map]
      have T6 := hide (show TrsAt w6 p6 ((netList b).map (scale c)) by rw [← Hls.out]; exact t6)
      have T5' := hide (T5.out.keep (Keeps.of_below b6))
      have B6 := hide (bseq B5.out b6)
      clear b6 t6
      generalize hts : netList b = ts at *
      clear hts
      generalize hq : ts.length = q at *
      have Hq := hide hq
      clear hq
      have hqq : ((q : Int) != q) = false := by simp
      go_wp2_with fail
      go_loopw [14] (fun i wr => ∃ j d : Nat, j ≤ q ∧ i = .int .i64 j ∧ wr = w6.drewN d) (fun i _ => q - (intOf i).toNat)
      case atStart => exact ⟨0, 0, Nat.zero_le _, rfl, rfl⟩
      case round =>
        obtain ⟨j, d, hj, rfl, rfl⟩ := hrel
        by_cases hjt : j < q
        · obtain ⟨b1, o1, x, rfl, hx, hk1, hk2, hk3⟩ := T5'.out.at_ (i := j) (by rw [Hq.out]; exact hjt)
          obtain ⟨b2, o2, y, rfl, hy, hd1, hd2, hd3⟩ := T6.out.at_ (i := j) (by rw [List.length_map, Hq.out]; exact hjt)
          have hy2 : y = scale c x := by rw [List.getElem?_map, hx] at hy; simpa using hy.symm
          subst hy2
          have hd := Hd.out x (List.mem_of_getElem? hx)
          have hxa : 0 < x.am ∧ x.am ≤ 83751862272 := ⟨hd.2.2.2.2.1, hd.2.2.2.2.2.1⟩
          have hcx : 0 ≤ c * x.am ∧ c * x.am ≤ 837518622720 := by
            have := Int.mul_nonneg (show 0 ≤ c by omega) (show 0 ≤ x.am by omega)
            have := Int.mul_le_mul hc1.2 hxa.2 (by omega) (by decide)
            omega
          have hwr : IntKind.i64.wrap (c * x.am) = c * x.am := IntWalk.i64_in _ (by omega)
          have hq := run_neq_tr (scale c x) (scale c x)
          simp only [ne_eq, not_true_eq_false, decide_false] at hq
          simp only [scale] at hd1 hd2 hd3 hq
          clear hd hx hy
          go_wp2_with fail
          go_quiet (fail)
          clear hwr hq
          go_wp2_with fail
          go_roundw
          case rel => exact ⟨j + 1, _, by omega, by go_num, rfl⟩
          case measure => simp [intOf]; omega
        · go_wp2_with fail
          exact HR.out _ (below_drewN' B6.out d)

set_option maxRecDepth 100000 in
theorem units_holds_lifted (os : Os) (started : os.Started) (H : Type) (enc : TypeId × Value → H) :
    ReturnsInHanded {} Try.checked os 8 .any (Rows.nettingUnitsSpec.pre6 enc Try.prog Try.f8 Rows.nettingUnitsRow.domain false) (Rows.nettingUnitsSpec.post enc Try.prog Try.f8 false true false false) := by
  refine returnsInHanded_of_change (C := Try.checked) Try.own started (by kernel_rfl) Try.func8
    (ChangeSpec.witness6 (enc := enc) (C := Try.checked) false ⟨#[], #[.slice none 0 0, .int .u8 0], []⟩ 8 (by kernel_rfl) (by kernel_rfl) (by kernel_rfl) (by kernel_rfl)) ?_
  intro W base args ds gs before hval0 hW hcnd _
  have hval : ∀ (j : Nat) t v, Try.f8.params[j]? = some t → args[j]? = some v → Value.okWide Try.prog W .any base t v := hval0
  have hW' := hW
  obtain ⟨p, q, hA0, hV, rfl, hfz, hnd⟩ := hW
  have hA : DataW.TrodAll enc Try.prog W 0 (fun _ => true) true Try.f8.params.toList args.toList ds p := hA0
  have hA1 := hA
  rw [Try.params8] at hA hval
  obtain ⟨v0, vs0, d0, ds0, p0, q0, hargs, rfl, rfl, h0, r0⟩ := trodAll_cons hA
  obtain ⟨v1, vs1, d1, ds1, p1, q1, rfl, rfl, rfl, h1, r1⟩ := trodAll_cons r0
  obtain ⟨rfl, rfl, rfl⟩ := trodAll_nil r1
  obtain rfl : args = #[v0, v1] := by cases args; simp_all
  obtain ⟨rfl, rfl⟩ := trodVars_none hV
  obtain ⟨a0, n0, c0, l0, rfl, hl0, hm0, hi0, hz0, hw0⟩ := open_ints' Try.underlying32 Try.underlying21 (by kernel_rfl) (hval 0 32 v0 rfl rfl) h0
  obtain ⟨x1, rfl, _, _, hw1⟩ := open_int Try.underlying5 (hval 1 5 v1 rfl rfl) h1
  refine units_c a0 n0 c0 l0 x1 W _ hl0 hm0 hi0 hz0 hw0 hw1 fun W' bel => ?_
  exact ⟨_, rfl, law_post Try.laidOut bel rfl hW' hA1 (by kernel_rfl) rfl Try.underlying4 rfl rfl rfl⟩

theorem units_holds : Rows.NettingUnitsSaid :=
  OpenClaim.holds_of_wide 8 Try.f8 rfl rfl rfl rfl rfl rfl rfl ⟨rfl, rfl, rfl, rfl, rfl⟩ rfl rfl rfl rfl rfl (by kernel_rfl) Try.func8 (by kernel_rfl)
    (of_decide_eq_true (by kernel_rfl)) (by unfold Func.isWrapper; rw [if_neg (of_decide_eq_false (by kernel_rfl))]; exact ⟨rfl, rfl⟩)
    (fun os started H enc _ => units_holds_lifted os started H enc)

end Go.Proofs.Ytkpnbglghindjaa
