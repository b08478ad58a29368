/- LedgerMultiples: multiplied shares have the same parts; the multiple of their sum is divided into the multiples. -/
import Derived.Test.YtajnoocjjkjfmaaL4
set_option linter.unusedVariables false
set_option linter.unusedSimpArgs false
namespace Go.Proofs.Ytajnoocjjkjfmaa
open Go.ChangeShapes Go.WideShapes Go.ChangeAt Go.RowKit

theorem wf_u8m {n : Int} (h : (Lit.int .u8 n).wf = true) : 0 ≤ n ∧ n ≤ 255 := by
  simp [Lit.wf, show IntKind.min .u8 = 0 from rfl, show IntKind.max .u8 = 255 from rfl] at h
  exact h
theorem splitOk_other {a b : Int} {l : List Int} (h : splitOk a l = true) : splitOk b l = inB b 0 1000000000 := by
  unfold splitOk at *
  simp only [Bool.and_eq_true] at h
  rw [h.1.1.2, h.1.2, h.2]; simp
def fitB (k : Int) (l : List Int) : Bool := l.all fun x => decide (k * x ≤ 1000000)
theorem splitL_mul {a k : Int} (hk : 1 ≤ k) {l : List Int} (h : splitOk a l = true) (hf : fitB k l = true) : splitL a (l.map (k * ·)) = splitL a l ∧ splitE a (l.map (k * ·)) = 0 := by
  have h1 : splitOk a (l.map (k * ·)) = true := by rw [splitOk_mul hk h]; exact hf
  unfold splitL splitE
  rw [if_pos h1, if_pos h1, if_pos h]
  exact ⟨split_mul (by omega) l, rfl⟩
theorem splitL_mul_no {a k : Int} (hk : 1 ≤ k) {l : List Int} (h : splitOk a l = true) (hf : fitB k l = false) : splitL a (l.map (k * ·)) = [] ∧ splitE a (l.map (k * ·)) = 1 :=
  split_no (by rw [splitOk_mul hk h]; exact hf)
theorem splitL_sum {a k : Int} (hk : 1 ≤ k) {l : List Int} (h : splitOk a l = true) (hb : ¬ 1000000000 < k * l.sum) : splitL (k * l.sum) l = l.map (k * ·) ∧ splitE (k * l.sum) l = 0 := by
  have hs := (splitOk_true h).2.2.2.2.1
  have h0 : 0 ≤ k * l.sum := Int.mul_nonneg (by omega) (by omega)
  have h1 : splitOk (k * l.sum) l = true := by rw [splitOk_other h]; exact inB_mk ⟨h0, by omega⟩
  unfold splitL splitE
  rw [if_pos h1, if_pos h1]
  exact ⟨split_more hs, rfl⟩
theorem take_mul_succ (k : Int) (l : List Int) (j : Nat) (x : Int) (hx : l[j]? = some x) : ((l.take (j + 1)).map (k * ·)) = ((l.take j).map (k * ·)) ++ [k * x] := by
  rw [List.take_add_one, hx, List.map_append]; rfl
theorem fit_succ (k : Int) (l : List Int) (j : Nat) (x : Int) (hx : l[j]? = some x) : fitB k (l.take (j + 1)) = (fitB k (l.take j) && decide (k * x ≤ 1000000)) := by
  unfold fitB; rw [all_take_succ _ _ _ _ hx]

set_option maxRecDepth 100000 in
set_option maxHeartbeats 4000000 in
theorem multiples_c (a : Int) (p : Option Addr) (n cap : Nat) (l : List Int) (x : Int) (w : World) (R) (hw0 : (Lit.int .i64 a).wf = true) (hn : l.length = n) (hl : n ≤ maxLen) (h : IntsAt .i64 w p l) (_hz : p = none → n = 0) (_hw : ∀ x ∈ l, (Lit.int .i64 x).wf = true) (hw1 : (Lit.int .u8 x).wf = true)
    (hR : ∀ w', Below w.heap.size w w' → R (.returned (.bool true)) w') : Calls Try.prog 8 #[.int .i64 a, .slice p n cap, .int .u8 x] w R := by
  have Hn := hide hn; have HR := hide hR; have H := hide h; have Hl := hide hl
  obtain ⟨x0, x1⟩ := wf_u8m hw1
  clear hn hR h _hz _hw hw0 hw1
  unfold maxLen at hl
  by_cases h1 : 100 < n
  · go_enter Try.func8, Try.ntmps8
    go_wp2_with (go_at_call 11; refine Stop.out ?_)
    refine Stop.go (head_c _ _ ?_)
    intro w1 B1
    replace B1 := hide B1
    go_wp2_with fail
    exact HR.out _ B1.out
  · cases hok : splitOk a l with
    | false =>
      obtain ⟨e1, e2⟩ := split_no hok
      have E1 := hide e1; have E2 := hide e2
      clear hok e1 e2
      go_enter Try.func8, Try.ntmps8
      go_wp2_with (go_at_call 11; refine Stop.out ?_)
      refine Stop.go (head_c _ _ ?_)
      intro w1 B1
      have I1 := hide (H.out.keep (Keeps.of_below B1))
      replace B1 := hide B1
      go_wp2_with (go_at_call 15; refine Stop.out ?_)
      refine Stop.go (split_b a p n cap l _ _ Hn.out Hl.out I1.out ?_)
      intro p2 c2 w2 hb _
      rw [E1.out, E2.out]
      have B2 := hide (bseq B1.out hb); clear hb
      go_wp2_with fail
      exact HR.out _ B2.out
    | true =>
      have HE := hide (split_yes hok)
      have hlen := hide (split_len hok)
      have Hok := hide hok
      obtain ⟨_, _, _, hx0, hs0, hs1⟩ := splitOk_true hok
      have hbd := hide (show Bd 1000000000000000 l from fun x hx => by have := hx0 x hx; omega)
      have hxs := hide hx0
      obtain ⟨k, hk⟩ : ∃ k, k = 1 + x := ⟨_, rfl⟩
      have hk1 : 1 ≤ k := by omega
      have hk2 : k ≤ 256 := by omega
      have HK := hide hk
      obtain ⟨i0, hi0, hz0, hz1, hz2⟩ := info_parts Try.info3
      clear hok hx0 hk
      generalize hsv : l.sum = s at *
      have Hs := hide hsv; clear hsv
      go_enter Try.func8, Try.ntmps8
      go_wp2_with (go_at_call 11; refine Stop.out ?_)
      refine Stop.go (head_c _ _ ?_)
      intro w1 B1
      have I1 := hide (H.out.keep (Keeps.of_below B1))
      replace B1 := hide B1
      go_wp2_with (go_at_call 15; refine Stop.out ?_)
      refine Stop.go (split_b a p n cap l _ _ Hn.out Hl.out I1.out ?_)
      intro p2 c2 w2 hb i2
      rw [HE.out, hlen.out, Hn.out]
      have B2 := hide (bseq B1.out hb); have I2 := hide (I1.out.keep (Keeps.of_below hb)); have S2 := hide i2; clear hb i2 I1 B1
      go_wp2_with fail
      try rw [← HK.out]
      go_loopw [11, 12, 13] (fun v f i wr => ∃ j : Nat, j ≤ n ∧ i = .int .i64 j ∧ f = .bool (fitB k (l.take j)) ∧
        Hid (wr.ownsRow w2.heap.size 3 1 v j (((l.take j).map (k * ·)).map (Value.int .i64))) ∧ Hid (Below w2.heap.size w2 wr)) (fun _ _ i _ => n - (intOf i).toNat)
      case atStart => exact ⟨0, Nat.zero_le _, rfl, rfl, hide (World.ownsRow_nil ..), hide (Below.refl _ _)⟩
      case round =>
        obtain ⟨j, hj, rfl, rfl, P, Hb⟩ := hrel
        obtain ⟨vp, vc, rfl, _⟩ := own_val P.out
        by_cases hlt : j < n
        · obtain ⟨b, o, y, rfl, hy, hc⟩ := (I2.out.keep (Keeps.of_below Hb.out)).at_ (i := j) (by rw [Hn.out]; exact hlt)
          obtain ⟨hy0, hy1⟩ := hxs.out y (List.mem_of_getElem? hy)
          have hp1 : 0 ≤ k * y := Int.mul_nonneg (by omega) hy0
          have hp2 : k * y ≤ 256 * 1000000 := Int.mul_le_mul hk2 hy1 hy0 (by omega)
          have hfs := hide (fit_succ k l j y hy)
          have hts := hide (take_mul_succ k l j y hy)
          have hBz := Hb.out.size
          have hbw : b < w2.heap.size := by
            obtain ⟨b', o', x', hq', _, hc'⟩ := I2.out.at_ (i := j) (by rw [Hn.out]; exact hlt)
            cases hq'
            exact block_lt hc'
          clear hy
          generalize fitB k (l.take j) = ft at *
          go_wp2_with (at_builtin; refine Stop.out ?_)
          refine Stop.go ?_
          refine wpList_app _ rfl (.tmp 41) (.tmp 48) 23 rfl w2.heap.size 3 i0 _ 1 8 Try.underlying23 hi0 hz0 hz1 hz2 rfl (by omega) (.slice vp j vc) j (((l.take j).map (k * ·)).map (Value.int .i64)) rfl (P.out.alloc _) (some ⟨wr.heap.size, 0, none⟩) 1 1 [.int .i64 (k * y)] rfl (src_one wr _ _) (by simp [Value.oneCell']) (by unfold maxLen; omega) (by omega) (by simp; omega) ?_
          intro v1 w7 hown1 hg1
          have Hb1' := hide (show Below w2.heap.size w2 w7 from (balloc Hb.out _).grown hg1 (by simp; omega) (fun j hj => (P.out.lt j hj).1))
          have Hown2 := hide (show w7.ownsRow w2.heap.size 3 1 v1 (j + 1) (((l.take (j + 1)).map (k * ·)).map (Value.int .i64)) by rw [hts.out, List.map_append]; simpa using hown1)
          have hc7 := cell_later Hb1'.out ((Hb.out.cell (p := ⟨b, o + j, none⟩) hbw).symm.trans hc)
          clear hown1 hg1 hc
          cases ft with
          | true =>
            have hfs2 := hide (show fitB k (l.take (j + 1)) = decide (k * y ≤ 1000000) by rw [hfs.out]; rfl)
            go_wp2_with fail
            go_roundw
            case rel => exact ⟨j + 1, by omega, by go_num, by rw [hfs2.out], Hown2, Hb1'⟩
            case measure => simp [intOf]; omega
          | false =>
            have hfs2 := hide (show fitB k (l.take (j + 1)) = false by rw [hfs.out]; rfl)
            go_wp2_with fail
            go_roundw
            case rel => exact ⟨j + 1, by omega, by go_num, by rw [hfs2.out], Hown2, Hb1'⟩
            case measure => simp [intOf]; omega
        · obtain rfl : j = n := by omega
          have etk : l.take j = l := List.take_of_length_le (by rw [Hn.out]; omega)
          rw [etk] at P ⊢
          clear etk hlt
          have I3 := hide (I2.out.keep (Keeps.of_below Hb.out))
          have S3 := hide (S2.out.keep (Keeps.of_below Hb.out))
          have M3 := hide (IntsAt.of_own P.out)
          have B3 := hide (bseq B2.out Hb.out)
          have HML := hide (show (l.map (k * ·)).length = j by rw [List.length_map, Hn.out])
          clear P Hb I2 S2 B2
          have hks1 : 0 ≤ k * s := Int.mul_nonneg (by omega) (by omega)
          have hks2 : k * s ≤ 256 * 100000000 := Int.mul_le_mul hk2 hs1 (by omega) (by omega)
          have hbk := hide (fun (hb : 1000000000 < k * s) => split_no (show splitOk (k * s) l = false by rw [splitOk_other Hok.out]; unfold inB; simp; intro _; omega))
          have hbk2 := hide (fun (hb : ¬ 1000000000 < k * s) => splitL_sum hk1 Hok.out (by rw [Hs.out]; exact hb))
          rw [Hs.out] at hbk2
          have HRR := hide HR.out
          cases hf : fitB k l with
          | true =>
            obtain ⟨e1, e2⟩ := splitL_mul hk1 Hok.out hf
            have E1 := hide e1; have E2 := hide e2
            clear e1 e2 hf
            go_wp2_with (go_at_call 15; refine Stop.out ?_)
            refine Stop.go (split_b a vp j vc (l.map (k * ·)) _ _ HML.out Hl.out M3.out ?_)
            intro p4 c4 w4 hb i4
            rw [E2.out, E1.out, hlen.out, Hn.out]
            rw [E1.out] at i4
            have B4 := hide (bseq B3.out hb); have I4 := hide (I3.out.keep (Keeps.of_below hb)); have S4 := hide (S3.out.keep (Keeps.of_below hb)); have M4 := hide (M3.out.keep (Keeps.of_below hb)); have N4 := hide i4
            clear hb i4 B3 I3 S3 M3
            go_wp2_with (go_at_call 21; refine Stop.out ?_)
            refine Stop.go (ints_c p2 p4 j j c2 c4 (splitL a l) (splitL a l) _ _ (by rw [hlen.out, Hn.out]) (by rw [hlen.out, Hn.out]) Hl.out Hl.out S4.out N4.out ?_)
            rw [decide_eq_true rfl]
            intro w5 d5
            have B5 := hide (B4.out.trans d5.below); have I5 := hide (I4.out.keep d5.keeps); have M5 := hide (M4.out.keep d5.keeps)
            clear d5 B4 I4 M4 N4 S4
            go_wp2_with (go_at_call 23; refine Stop.out ?_)
            refine Stop.go (sum_c p j cap l _ _ Hn.out (by omega) I5.out hbd.out ?_)
            rw [Hs.out]
            go_wp2_with (go_at_call 15; refine Stop.out ?_)
            refine Stop.go (split_b (k * s) p j cap l _ _ Hn.out Hl.out I5.out ?_)
            intro p6 c6 w6 hb i6
            have B6 := hide (bseq B5.out hb); have I6 := hide (I5.out.keep (Keeps.of_below hb)); have M6 := hide (M5.out.keep (Keeps.of_below hb))
            clear hb B5 I5 M5
            by_cases hbig : 1000000000 < k * s
            · obtain ⟨e3, e4⟩ := hbk.out hbig
              rw [e3, e4]
              clear e3 e4 i6
              go_wp2_with (go_at_call 23; refine Stop.out ?_)
              refine Stop.go (sum_c p j cap l _ _ Hn.out (by omega) I6.out hbd.out ?_)
              rw [Hs.out]
              go_wp2_with fail
              exact HRR.out _ B6.out
            · obtain ⟨e3, e4⟩ := hbk2.out (by omega)
              rw [e3] at i6
              rw [e3, e4, HML.out]
              have N6 := hide i6
              clear e3 e4 i6
              go_wp2_with (go_at_call 23; refine Stop.out ?_)
              refine Stop.go (sum_c p j cap l _ _ Hn.out (by omega) I6.out hbd.out ?_)
              rw [Hs.out]
              go_wp2_with (go_at_call 21; refine Stop.out ?_)
              refine Stop.go (ints_c p6 vp j j c6 vc (l.map (k * ·)) (l.map (k * ·)) _ _ HML.out HML.out Hl.out Hl.out N6.out M6.out ?_)
              rw [decide_eq_true rfl]
              intro w7 d7
              have B7 := hide (B6.out.trans d7.below); clear d7
              go_wp2_with fail
              exact HRR.out _ B7.out
          | false =>
            obtain ⟨e1, e2⟩ := splitL_mul_no hk1 Hok.out hf
            have E1 := hide e1; have E2 := hide e2
            clear e1 e2 hf
            go_wp2_with (go_at_call 15; refine Stop.out ?_)
            refine Stop.go (split_b a vp j vc (l.map (k * ·)) _ _ HML.out Hl.out M3.out ?_)
            intro p4 c4 w4 hb i4
            rw [E2.out, E1.out]
            have B5 := hide (bseq B3.out hb); have I5 := hide (I3.out.keep (Keeps.of_below hb)); have M5 := hide (M3.out.keep (Keeps.of_below hb))
            clear hb i4 B3 I3 S3 M3
            go_wp2_with (go_at_call 23; refine Stop.out ?_)
            refine Stop.go (sum_c p j cap l _ _ Hn.out (by omega) I5.out hbd.out ?_)
            rw [Hs.out]
            go_wp2_with (go_at_call 15; refine Stop.out ?_)
            refine Stop.go (split_b (k * s) p j cap l _ _ Hn.out Hl.out I5.out ?_)
            intro p6 c6 w6 hb i6
            have B6 := hide (bseq B5.out hb); have I6 := hide (I5.out.keep (Keeps.of_below hb)); have M6 := hide (M5.out.keep (Keeps.of_below hb))
            clear hb B5 I5 M5
            by_cases hbig : 1000000000 < k * s
            · obtain ⟨e3, e4⟩ := hbk.out hbig
              rw [e3, e4]
              clear e3 e4 i6
              go_wp2_with (go_at_call 23; refine Stop.out ?_)
              refine Stop.go (sum_c p j cap l _ _ Hn.out (by omega) I6.out hbd.out ?_)
              rw [Hs.out]
              go_wp2_with fail
              exact HRR.out _ B6.out
            · obtain ⟨e3, e4⟩ := hbk2.out (by omega)
              rw [e3] at i6
              rw [e3, e4, HML.out]
              have N6 := hide i6
              clear e3 e4 i6
              go_wp2_with (go_at_call 23; refine Stop.out ?_)
              refine Stop.go (sum_c p j cap l _ _ Hn.out (by omega) I6.out hbd.out ?_)
              rw [Hs.out]
              go_wp2_with (go_at_call 21; refine Stop.out ?_)
              refine Stop.go (ints_c p6 vp j j c6 vc (l.map (k * ·)) (l.map (k * ·)) _ _ HML.out HML.out Hl.out Hl.out N6.out M6.out ?_)
              rw [decide_eq_true rfl]
              intro w7 d7
              have B7 := hide (B6.out.trans d7.below); clear d7
              go_wp2_with fail
              exact HRR.out _ B7.out

set_option maxRecDepth 100000 in
theorem multiples_holds_lifted (os : Os) (started : os.Started) (H : Type) (enc : TypeId × Value → H) :
    ReturnsInHanded {} Try.checked os 8 .any (Rows.ledgerMultiplesSpec.pre6 enc Try.prog Try.f8 Rows.ledgerMultiplesRow.domain false) (Rows.ledgerMultiplesSpec.post enc Try.prog Try.f8 false true false false) := by
  refine returnsInHanded_of_change (C := Try.checked) Try.own started (by kernel_rfl) Try.func8
    (ChangeSpec.witness6 (enc := enc) (C := Try.checked) false ⟨#[], #[.int .i64 0, .slice none 0 0, .int .u8 0], []⟩ 8 (by kernel_rfl) (by kernel_rfl) (by kernel_rfl) (by kernel_rfl)) ?_
  intro W base args ds gs before hval0 hW hcnd _
  have hval : ∀ (j : Nat) t v, Try.f8.params[j]? = some t → args[j]? = some v → Value.okWide Try.prog W .any base t v := hval0
  have hW' := hW
  obtain ⟨p, q, hA0, hV, rfl, hfz, hnd⟩ := hW
  have hA : DataW.TrodAll enc Try.prog W 0 (fun _ => true) true Try.f8.params.toList args.toList ds p := hA0
  have hA1 := hA
  rw [Try.params8] at hA hval
  obtain ⟨v0, vs0, d0, ds0, p0, q0, hargs, rfl, rfl, h0, r0⟩ := trodAll_cons hA
  obtain ⟨v1, vs1, d1, ds1, p1, q1, rfl, rfl, rfl, h1, r1⟩ := trodAll_cons r0
  obtain ⟨v2, vs2, d2, ds2, p2, q2, rfl, rfl, rfl, h2, r2⟩ := trodAll_cons r1
  obtain ⟨rfl, rfl, rfl⟩ := trodAll_nil r2
  obtain rfl : args = #[v0, v1, v2] := by cases args; simp_all
  obtain ⟨rfl, rfl⟩ := trodVars_none hV
  obtain ⟨x0, rfl, _, _, hw0⟩ := open_int Try.underlying3 (hval 0 3 v0 rfl rfl) h0
  obtain ⟨a1, n1, c1, l1, rfl, hl1, hm1, hi1, hz1, hw1⟩ := open_ints' Try.underlying23 Try.underlying3 (by kernel_rfl) (hval 1 23 v1 rfl rfl) h1
  obtain ⟨x2, rfl, _, _, hw2⟩ := open_int Try.underlying5 (hval 2 5 v2 rfl rfl) h2
  refine multiples_c x0 a1 n1 c1 l1 x2 W _ hw0 hl1 hm1 hi1 hz1 hw1 hw2 fun W' bel => ?_
  exact ⟨_, rfl, law_post Try.laidOut bel rfl hW' hA1 (by kernel_rfl) rfl Try.underlying4 rfl rfl rfl⟩

theorem multiples_holds : Rows.LedgerMultiplesSaid :=
  OpenClaim.holds_of_wide 8 Try.f8 rfl rfl rfl rfl rfl rfl rfl ⟨rfl, rfl, rfl, rfl, rfl⟩ rfl rfl rfl rfl rfl (by kernel_rfl) Try.func8 (by kernel_rfl)
    (of_decide_eq_true (by kernel_rfl)) (by unfold Func.isWrapper; rw [if_neg (of_decide_eq_false (by kernel_rfl))]; exact ⟨rfl, rfl⟩)
    (fun os started H enc _ => multiples_holds_lifted os started H enc)

end Go.Proofs.Ytajnoocjjkjfmaa
