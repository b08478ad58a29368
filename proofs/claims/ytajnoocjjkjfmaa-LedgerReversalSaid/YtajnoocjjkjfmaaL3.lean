/- LedgerReversal: a further entry changes two balances by its amount; with its reversal, none. -/
import Derived.Test.YtajnoocjjkjfmaaR5
set_option linter.unusedVariables false
set_option linter.unusedSimpArgs false
namespace Go.Proofs.Ytajnoocjjkjfmaa
open Go.ChangeShapes Go.WideShapes Go.ChangeAt Go.RowKit

theorem rev_ok {n : Int} {l : List Ent} {x : Ent} (hx : validE n x = true) (h : balOk n l = true) : balOk n (l ++ [x]) = true ∧ balOk n (l ++ [x, revE x]) = true := by
  have hr : validE n (revE x) = true := by
    obtain ⟨v1, v2, v3, v4, v5, v6⟩ := validE_true hx
    unfold validE revE
    simp only
    rw [v1, v2, v3, v5]
    simp only [Bool.true_and, Bool.and_true, bne_iff_ne, ne_eq, Bool.and_eq_true, decide_eq_true_eq]
    exact ⟨fun h => v4 h.symm, by decide⟩
  unfold balOk at *
  rw [Bool.and_eq_true] at h
  rw [h.1, List.all_append, List.all_append, h.2]
  simp [hx, hr]
theorem rev_no {n : Int} {l m : List Ent} {x : Ent} (hx : validE n x = true) (h : balOk n l = false) : balE n (l ++ m) = 1 := by
  have h1 := (validE_true hx).1
  unfold balOk at h
  rw [h1, Bool.true_and] at h
  unfold balE balOk
  rw [List.all_append, h]
  simp
theorem rev_net {n : Int} {x : Ent} (hx : validE n x = true) (l : List Ent) (i : Int) : netF (l ++ [x, revE x]) i = netF l i := by
  rw [netF_append, netF_cons, netF_cons]
  unfold ent1 revE netF
  simp only [List.map_nil, List.sum_nil]
  omega
theorem balL_at {n : Nat} {l : List Ent} (h : balE n l = 0) : balL n l = (List.range n).map fun (i : Nat) => netF l (i : Int) := by
  rw [balL_ok h, Int.toNat_natCast]

set_option maxRecDepth 100000 in
set_option maxHeartbeats 8000000 in
theorem reversal_c (acc : Int) (p : Option Addr) (n cap : Nat) (l : List Ent) (x : Ent) (w : World) (R) (hw0 : (Lit.int .i64 acc).wf = true)
    (hn : l.length = n) (hl : n ≤ maxLen) (h : EntsAt w p l) (_hz : p = none → n = 0) (hwl : EWf l) (hwx : EWf [x])
    (hR : ∀ w', Below w.heap.size w w' → R (.returned (.bool true)) w') : Calls Try.prog 5 #[.int .i64 acc, .slice p n cap, .agg #[.int .i64 x.fr, .int .i64 x.to_, .int .i64 x.am, .string x.ref]] w R := by
  have Hn := hide hn; have HR := hide hR; have EL := hide h; have Hl := hide hl; have WL := hide hwl; have WX := hide hwx; have Hw0 := hide hw0
  have hxs := (hwx x (by simp)).2.2.2
  have Hxs := hide hxs
  clear hn hR h _hz hwl hwx hw0
  unfold maxLen at hl hxs
  obtain ⟨xf, xt, xa, xr⟩ := x
  simp only at hxs
  have BX : Hid (Below w.heap.size w (w.alloc (.cells #[.int .i64 xf, .int .i64 xt, .int .i64 xa, .string xr] 34))) := hide (balloc (Below.refl _ _) _)
  cases hfl : fewE l 100 with
  | false =>
    have Hf := hide hfl; clear hfl
    go_enter Try.func5, Try.ntmps5
    go_wp2_with (go_at_call 11; refine Stop.out ?_)
    refine Stop.go (head_c _ _ ?_)
    intro w1 B1
    have bb := bseq BX.out B1
    have E1 := hide (EL.out.keep (Keeps.of_below bb))
    replace B1 := hide bb
    clear bb
    go_wp2_with (go_at_call 12; refine Stop.out ?_)
    refine Stop.go (few_c p n cap l 100 _ _ Hn.out Hl.out WL.out E1.out ?_)
    rw [Hf.out]
    go_wp2_with fail
    exact HR.out _ B1.out
  | true =>
    have Hf := hide hfl
    have hnl := few_len hfl
    rw [Hn.out] at hnl
    have hn1 : n ≤ 100 := by omega
    clear hfl hnl
    by_cases hr : 100 < xr.size
    · have hr' : (100 : Int) < (xr.size : Int) := by omega
      go_enter Try.func5, Try.ntmps5
      go_wp2_with (go_at_call 11; refine Stop.out ?_)
      refine Stop.go (head_c _ _ ?_)
      intro w1 B1
      have c4 := cell_later B1 (a := ⟨w.heap.size, 3, none⟩) (v := .string xr) (by simp)
      have bb := bseq BX.out B1
      have E1 := hide (EL.out.keep (Keeps.of_below bb))
      replace B1 := hide bb
      clear bb
      go_wp2_with (go_at_call 12; refine Stop.out ?_)
      refine Stop.go (few_c p n cap l 100 _ _ Hn.out Hl.out WL.out E1.out ?_)
      rw [Hf.out]
      go_wp2_with fail
      exact HR.out _ B1.out
    · have hr' : ¬ (100 : Int) < (xr.size : Int) := by omega
      cases hv : validE acc ⟨xf, xt, xa, xr⟩ with
      | false =>
        have Hv := hide hv; clear hv
        go_enter Try.func5, Try.ntmps5
        go_wp2_with (go_at_call 11; refine Stop.out ?_)
        refine Stop.go (head_c _ _ ?_)
        intro w1 B1
        have c1 := cell_later B1 (a := ⟨w.heap.size, 0, none⟩) (v := .int .i64 xf) (by simp)
        have c2 := cell_later B1 (a := ⟨w.heap.size, 1, none⟩) (v := .int .i64 xt) (by simp)
        have c3 := cell_later B1 (a := ⟨w.heap.size, 2, none⟩) (v := .int .i64 xa) (by simp)
        have c4 := cell_later B1 (a := ⟨w.heap.size, 3, none⟩) (v := .string xr) (by simp)
        have bb := bseq BX.out B1
        have E1 := hide (EL.out.keep (Keeps.of_below bb))
        replace B1 := hide bb
        clear bb
        go_wp2_with (go_at_call 12; refine Stop.out ?_)
        refine Stop.go (few_c p n cap l 100 _ _ Hn.out Hl.out WL.out E1.out ?_)
        rw [Hf.out]
        go_wp2_with (go_at_call 20; refine Stop.out ?_)
        refine Stop.go (refValid_c acc ⟨xf, xt, xa, xr⟩ Hxs.out _ _ ?_)
        intro w2 b2
        rw [Hv.out]
        have B2 := hide (bseq B1.out b2)
        clear b2
        go_wp2_with fail
        exact HR.out _ B2.out
      | true =>
        have Hv := hide hv
        obtain ⟨q1, q2, q3, q4, q5, q6⟩ := validE_true hv
        have hacc := inB_true q1; have hxf := inB_true q2; have hxt := inB_true q3; have hxa := inB_true q5
        simp only at hxf hxt hxa q4
        clear hv q1 q2 q3 q5 q6
        obtain ⟨N, rfl⟩ := Int.eq_ofNat_of_zero_le (show 0 ≤ acc by omega)
        obtain ⟨f, rfl⟩ := Int.eq_ofNat_of_zero_le hxf.1
        obtain ⟨t, rfl⟩ := Int.eq_ofNat_of_zero_le hxt.1
        have hft : f ≠ t := fun h => q4 (by rw [h])
        have hfN : f < N := by omega
        have htN : t < N := by omega
        have hN1 : 1 ≤ N := by omega
        have hN2 : N ≤ 100 := by omega
        obtain ⟨hxa1, hxa2⟩ := hxa
        clear q4 hxf hxt hacc
        go_enter Try.func5, Try.ntmps5
        go_wp2_with (go_at_call 11; refine Stop.out ?_)
        refine Stop.go (head_c _ _ ?_)
        intro w1 B1
        have c1 := cell_later B1 (a := ⟨w.heap.size, 0, none⟩) (v := .int .i64 f) (by simp)
        have c2 := cell_later B1 (a := ⟨w.heap.size, 1, none⟩) (v := .int .i64 t) (by simp)
        have c3 := cell_later B1 (a := ⟨w.heap.size, 2, none⟩) (v := .int .i64 xa) (by simp)
        have c4 := cell_later B1 (a := ⟨w.heap.size, 3, none⟩) (v := .string xr) (by simp)
        have bb := bseq BX.out B1
        have E1 := hide (EL.out.keep (Keeps.of_below bb))
        replace B1 := hide bb
        clear bb BX
        go_wp2_with (go_at_call 12; refine Stop.out ?_)
        refine Stop.go (few_c p n cap l 100 _ _ Hn.out Hl.out WL.out E1.out ?_)
        rw [Hf.out]
        go_wp2_with (go_at_call 20; refine Stop.out ?_)
        refine Stop.go (refValid_c N ⟨(f : Int), (t : Int), xa, xr⟩ Hxs.out _ _ ?_)
        intro w2 b2
        rw [Hv.out]
        have d1 := cell_later b2 c1; have d2 := cell_later b2 c2; have d3 := cell_later b2 c3; have d4 := cell_later b2 c4
        have B2 := hide (bseq B1.out b2); have E2 := hide (E1.out.keep (Keeps.of_below b2))
        clear b2 c1 c2 c3 c4 B1 E1
        go_wp2_with (go_at_call 13; refine Stop.out ?_)
        refine Stop.go (bal_b N p n cap l _ _ Hn.out Hl.out E2.out WL.out Hw0.out ?_)
        intro px cx w3 hb ix
        have c1 := cell_later hb d1; have c2 := cell_later hb d2; have c3 := cell_later hb d3; have c4 := cell_later hb d4
        have B3 := hide (bseq B2.out hb); have E3 := hide (E2.out.keep (Keeps.of_below hb)); have X3 := hide ix
        clear hb ix d1 d2 d3 d4 B2 E2
        have HC := hide (And.intro c1 (And.intro c2 (And.intro c3 c4)))
        have hOK := balE_le (n := N) (l := l) (by rw [Hn.out]; omega)
        generalize hex : balE N l = ex at *
        have Hex := hide hex; clear hex
        clear c1 c2 c3 c4
        go_wp2_with fail
        refine rev_reg5 _ N p n cap w.heap.size l ⟨(f : Int), (t : Int), xa, xr⟩ w3 hn1 Hn E3 WL WX Hw0 HC.out _ _ _ _ _ _ _ _ _ _ _ _ _ _ _ _ _ _ _ _ _ _ _ _ _ _ _ _ _ _ _ _ _ _ _ _ _ _ _ _ _ _ _ _ _ _ _ _ _ _ _ _ _ _ _ _ _ _ _ _ _ _ _ _ _ _ _ _ _ _ _ _ _ _ _ _ _ _ _ _ _ _ _ _ _ _ _ _ _ _ _ _ _ _ _ _ _ _ _ _ _ _ _ _ _ _ _ _ _ _ _ _ _ _ _ _ _ _ _ _ _ _ _ _ _ _ _ _ _ _ _ _ (hide ?_)
        intro py cy w4 v39 v40 v41 v42 v43 v44 v45 v46 v47 v48 v49 hb iy
        have E4 := hide (E3.out.keep (Keeps.of_below hb)); have B4 := hide (bseq B3.out hb); have X4 := hide (X3.out.keep (Keeps.of_below hb)); have Y4 := hide iy
        have HC4 := hide (And.intro (cell_later hb HC.out.1) (And.intro (cell_later hb HC.out.2.1) (And.intro (cell_later hb HC.out.2.2.1) (cell_later hb HC.out.2.2.2))))
        clear hb iy E3 B3 X3 HC
        go_wp2_with fail
        refine rev_reg6 _ N p n cap w.heap.size l ⟨(f : Int), (t : Int), xa, xr⟩ w4 hn1 Hn E4 WL WX Hw0 HC4.out _ _ _ _ _ _ _ _ _ _ _ _ _ _ _ _ _ _ _ _ _ _ _ _ _ _ _ _ _ _ _ _ _ _ _ _ _ _ _ _ _ _ _ _ _ _ _ _ _ _ _ _ _ _ _ _ _ _ _ _ _ _ _ _ _ _ _ _ _ _ _ _ _ _ _ _ _ _ _ _ _ _ _ _ _ _ _ _ _ _ _ _ _ _ _ _ _ _ _ _ _ _ _ _ _ _ _ _ _ _ _ _ _ _ _ _ _ _ _ _ _ _ _ _ _ _ _ _ _ _ _ _ (hide ?_)
        intro pz cz w5 v50 v51 v52 v53 v54 v55 v56 v57 v58 v59 v60 v61 v62 v63 v64 v65 v66 v67 hb iz
        have B5 := hide (bseq B4.out hb); have X5 := hide (X4.out.keep (Keeps.of_below hb)); have Y5 := hide (Y4.out.keep (Keeps.of_below hb)); have Z5 := hide iz
        have HC5 := hide (And.intro (cell_later hb HC4.out.1) (And.intro (cell_later hb HC4.out.2.1) (cell_later hb HC4.out.2.2.1)))
        clear hb iz E4 B4 X4 Y4 HC4
        rcases hOK with ⟨ok, e0⟩ | ⟨ok, e1, e2⟩
        · subst e0
          obtain ⟨o1, o2⟩ := rev_ok Hv.out ok
          have g1 : balE N (l ++ [(⟨(f : Int), (t : Int), xa, xr⟩ : Ent)]) = 0 := by
            rcases balE_le (n := N) (l := l ++ [(⟨(f : Int), (t : Int), xa, xr⟩ : Ent)]) (by rw [List.length_append, Hn.out]; simp; omega) with ⟨_, h⟩ | ⟨h, _⟩
            · exact h
            · rw [o1] at h; cases h
          have g2 : balE N (l ++ [(⟨(f : Int), (t : Int), xa, xr⟩ : Ent), revE ⟨(f : Int), (t : Int), xa, xr⟩]) = 0 := by
            rcases balE_le (n := N) (l := l ++ [(⟨(f : Int), (t : Int), xa, xr⟩ : Ent), revE ⟨(f : Int), (t : Int), xa, xr⟩]) (by rw [List.length_append, Hn.out]; simp; omega) with ⟨_, h⟩ | ⟨h, _⟩
            · exact h
            · rw [o2] at h; cases h
          have Lx := balL_at Hex.out
          have Ly := balL_at g1
          have Lz := balL_at g2
          have ez : (List.range N).map (fun (i : Nat) => netF (l ++ [(⟨(f : Int), (t : Int), xa, xr⟩ : Ent), revE ⟨(f : Int), (t : Int), xa, xr⟩]) (i : Int)) = (List.range N).map fun (i : Nat) => netF l (i : Int) := List.map_congr_left fun i _ => rev_net Hv.out _ _
          rw [ez] at Lz
          have hall := (balE_zero Hex.out).2.1
          have D1 := hide (Bd.net hall (by rw [Hn.out]; omega) N)
          have hy1 : ∀ i : Nat, netF (l ++ [(⟨(f : Int), (t : Int), xa, xr⟩ : Ent)]) (i : Int) = netF l (i : Int) + ent1 ⟨(f : Int), (t : Int), xa, xr⟩ i := fun i => netF_snoc _ _ _
          have HY1 := hide hy1
          have hlr : ∀ F : Nat → Int, ((List.range N).map F).length = N := fun F => by simp
          have HLR := hide hlr
          rw [g1, g2, Lx, Ly, Lz]
          rw [Lx] at X5
          rw [Ly] at Y5
          rw [Lz] at Z5
          simp only [hlr]
          have hc1 := HC5.out.1; have hc2 := HC5.out.2.1; have hc3 := HC5.out.2.2
          clear ok o1 o2 g1 g2 Lx Ly Lz ez hall hy1 hlr HC5
          go_wp2_with (go_at_call 21; refine Stop.out ?_)
          refine Stop.go (ints_c px pz N N cx cz _ _ _ _ (HLR.out _) (HLR.out _) (by unfold maxLen; omega) (by unfold maxLen; omega) X5.out Z5.out ?_)
          rw [decide_eq_true rfl]
          intro w6 d6
          have B6 := hide (B5.out.trans d6.below); have X6 := hide (X5.out.keep d6.keeps); have Y6 := hide (Y5.out.keep d6.keeps)
          have k1 := d6.keeps _ _ hc1; have k2 := d6.keeps _ _ hc2; have k3 := d6.keeps _ _ hc3
          clear d6 B5 X5 Y5 Z5 hc1 hc2 hc3
          go_wp2_with fail
          go_loopw [14, 15] (fun i dd wr => ∃ k d : Nat, k ≤ N ∧ i = .int .i64 k ∧ wr = w6.drewN d) (fun i _ _ => N - (intOf i).toNat)
          case atStart => exact ⟨0, 0, Nat.zero_le _, rfl, rfl⟩
          case round =>
            obtain ⟨k, d, hk, rfl, rfl⟩ := hrel
            by_cases hlt : k < N
            · obtain ⟨bx, ox, x1, rfl, hx, hcx⟩ := X6.out.at_ (i := k) (by rw [HLR.out]; exact hlt)
              obtain ⟨by', oy, y1, rfl, hy, hcy⟩ := Y6.out.at_ (i := k) (by rw [HLR.out]; exact hlt)
              rw [at_range _ _ _ hlt] at hx hy
              injection hx with hx; injection hy with hy
              have b1 := D1.out x1 (by rw [← hx]; exact List.mem_map.2 ⟨k, by simpa using hlt, rfl⟩)
              have hyv := HY1.out k
              rw [hy, hx] at hyv
              obtain ⟨b11, b12⟩ := b1
              have hd : ∃ v : Int, y1 = x1 + v ∧ ((k = t ∧ v = xa) ∨ (k = f ∧ v = 0 - xa) ∨ (k ≠ t ∧ k ≠ f ∧ v = 0)) := by
                refine ⟨ent1 ⟨(f : Int), (t : Int), xa, xr⟩ k, hyv, ?_⟩
                unfold ent1
                simp only
                by_cases a1 : k = t
                · left; rw [if_pos (by omega), if_neg (by omega)]; omega
                · by_cases a2 : k = f
                  · right; left; rw [if_neg (by omega), if_pos (by omega)]; omega
                  · right; right; rw [if_neg (by omega), if_neg (by omega)]; omega
              obtain ⟨v, hv1, hv2⟩ := hd
              clear hx hy hyv
              have hsm : x1 + v ≤ 9000000000000000 ∧ -9000000000000000 ≤ x1 + v := by omega
              rcases hv2 with ⟨a1, a2⟩ | ⟨a1, a2⟩ | ⟨a1, a2, a3⟩
              · subst a1; subst a2
                have t1 : ((k : Int) == (k : Int)) = true := by simp
                have t2 : ((k : Int) == (f : Int)) = false := by simp; omega
                have hw := wrap_small (x := x1 + v) (by omega)
                have hne : (y1 != x1 + v) = false := by simp [hv1]
                clear hv1
                go_wp2
                go_quiet (fail)
                clear hw
                go_wp2
                go_roundw
                case rel => exact ⟨k + 1, _, by omega, by go_num, (by first | rfl | exact World.drewN_drewN _ _ _)⟩
                case measure => simp [intOf]; omega
              · subst a1
                have t1 : ((k : Int) == (t : Int)) = false := by simp; omega
                have t2 : ((k : Int) == (k : Int)) = true := by simp
                have e0 : x1 + v = x1 + -xa := by omega
                rw [e0] at hv1 hsm
                have hw := wrap_small (x := x1 + -xa) (by omega)
                have hne : (y1 != x1 + -xa) = false := by simp [hv1]
                clear hv1 e0 a2
                go_wp2
                go_quiet (fail)
                clear hw
                go_wp2
                go_roundw
                case rel => exact ⟨k + 1, _, by omega, by go_num, (by first | rfl | exact World.drewN_drewN _ _ _)⟩
                case measure => simp [intOf]; omega
              · subst a3
                have t1 : ((k : Int) == (t : Int)) = false := by simp; omega
                have t2 : ((k : Int) == (f : Int)) = false := by simp; omega
                rw [Int.add_zero] at hv1
                have hw := wrap_small (x := x1) (by omega)
                have hne : (y1 != x1) = false := by simp [hv1]
                clear hv1
                go_wp2
                go_quiet (fail)
                clear hw
                go_wp2
                go_roundw
                case rel => exact ⟨k + 1, _, by omega, by go_num, (by first | rfl | exact World.drewN_drewN _ _ _)⟩
                case measure => simp [intOf]; omega
            · have B7 := hide (below_drewN' B6.out d)
              go_wp2
              exact HR.out _ B7.out
        · have r1 := rev_no (m := [(⟨(f : Int), (t : Int), xa, xr⟩ : Ent)]) Hv.out ok
          have r2 := rev_no (m := [(⟨(f : Int), (t : Int), xa, xr⟩ : Ent), revE ⟨(f : Int), (t : Int), xa, xr⟩]) Hv.out ok
          rw [r1, r2]
          clear r1 r2
          subst e1
          go_wp2_with fail
          exact HR.out _ B5.out

set_option maxRecDepth 100000 in
theorem reversal_holds_lifted (os : Os) (started : os.Started) (H : Type) (enc : TypeId × Value → H) :
    ReturnsInHanded {} Try.checked os 5 .any (Rows.ledgerReversalSpec.pre6 enc Try.prog Try.f5 Rows.ledgerReversalRow.domain false) (Rows.ledgerReversalSpec.post enc Try.prog Try.f5 false true false false) := by
  refine returnsInHanded_of_change (C := Try.checked) Try.own started (by kernel_rfl) Try.func5
    (ChangeSpec.witness6 (enc := enc) (C := Try.checked) false ⟨#[], #[.int .i64 0, .slice none 0 0, .agg #[.int .i64 0, .int .i64 0, .int .i64 0, .string ⟨#[]⟩]], []⟩ 8 (by kernel_rfl) (by kernel_rfl) (by kernel_rfl) (by kernel_rfl)) ?_
  intro W base args ds gs before hval0 hW hcnd _
  have hval : ∀ (j : Nat) t v, Try.f5.params[j]? = some t → args[j]? = some v → Value.okWide Try.prog W .any base t v := hval0
  have hW' := hW
  obtain ⟨p, q, hA0, hV, rfl, hfz, hnd⟩ := hW
  have hA : DataW.TrodAll enc Try.prog W 0 (fun _ => true) true Try.f5.params.toList args.toList ds p := hA0
  have hA1 := hA
  rw [Try.params5] at hA hval
  obtain ⟨v0, vs0, d0, ds0, p0, q0, hargs, rfl, rfl, h0, r0⟩ := trodAll_cons hA
  obtain ⟨v1, vs1, d1, ds1, p1, q1, rfl, rfl, rfl, h1, r1⟩ := trodAll_cons r0
  obtain ⟨v2, vs2, d2, ds2, p2, q2, rfl, rfl, rfl, h2, r2⟩ := trodAll_cons r1
  obtain ⟨rfl, rfl, rfl⟩ := trodAll_nil r2
  obtain rfl : args = #[v0, v1, v2] := by cases args; simp_all
  obtain ⟨rfl, rfl⟩ := trodVars_none hV
  obtain ⟨x0, rfl, _, _, hw0⟩ := open_int Try.underlying3 (hval 0 3 v0 rfl rfl) h0
  obtain ⟨a1, n1, c1, l1, rfl, hl1, hm1, hi1, hz1, hw1⟩ := open_ents (hval 1 22 v1 rfl rfl) h1
  obtain ⟨x2, rfl, hw2⟩ := open_ent (hval 2 34 v2 rfl rfl) h2
  refine reversal_c x0 a1 n1 c1 l1 x2 W _ hw0 hl1 hm1 hi1 hz1 hw1 hw2 fun W' bel => ?_
  exact ⟨_, rfl, law_post Try.laidOut bel rfl hW' hA1 (by kernel_rfl) rfl Try.underlying4 rfl rfl rfl⟩

theorem reversal_holds : Rows.LedgerReversalSaid :=
  OpenClaim.holds_of_wide 5 Try.f5 rfl rfl rfl rfl rfl rfl rfl ⟨rfl, rfl, rfl, rfl, rfl⟩ rfl rfl rfl rfl rfl (by kernel_rfl) Try.func5 (by kernel_rfl)
    (of_decide_eq_true (by kernel_rfl)) (by unfold Func.isWrapper; rw [if_neg (of_decide_eq_false (by kernel_rfl))]; exact ⟨rfl, rfl⟩)
    (fun os started H enc _ => reversal_holds_lifted os started H enc)

end Go.Proofs.Ytajnoocjjkjfmaa
