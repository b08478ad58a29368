/- SamplingPlans: the chosen numbers begin with the first one, are a step apart, below n, and the next one is not; all plans with one step choose each number exactly once. -/
import Derived.Test.YtjaecoebleijmaaC8
import Derived.Test.YtjaecoebleijmaaM1
import Derived.Test.YtjaecoebleijmaaFr
set_option linter.unusedVariables false
set_option linter.unusedSimpArgs false
namespace Go.Proofs.Ytjaecoebleijmaa
open Go.ChangeShapes Go.WideShapes Go.ChangeAt Go.RowKit

theorem own_below {w w' : World} {base e size n : Nat} {v : Value} {xs : List Value} (h : w.ownsRow base e size v n xs) (hb : Below w.heap.size w w') : w'.ownsRow base e size v n xs := by
  refine ⟨h.1, ?_⟩
  rcases h.2 with h' | ⟨g, cap, cur, hv, hg, hh, rest⟩
  · exact .inl h'
  · exact .inr ⟨g, cap, cur, hv, hg, (hb.block g (Array.getElem?_eq_some_iff.1 hh).1).trans hh, rest⟩

/-- How often each number has been seen when the plans before k, and j numbers of plan k, are done. -/
def seenAt (s k j i : Nat) : Int := if i % s < k then 1 else if i % s = k ∧ i / s < j then 1 else 0
def seenL (n s k j : Nat) : List Int := (List.range n).map (seenAt s k j)
theorem seenL_set (n s k j : Nat) (hs : k < s) : (seenL n s k j).set (k + j * s) 1 = seenL n s k (j + 1) := by
  unfold seenL
  refine set_range _ _ _ _ _ fun i hi => ?_
  unfold seenAt
  have hd := Nat.div_add_mod i s
  by_cases h : k + j * s = i
  · subst h
    rw [if_pos rfl, Nat.add_mul_mod_self_right, Nat.mod_eq_of_lt hs, if_neg (by omega), Nat.add_mul_div_right _ _ (by omega), Nat.div_eq_of_lt hs, if_pos (by omega)]
  · rw [if_neg h]
    by_cases h1 : i % s < k
    · rw [if_pos h1, if_pos h1]
    · rw [if_neg h1, if_neg h1]
      by_cases h2 : i % s = k ∧ i / s < j
      · rw [if_pos h2, if_pos (by omega)]
      · rw [if_neg h2, if_neg]
        rintro ⟨a, b⟩
        have : i / s = j := by omega
        rw [this, a] at hd
        exact h (by rw [Nat.mul_comm j s]; omega)
theorem seenAt_zero (s k j : Nat) (hs : k < s) : seenAt s k j (k + j * s) = 0 := by
  unfold seenAt
  rw [Nat.add_mul_mod_self_right, Nat.mod_eq_of_lt hs, if_neg (by omega), Nat.add_mul_div_right _ _ (by omega), Nat.div_eq_of_lt hs, if_neg (by omega)]
theorem seenL_next (n s k c : Nat) (hs : k < s) (hc : ∀ j, j < c ↔ k + j * s < n) : seenL n s k c = seenL n s (k + 1) 0 := by
  unfold seenL
  apply List.map_congr_left
  intro i hi
  have hi' : i < n := by simpa using hi
  unfold seenAt
  have hd := Nat.div_add_mod i s
  by_cases h1 : i % s < k
  · rw [if_pos h1, if_pos (by omega)]
  · rw [if_neg h1]
    by_cases h2 : i % s = k
    · rw [if_pos (show i % s < k + 1 by omega), if_pos]
      refine ⟨h2, (hc _).2 ?_⟩
      rw [Nat.mul_comm]; omega
    · rw [if_neg (fun h => h2 h.1), if_neg (show ¬ i % s < k + 1 by omega), if_neg (fun h => absurd h.2 (Nat.not_lt_zero _))]
theorem seenL_last (n s i : Nat) (hs : 0 < s) (hi : i < n) : (seenL n s s 0)[i]? = some 1 := by
  unfold seenL
  rw [List.getElem?_map, List.getElem?_range hi]
  show some (seenAt s s 0 i) = some 1
  unfold seenAt
  rw [if_pos (Nat.mod_lt _ hs)]
theorem zeros_seen (n s : Nat) : (madeCells (Value.int .i64 0).cells (n * 1)).toList = (seenL n s 0 0).map (Value.int .i64) := by
  rw [zeros_cells n 0 []]
  congr 1
  unfold seenL
  apply List.map_congr_left
  intro i _
  unfold seenAt
  rw [if_neg (by omega), if_neg (by omega), if_neg (fun h => absurd h.2 (Nat.not_lt_zero _))]

theorem sq_at (n s f j : Nat) (hj : j < cnt n s f) : (sq n s f)[j]? = some ((f + j * s : Nat) : Int) := by
  unfold sq
  rw [List.getElem?_map, List.getElem?_range hj]
  simp
theorem cnt_nat (n s f : Nat) (h1 : 1 ≤ s) (h2 : f ≤ n + s) (j : Nat) : j < cnt n s f ↔ f + j * s < n := by
  have := cnt_iff (n := n) (step := s) (first := f) (by omega) (by omega) j
  rw [this]
  have e : (f : Int) + (j : Int) * (s : Int) = ((f + j * s : Nat) : Int) := by simp
  rw [e]
  omega

set_option maxRecDepth 100000 in
set_option maxHeartbeats 2000000 in
theorem plans_c (n step first : Int) (w : World) (R) (hw0 : (Lit.int .i64 n).wf = true) (hw1 : (Lit.int .i64 step).wf = true) (hw2 : (Lit.int .i64 first).wf = true)
    (hR : ∀ w', Below w.heap.size w w' → R (.returned (.bool true)) w') : Calls Try.prog 4 #[.int .i64 n, .int .i64 step, .int .i64 first] w R := by
  have HR := hide hR
  clear hR hw0 hw1 hw2
  cases hf : (decide (n ≤ 500) && validB n step first) with
  | false =>
    have Hf := hide hf; clear hf
    go_enter Try.func4, Try.ntmps4
    go_wp2_with (go_at_call 9; refine Stop.out ?_)
    refine Stop.go (head_c _ _ ?_)
    intro w1 B1
    replace B1 := hide B1
    go_wp2_with (go_at_call 15; refine fine_c _ _ _ _ _ ?_; rw [Hf.out])
    exact HR.out _ B1.out
  | true =>
    have Hf := hide hf
    rw [Bool.and_eq_true, decide_eq_true_eq] at hf
    obtain ⟨hn5, hv⟩ := hf
    have Hv := hide hv; clear hv
    obtain ⟨v1, v2, v3, v4, v5, v6⟩ := valid_true Hv.out
    obtain ⟨n, rfl⟩ := Int.eq_ofNat_of_zero_le (show 0 ≤ n by omega)
    obtain ⟨s, rfl⟩ := Int.eq_ofNat_of_zero_le (show 0 ≤ step by omega)
    obtain ⟨f, rfl⟩ := Int.eq_ofNat_of_zero_le v5
    have c1 := cnt_le Hv.out
    have c0 := cnt_pos Hv.out
    have hcn := hide (cnt_nat n s f (by omega) (by omega))
    have hat := hide (sq_at n s f)
    have hsl := hide (sq_len n s f)
    obtain ⟨i0, hi0, hz0, hz1, hz2⟩ := info_parts Try.info3'
    generalize hsq : sq n s f = q at *
    generalize hcc : cnt n s f = c at *
    have Hsq := hide hsq; have Hcc := hide hcc
    clear hsq hcc
    go_enter Try.func4, Try.ntmps4
    go_wp2_with (go_at_call 9; refine Stop.out ?_)
    refine Stop.go (head_c _ _ ?_)
    intro w1 B1
    replace B1 := hide B1
    go_wp2_with (go_at_call 15; refine Stop.out ?_)
    refine Stop.go (fine_c _ _ _ _ _ ?_)
    rw [Hf.out]
    go_wp2_with (go_at_call 10; refine Stop.out ?_)
    refine Stop.go (chosen_c _ _ _ Hv.out _ _ ?_)
    intro v2 w2 o2 b2
    rw [Hsq.out, hsl.out] at o2
    obtain ⟨g2, cap2, rfl, hg2, hg2'⟩ := own_form o2 (by omega)
    have I2 := hide (IntsAt.of_own o2)
    have B2 := hide (bseq B1.out b2)
    have cell := hide (fun j (hj : j < c) => (show w2.cell? ⟨g2, j, none⟩ = some (.int .i64 ((f + j * s : Nat) : Int)) by
      rw [owni_cell o2 hj, getD_of (hat.out j hj)]))
    have l0 : w2.cell? ⟨g2, 0, none⟩ = some (.int .i64 f) := by have := cell.out 0 (by omega); simpa using this
    obtain ⟨e, hc⟩ : ∃ e, c = e + 1 := ⟨c - 1, by omega⟩
    have l1 : w2.cell? ⟨g2, e, none⟩ = some (.int .i64 ((f + e * s : Nat) : Int)) := cell.out e (by omega)
    have p1 : f + e * s < n := (hcn.out e).1 (by omega)
    have p2 : ¬ f + (e + 1) * s < n := fun h => by have := (hcn.out (e + 1)).2 h; omega
    rw [Nat.add_mul] at p2
    generalize hes : e * s = es at *
    have Hes := hide hes
    have hce : (c : Int) - 1 = e := by omega
    clear b2 o2 hes
    have hcl : e + 1 ≤ 500 := by omega
    subst hc
    clear hce
    have hcz : ((e : Int) + 1 == 0) = false := by simp; omega
    have q1 : decide ((n : Int) ≤ (f : Int) + (es : Int)) = false := by simp; omega
    have q2 : decide ((f : Int) + (es : Int) + (s : Int) < (n : Int)) = false := by simp; omega
    clear p2
    go_wp2_with fail
    clear hcz q1 q2 l0 l1
    go_loopw [10] (fun i wr => ∃ k d : Nat, k ≤ e ∧ i = .int .i64 ((k : Int) + 1) ∧ wr = w2.drewN d) (fun i _ => (e + 1) - (intOf i).toNat)
    case atStart => exact ⟨0, 0, Nat.zero_le _, by simp, rfl⟩
    case round =>
      obtain ⟨k, d, hk, rfl, rfl⟩ := hrel
      by_cases hlt : k < e
      · have d0 := cell.out k (by omega)
        have d1 := cell.out (k + 1) (by omega)
        have d2 : f + k * s < n := (hcn.out k).1 (by omega)
        have d3 : f + (k + 1) * s < n := (hcn.out (k + 1)).1 (by omega)
        rw [Nat.add_mul, Nat.one_mul] at d1 d3
        generalize k * s = ks at *
        have d4 : (((f + (ks + s) : Nat) : Int) != (f : Int) + (ks : Int) + (s : Int)) = false := by simp; omega
        go_wp2_with fail
        go_quiet (fail)
        go_wp2_with fail
        clear d4 d0 d1
        go_roundw
        case rel => exact ⟨k + 1, _, by omega, by go_num, rfl⟩
        case measure => simp [intOf]; omega
      · have hke : k = e := by omega
        subst hke
        have B3 : Hid (Below w.heap.size w (w2.drewN d)) := hide (below_drewN' B2.out d)
        generalize w2.drewN d = w3 at *
        go_wp2_with (at_make; refine Stop.out ?_)
        refine Stop.go ?_
        refine wpList_make_full _ rfl (.tmp 85) (.tmp 85) 22 rfl w3.heap.size 3 i0 (.int .i64 0) 1 Try.underlying22 hi0 hz0 hz1 .i64 .i64 n n n rfl rfl rfl rfl (by rw [hz2]; omega) (by unfold maxLen; omega) (Nat.le_refl _) ?_
        intro w4 o4 g4
        rw [zeros_seen n s] at o4
        have B4 := hide (show Below w.heap.size w w4 from bseq B3.out ((Below.refl _ _).grown g4 (Nat.le_refl _) (fun k e => by cases e)))
        have O4 := hide o4
        have hB3 := B3.out.size
        generalize w3.heap.size = g at *
        clear o4 g4
        go_wp2_with fail
        go_loopw [12] (fun i wr => ∃ k : Nat, k ≤ s ∧ i = .int .i64 k ∧ Hid (wr.ownsRow g 3 1 (.slice (some ⟨g, 0, none⟩) n n) n ((seenL n s k 0).map (Value.int .i64))) ∧ Hid (Below w.heap.size w wr)) (fun i _ => s - (intOf i).toNat)
        case atStart => exact ⟨0, Nat.zero_le _, rfl, O4, B4⟩
        case round =>
          clear O4 B4
          obtain ⟨k, hk, rfl, Ho, Hb⟩ := hrel
          by_cases hlt : k < s
          · have hvk : validB n s k = true := validB_mk (by omega) (by omega) (by omega) (by omega) (by omega) (by omega)
            have Hvk := hide hvk
            have hgs := hide (Ho.out.lt g rfl)
            have ck1 := cnt_le hvk
            have ck0 := cnt_pos hvk
            have hcn := hide (cnt_nat n s k (by omega) (by omega))
            have hat := hide (sq_at n s k)
            have hsl := hide (sq_len n s k)
            generalize hsq : sq n s k = q at *
            generalize hcc : cnt n s k = c at *
            have Hsq := hide hsq; have Hcc := hide hcc
            clear hsq hcc hvk
            go_wp2_with (go_at_call 10; refine Stop.out ?_)
            refine Stop.go (chosen_c _ _ _ Hvk.out _ _ ?_)
            intro v5 w5 o5 b5
            rw [Hsq.out, hsl.out] at o5
            obtain ⟨g5, cap5, rfl, hg5, hg5'⟩ := own_form o5 (by omega)
            have hgg : g < g5 := by have := hgs.out.2; omega
            have Cell5 := hide (fun j (hj : j < c) => (show w5.cell? ⟨g5, j, none⟩ = some (.int .i64 ((k + j * s : Nat) : Int)) by
              rw [owni_cell o5 hj, getD_of (hat.out j hj)]))
            have Ho5 := hide (own_below Ho.out b5)
            have B5 := hide (bseq Hb.out b5)
            clear b5 o5
            go_wp2_with fail
            go_loopw [15] (fun i wr => ∃ j : Nat, j ≤ c ∧ i = .int .i64 j ∧ Hid (wr.ownsRow g 3 1 (.slice (some ⟨g, 0, none⟩) n n) n ((seenL n s k j).map (Value.int .i64))) ∧ Hid (w5.grownBy wr (some g))) (fun i _ => c - (intOf i).toNat)
            case atStart => exact ⟨0, Nat.zero_le _, rfl, Ho5, hide (World.grownBy.refl _ _)⟩
            case round =>
              obtain ⟨j, hj, rfl, Hoj, Hgj⟩ := hrel
              by_cases hltj : j < c
              · have d0 := Hgj.out.cell (Cell5.out j hltj) (by simp; omega)
                have d2 : k + j * s < n := (hcn.out j).1 hltj
                have Hset := hide (seenL_set n s k j (by omega))
                have e0 := owni_cell Hoj.out (i := k + j * s) d2
                rw [show (seenL n s k j).getD (k + j * s) 0 = 0 by unfold seenL; rw [getD_range _ _ _ d2]; exact seenAt_zero s k j (by omega)] at e0
                have hfz := Hoj.out.frozenAt (k + j * s)
                generalize k + j * s = x at *
                go_wp2_with fail
                go_roundw
                case rel =>
                  refine ⟨j + 1, by omega, by go_num, hide ?_, hide (grownBy_set Hgj.out x _)⟩
                  have := owni_set Hoj.out x 1
                  rw [Hset.out] at this
                  exact this
                case measure => simp [intOf]; try omega
              · have hjc : j = c := by omega
                subst hjc
                have Hnx := hide (seenL_next n s k j (by omega) hcn.out)
                rw [Hnx.out] at Hoj
                have Bj := hide (show Below w.heap.size w wr from B5.out.grown Hgj.out B5.out.size (fun k e => by cases e; have := B3.out.size; omega))
                go_wp2_with fail
                go_roundw
                case rel => exact ⟨k + 1, by omega, by go_num, Hoj, Bj⟩
                case measure => simp [intOf]; try omega
          · have hks : k = s := by omega
            subst hks
            go_wp2_with fail
            go_loop [16] (fun i => ∃ j : Nat, j ≤ n ∧ i = .int .i64 j) (fun i => n - (intOf i).toNat)
            case atStart => exact ⟨0, Nat.zero_le _, rfl⟩
            case round =>
              obtain ⟨j, hj, rfl⟩ := hrel
              by_cases hltj : j < n
              · have e0 := owni_cell Ho.out (i := j) hltj
                rw [getD_of (seenL_last n k j (by omega) hltj)] at e0
                go_wp2_with fail
                go_round
                case rel => exact ⟨j + 1, by omega, by go_num⟩
                case measure => simp [intOf]; try omega
              · go_wp2_with fail
                exact HR.out _ Hb.out

set_option maxRecDepth 100000 in
theorem plans_holds_lifted (os : Os) (started : os.Started) (H : Type) (enc : TypeId × Value → H) :
    ReturnsInHanded {} Try.checked os 4 .any (Rows.samplingPlansSpec.pre6 enc Try.prog Try.f4 Rows.samplingPlansRow.domain false) (Rows.samplingPlansSpec.post enc Try.prog Try.f4 false true false false) := by
  refine returnsInHanded_of_change (C := Try.checked) Try.own started (by kernel_rfl) Try.func4
    (ChangeSpec.witness6 (enc := enc) (C := Try.checked) false ⟨#[], #[.int .i64 0, .int .i64 0, .int .i64 0], []⟩ 8 (by kernel_rfl) (by kernel_rfl) (by kernel_rfl) (by kernel_rfl)) ?_
  intro W base args ds gs before hval0 hW hcnd _
  have hval : ∀ (j : Nat) t v, Try.f4.params[j]? = some t → args[j]? = some v → Value.okWide Try.prog W .any base t v := hval0
  have hW' := hW
  obtain ⟨p, q, hA0, hV, rfl, hfz, hnd⟩ := hW
  have hA : DataW.TrodAll enc Try.prog W 0 (fun _ => true) true Try.f4.params.toList args.toList ds p := hA0
  have hA1 := hA
  rw [Try.params4] at hA hval
  obtain ⟨v0, vs0, d0, ds0, p0, q0, hargs, rfl, rfl, h0, r0⟩ := trodAll_cons hA
  obtain ⟨v1, vs1, d1, ds1, p1, q1, rfl, rfl, rfl, h1, r1⟩ := trodAll_cons r0
  obtain ⟨v2, vs2, d2, ds2, p2, q2, rfl, rfl, rfl, h2, r2⟩ := trodAll_cons r1
  obtain ⟨rfl, rfl, rfl⟩ := trodAll_nil r2
  obtain rfl : args = #[v0, v1, v2] := by cases args; simp_all
  obtain ⟨rfl, rfl⟩ := trodVars_none hV
  obtain ⟨x0, rfl, _, _, hw0⟩ := open_int Try.underlying3 (hval 0 3 v0 rfl rfl) h0
  obtain ⟨x1, rfl, _, _, hw1⟩ := open_int Try.underlying3 (hval 1 3 v1 rfl rfl) h1
  obtain ⟨x2, rfl, _, _, hw2⟩ := open_int Try.underlying3 (hval 2 3 v2 rfl rfl) h2
  refine plans_c x0 x1 x2 W _ hw0 hw1 hw2 fun W' bel => ?_
  exact ⟨_, rfl, law_post Try.laidOut bel rfl hW' hA1 (by kernel_rfl) rfl Try.underlying4 rfl rfl rfl⟩

theorem plans_holds : Rows.SamplingPlansSaid :=
  OpenClaim.holds_of_wide 4 Try.f4 rfl rfl rfl rfl rfl rfl rfl ⟨rfl, rfl, rfl, rfl, rfl⟩ rfl rfl rfl rfl rfl (by kernel_rfl) Try.func4 (by kernel_rfl)
    (of_decide_eq_true (by kernel_rfl)) (by unfold Func.isWrapper; rw [if_neg (of_decide_eq_false (by kernel_rfl))]; exact ⟨rfl, rfl⟩)
    (fun os started H enc _ => plans_holds_lifted os started H enc)

end Go.Proofs.Ytjaecoebleijmaa
