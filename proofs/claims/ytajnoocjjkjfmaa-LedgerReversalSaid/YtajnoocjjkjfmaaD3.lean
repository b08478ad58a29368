import Derived.Test.YtajnoocjjkjfmaaD1
set_option linter.unusedVariables false
set_option linter.unusedSimpArgs false
namespace Go.Proofs.Ytajnoocjjkjfmaa
open Go.RowKit

theorem Try.info4 : (Try.prog.info? 4).map (fun i => (i.zero, i.size, i.bytes)) = some (some (.bool false), 1, 1) := by kernel_rfl
theorem prod_bd {a x : Int} (h1 : 0 ≤ a ∧ a ≤ 1000000000) (h2 : 0 ≤ x ∧ x ≤ 1000000) : 0 ≤ a * x ∧ a * x ≤ 1000000000000000 := by
  have h3 : 0 ≤ a * x := Int.mul_nonneg h1.1 h2.1
  have h4 : a * x ≤ 1000000000 * 1000000 := Int.mul_le_mul h1.2 h2.2 h2.1 (by omega)
  omega
theorem wrap_small {x : Int} (h : -9223372036854775808 ≤ x ∧ x ≤ 9223372036854775807) : IntKind.i64.wrap x = x := IntWalk.i64_in _ (by omega)

theorem zeros_bool (n : Nat) (a : Int) (l : List Int) (hl : l.length = n) : (madeCells (Value.bool false).cells (n * 1)).toList = (givenL a l 0).map Value.bool := by
  apply List.ext_getElem
  · simp [madeCells, Value.cells, givenL, hl]
  · intro i h1 h2
    simp [madeCells, Value.cells, givenL, Nat.mod_one]
theorem part_zero (a : Int) (l : List Int) : (List.range l.length).map (part a l 0) = (List.range l.length).map (flo a l) := by
  apply List.map_congr_left
  intro i _
  unfold part
  rw [if_neg (by omega)]; omega
theorem part_zero_n {a : Int} {l : List Int} {n : Nat} (hn : l.length = n) : (List.range l.length).map (part a l ((0 : Nat) : Int)) = (List.range n).map (flo a l) := by
  rw [← hn]; exact part_zero a l
theorem ownb_cell {w : World} {base e g cap : Nat} {n : Nat} {xs : List Bool} (h : w.ownsRow base e 1 (.slice (some ⟨g, 0, none⟩) n cap) n (xs.map Value.bool)) {i : Nat} {b : Bool} (hb : xs[i]? = some b) : w.cell? ⟨g, i, none⟩ = some (.bool b) := by
  have hl : xs.length = n := by simpa using h.1
  have := (List.getElem?_eq_some_iff.1 hb).1
  rw [h.cellAt i (by omega), List.getElem?_map, hb]; rfl
theorem ownb_set {w : World} {base e g cap : Nat} {n : Nat} {xs : List Bool} (h : w.ownsRow base e 1 (.slice (some ⟨g, 0, none⟩) n cap) n (xs.map Value.bool)) (i : Nat) (b : Bool) :
    (w.setCell ⟨g, i, none⟩ (.bool b)).ownsRow base e 1 (.slice (some ⟨g, 0, none⟩) n cap) n ((xs.set i b).map Value.bool) := by
  rw [List.map_set]
  exact (h.stored i (.bool b)).1
theorem given_at {a : Int} {l : List Int} {t i : Nat} (hi : i < l.length) : (givenL a l t)[i]? = some (decide (rki a l i < t)) := by
  unfold givenL
  rw [List.getElem?_map, List.getElem?_range hi]; rfl
theorem bestS_keep {a : Int} {l : List Int} {t i : Nat} (h : ¬ t ≤ rki a l i) : bestS a l t (i + 1) = bestS a l t i := if_neg (fun h' => h h'.1)

set_option maxHeartbeats 4000000 in
set_option maxRecDepth 100000 in
theorem refSplit_c (a : Int) (p : Option Addr) (n cap : Nat) (l : List Int) (w : World) (R) (hn : l.length = n) (hl : n ≤ maxLen) (h : IntsAt .i64 w p l)
    (hR : ∀ v w', Below w.heap.size w w' → w'.ownsRow w.heap.size 3 1 v (splitL a l).length ((splitL a l).map (Value.int .i64)) → R (.returned (.tuple #[v, .int .i64 (splitE a l)])) w') :
    Calls Try.prog 16 #[.int .i64 a, .slice p n cap] w R := by
  unfold maxLen at hl
  have Hn := hide hn; have H := hide h; have HR := hide hR
  clear hn h hR
  have Hbad := hide (fun (hb : splitOk a l = false) w' (B : Below w.heap.size w w') => (show R (.returned (.tuple #[.slice none 0 0, .int .i64 1])) w' by
    have := HR.out (.slice none 0 0) w' B (by unfold splitL; rw [hb]; exact World.ownsRow_nil ..)
    unfold splitE at this; rw [hb] at this; exact this))
  cases ha : inB a 0 1000000000 with
  | false =>
    have Ha := hide ha
    have hb := hide (Hbad.out (by unfold splitOk; rw [ha]; rfl) w (Below.refl _ _))
    clear ha
    go_enter Try.func16, Try.ntmps16
    go_wp2_with (first | (go_at_call 29; refine most_c _ _ ?_) | (go_at_call 25; refine between_c _ _ _ _ _ ?_; rw [Ha.out]))
    go_loop [6, 7, 8] (fun sm ok i => sm = .int .i64 0 ∧ ok = .bool false ∧ i = .int .i64 0) (fun _ _ _ => 0)
    case atStart => exact ⟨rfl, rfl, rfl⟩
    case round =>
      obtain ⟨rfl, rfl, rfl⟩ := hrel
      by_cases hn0 : 0 < n
      all_goals go_wp2
      all_goals exact hb.out
  | true =>
    have Ha := hide ha
    have hab := inB_true ha
    clear ha
    by_cases hn1 : n ≤ 100
    · have hn1b : decide ((n : Int) ≤ 100) = true := by simp; omega
      obtain ⟨ha1, ha2⟩ := hab
      go_enter Try.func16, Try.ntmps16
      go_wp2_with (first | (go_at_call 29; refine most_c _ _ ?_) | (go_at_call 25; refine between_c _ _ _ _ _ ?_; rw [Ha.out]))
      go_loop [6, 7, 8] (fun sm ok i => ∃ (k : Nat) (s : Int) (bo : Bool), k ≤ n ∧ i = .int .i64 k ∧ sm = .int .i64 s ∧ ok = .bool bo ∧ Hid (bo = true → s = (l.take k).sum ∧ (l.take k).all (fun s => inB s 0 1000000) = true) ∧ Hid (bo = false → splitOk a l = false)) (fun _ _ i => n - (intOf i).toNat)
      case atStart => exact ⟨0, 0, true, Nat.zero_le _, rfl, rfl, rfl, hide (fun _ => ⟨rfl, rfl⟩), hide (fun h => by cases h)⟩
      case round =>
        obtain ⟨k, s, bo, hk, rfl, rfl, rfl, h1, h2⟩ := hrel
        cases bo with
        | false =>
          have hbb := hide (Hbad.out (h2.out rfl) w (Below.refl _ _))
          by_cases hlt : k < n
          all_goals go_wp2
          all_goals exact hbb.out
        | true =>
          obtain ⟨hs, hal⟩ := h1.out rfl
          have hb := sum_in (all_in hal)
          have hlk : (l.take k).length ≤ k := List.length_take_le _ _
          rw [← hs] at hb
          have Hal := hide hal; have Hs := hide hs
          clear hal hs h1 h2
          by_cases hlt : k < n
          · obtain ⟨b, o, x, rfl, hx, hc⟩ := H.out.at_ (i := k) (by rw [Hn.out]; exact hlt)
            have Hx := hide hx
            clear hx
            go_wp2_with (first | (go_at_call 25; refine between_c _ _ _ _ _ ?_))
            go_round
            case rel => exact ⟨k + 1, _, inB x 0 1000000, by omega, by go_num, rfl, rfl, hide (fun hxi => ⟨by
              have hxb := inB_true hxi
              rw [List.take_add_one, List.sum_append_int, Hx.out, ← Hs.out]
              simp
              first | rfl | (rw [IntWalk.wrap64_in _ (by omega)]), by rw [all_take_succ _ _ _ _ Hx.out, Hal.out, hxi]; rfl⟩), hide (fun hxi => by
              have : l.all (fun s => inB s 0 1000000) = false := all_false_of _ _ _ _ Hx.out hxi
              unfold splitOk; rw [this]; simp)⟩
            case measure => simp [intOf]; omega
          · have hkn : l.take k = l := List.take_of_length_le (by rw [Hn.out]; omega)
            rw [hkn] at Hal
            have HS := hide (show l.sum = s by rw [← hkn]; exact Hs.out.symm)
            clear hkn Hs
            by_cases h0 : s = 0
            · have hbb := hide (Hbad.out (by unfold splitOk; rw [show decide (l.sum ≠ 0) = false by simp [HS.out, h0]]; simp) w (Below.refl _ _))
              subst h0
              go_wp2
              exact hbb.out
            · have hok : splitOk a l = true := by unfold splitOk; rw [Ha.out, Hal.out, Hn.out, HS.out]; simp [h0, hn1]
              have hs0 : 0 < s := by omega
              have hs1 : s ≤ 100000000 := by omega
              have hnp : 1 ≤ n := by
                rcases Nat.eq_zero_or_pos n with h | h
                · have : l = [] := List.eq_nil_of_length_eq_zero (by rw [Hn.out]; exact h)
                  rw [this] at HS; have := HS.out; simp at this; omega
                · exact h
              have HRok := hide (fun v w' (B : Below w.heap.size w w') (O : w'.ownsRow w.heap.size 3 1 v n (((List.range l.length).map (part a l (lft a l))).map (Value.int .i64))) => (show R (.returned (.tuple #[v, .int .i64 0])) w' by
                have e1 : splitL a l = (List.range l.length).map (part a l (lft a l)) := if_pos hok
                have e2 : ((List.range l.length).map (part a l (lft a l))).length = n := by simp [Hn.out]
                have := HR.out v w' B (by rw [e1, e2]; exact O)
                unfold splitE at this; rw [hok] at this; exact this))
              have hall := hide (all_in Hal.out)
              have hsk0 : (s == 0) = false := by simp; omega
              obtain ⟨j0, hj0, hjz0, hjz1, hjz2⟩ := info_parts Try.info3
              clear hok h0 hb hlk
              go_wp2
              go_loopw [9, 10, 11] (fun v t i wr => ∃ k : Nat, k ≤ n ∧ i = .int .i64 k ∧ t = .int .i64 (a - ((List.range k).map (flo a l)).sum) ∧
                Hid (wr.ownsRow w.heap.size 3 1 v k (((List.range k).map (flo a l)).map (Value.int .i64))) ∧ Hid (Below w.heap.size w wr)) (fun _ _ i _ => n - (intOf i).toNat)
              case atStart => exact ⟨0, Nat.zero_le _, rfl, by simp, hide (World.ownsRow_nil ..), hide (Below.refl _ _)⟩
              case round =>
                obtain ⟨k, hk, rfl, rfl, P1, Hb⟩ := hrel
                have hflo : ∀ i, i < n → 0 ≤ flo a l i ∧ flo a l i ≤ 1000000000000000 := fun i hi => by
                  obtain ⟨b, o, x, _, hx, _⟩ := H.out.at_ (i := i) (by rw [Hn.out]; exact hi)
                  have hp := prod_bd ⟨ha1, ha2⟩ (hall.out x (List.mem_of_getElem? hx))
                  unfold flo
                  rw [getD_of hx, HS.out]
                  have h3 := Int.ediv_nonneg hp.1 (show 0 ≤ s by omega)
                  have h4 := Int.ediv_le_self s hp.1
                  omega
                have hsum : 0 ≤ ((List.range k).map (flo a l)).sum ∧ ((List.range k).map (flo a l)).sum ≤ 1000000000000000 * (k : Int) := by
                  have h1 := sum_map_le (fun _ => 0) (flo a l) (List.range k) (fun i hi => (hflo i (by have h9 : i < k := (by simpa using hi); omega)).1)
                  have h2 := sum_map_le (flo a l) (fun _ => 1000000000000000) (List.range k) (fun i hi => (hflo i (by have h9 : i < k := (by simpa using hi); omega)).2)
                  rw [sum_const] at h1 h2
                  simp at h1 h2
                  omega
                have Hflo := hide hflo
                clear hflo
                generalize hSk : ((List.range k).map (flo a l)).sum = S at *
                have HSk := hide hSk; clear hSk
                by_cases hlt : k < n
                · obtain ⟨b, o, x, rfl, hx, hc⟩ := (H.out.keep (Keeps.of_below Hb.out)).at_ (i := k) (by rw [Hn.out]; exact hlt)
                  have hxb := hall.out x (List.mem_of_getElem? hx)
                  obtain ⟨hp1, hp2⟩ := prod_bd ⟨ha1, ha2⟩ hxb
                  have Hf := hide (show flo a l k = a * x / s by unfold flo; rw [getD_of hx, HS.out])
                  have hfb := Hflo.out k hlt
                  rw [Hf.out] at hfb
                  have Hx := hide hx
                  clear hx
                  have hBz := Hb.out.size
                  obtain ⟨vp, vc, rfl, _⟩ := own_val P1.out
                  go_wp2_with (at_builtin; refine Stop.out ?_)
                  refine Stop.go ?_
                  refine wpList_append_own _ rfl _ _ 23 rfl w.heap.size 3 j0 (.int .i64 0) 1 8 Try.underlying23 hj0 hjz0 hjz1 hjz2 rfl (by decide) _ _ _ rfl (P1.out.alloc _) ⟨wr.heap.size, 0, none⟩ 1 1 [.int .i64 (a * x / s)] rfl rfl (cell_one_new _ _ _) (by simp [Value.oneCell']) (by unfold maxLen; omega) (by omega) (by simp; omega) ?_
                  intro v' w1 hown' hgrow _
                  have hown2 : w1.ownsRow w.heap.size 3 1 v' (k + 1) (((List.range (k + 1)).map (flo a l)).map (Value.int .i64)) := by
                    rw [List.range_succ, List.map_append, List.map_append]; simpa [Hf.out] using hown'
                  have Hb2 := hide (show Below w.heap.size w w1 from (balloc Hb.out _).grown hgrow (by simp; omega) (by
                    intro j e
                    have e2 : (Value.slice vp k vc).ownBlock = some j := e
                    rcases P1.out.2 with ⟨h1, _⟩ | ⟨g, cap, cur, h1, hg, _⟩
                    · rw [h1] at e2; cases e2
                    · rw [h1] at e2
                      have e3 : g = j := by simpa [Value.ownBlock] using e2
                      omega))
                  obtain ⟨g', cap', rfl, _⟩ := own_form hown2 (by omega)
                  have hck := owni_cell hown2 (i := k) (by omega)
                  rw [getD_range _ _ _ (by omega), Hf.out] at hck
                  have Ho2 := hide hown2
                  have HS2 := hide (show a - S - a * x / s = a - ((List.range (k + 1)).map (flo a l)).sum by rw [List.range_succ, List.map_append, List.sum_append_int, HSk.out]; simp only [List.map_cons, List.map_nil, List.sum_cons, List.sum_nil, Hf.out]; omega)
                  clear hown' hown2 hgrow P1 Hb hc
                  obtain ⟨hfb1, hfb2⟩ := hfb
                  go_wp2_with fail
                  go_roundw
                  case rel => exact ⟨k + 1, by omega, by go_num, by rw [HS2.out], Ho2, Hb2⟩
                  case measure => simp [intOf]; omega
                · obtain rfl : k = n := by omega
                  have hlb := lft_bd (a := a) (l := l) (by rw [HS.out]; exact hs0)
                  obtain ⟨LN, hLN⟩ := Int.eq_ofNat_of_zero_le hlb.1
                  have hLn : LN ≤ k := by have := hlb.2; rw [hLN, Hn.out] at this; omega
                  have HL : Hid (a - S = (LN : Int)) := hide (by rw [← hLN]; unfold lft; rw [Hn.out, HSk.out])
                  obtain ⟨g, cap6, rfl, hg1, hg2⟩ := own_form P1.out (by omega)
                  have P2 := hide P1.out
                  rw [← part_zero_n Hn.out] at P2
                  obtain ⟨j1, hj1, hkz0, hkz1, hkz2⟩ := info_parts Try.info4
                  obtain ⟨w2, hmk, o2, g2⟩ := run_make_full (P := Try.prog) wr w.heap.size 54 4 j1 (.bool false) 1 Try.underlying54 hj1 hkz0 hkz1 .i64 .i64 k (by rw [hkz2]; omega) (by unfold maxLen; omega) Hb.out.size
                  obtain ⟨gg, hgg⟩ : ∃ gg, gg = wr.heap.size := ⟨_, rfl⟩
                  rw [← hgg] at hmk o2
                  have hgne : g < gg := by omega
                  have O2 := hide o2
                  rw [zeros_bool k a l Hn.out] at O2
                  have P3 := hide (P2.out.kept (grownBy_some g2 none) (.inr (by simp [Value.ownBlock])))
                  have Hb2 := hide (show Below w.heap.size w w2 from Hb.out.grown g2 Hb.out.size (fun j e => by cases e))
                  clear P1 P2 o2 g2 Hb hlt hlb hLN hgg hsum
                  go_wp2
                  rw [HL.out]
                  clear hmk
                  go_loopw [10, 13, 14] (fun t b i wr => ∃ tt : Nat, tt ≤ LN ∧ t = .int .i64 ((LN : Int) - (tt : Int)) ∧ Hid (wr.ownsRow w.heap.size 3 1 (.slice (some ⟨g, 0, none⟩) k cap6) k (((List.range l.length).map (part a l tt)).map (Value.int .i64))) ∧ Hid (wr.ownsRow w.heap.size 4 1 (.slice (some ⟨gg, 0, none⟩) k k) k ((givenL a l tt).map Value.bool)) ∧ Hid (Below w.heap.size w wr)) (fun t _ _ _ => (intOf t).toNat)
                  case atStart => exact ⟨0, Nat.zero_le _, by go_num, P3, O2, Hb2⟩
                  case round =>
                    clear P3 O2 Hb2
                    obtain ⟨tt, htt, rfl, P, G, Hb⟩ := hrel
                    by_cases hlt : tt < LN
                    · have Hfl := hide Hflo.out
                      clear Hflo HSk HL
                      have htn : tt < k := by omega
                      go_wp2
                      generalize hwo : wr = wo at *
                      clear hwo
                      go_loopw [13, 14] (fun b i wr => ∃ j d : Nat, j ≤ k ∧ i = .int .i64 j ∧ b = .int .i64 (bestS a l tt j) ∧ wr = wo.drewN d) (fun _ i _ => k - (intOf i).toNat)
                      case atStart => exact ⟨0, 0, Nat.zero_le _, rfl, rfl, rfl⟩
                      case round =>
                        obtain ⟨j, d, hj, rfl, rfl, rfl⟩ := hrel
                        by_cases hjk : j < k
                        · obtain ⟨b, o, x, rfl, hx, hc⟩ := (H.out.keep (Keeps.of_below Hb.out)).at_ (i := j) (by rw [Hn.out]; exact hjk)
                          obtain ⟨hp1, hp2⟩ := prod_bd ⟨ha1, ha2⟩ (hall.out x (List.mem_of_getElem? hx))
                          have Hr := hide (show rmd a l j = a * x % s by unfold rmd; rw [getD_of hx, HS.out])
                          have hgj := ownb_cell G.out (given_at (a := a) (t := tt) (i := j) (by rw [Hn.out]; exact hjk))
                          clear hx
                          by_cases hg : rki a l j < tt
                          · rw [decide_eq_true hg] at hgj
                            have Hk := hide (bestS_keep (a := a) (l := l) (t := tt) (i := j) (by omega))
                            clear hg
                            go_wp2
                            go_quiet (fail)
                            go_wp2
                            go_roundw
                            case rel => exact ⟨j + 1, _, by omega, by go_num, by rw [Hk.out], (by first | rfl | exact World.drewN_drewN _ _ _)⟩
                            case measure => simp [intOf]; omega
                          · rw [decide_eq_false hg] at hgj
                            rcases bestS_is a l tt j (by rw [Hn.out]; omega) with ⟨h1, h2⟩ | ⟨c, h1, h2, h3, h4⟩
                            · have Hk := hide (show bestS a l tt (j + 1) = (j : Int) by show (if _ then _ else _) = _; rw [if_pos ⟨by omega, .inl (by rw [h1]; omega)⟩])
                              rw [h1]
                              clear hg h1 h2
                              go_wp2
                              go_quiet (fail)
                              go_wp2
                              go_roundw
                              case rel => exact ⟨j + 1, _, by omega, by go_num, by rw [Hk.out], (by first | rfl | exact World.drewN_drewN _ _ _)⟩
                              case measure => simp [intOf]; omega
                            · obtain ⟨b', o', y, hq, hy, hcy⟩ := (H.out.keep (Keeps.of_below Hb.out)).at_ (i := c) (by rw [Hn.out]; omega)
                              cases hq
                              obtain ⟨hq1, hq2⟩ := prod_bd ⟨ha1, ha2⟩ (hall.out y (List.mem_of_getElem? hy))
                              have Hry := hide (show rmd a l c = a * y % s by unfold rmd; rw [getD_of hy, HS.out])
                              have hck : c < k := by omega
                              have hd : decide ((c : Int) < 0) = false := decide_eq_false (by omega)
                              have hwx := wrap_small (x := a * x) (by omega)
                              have hwy := wrap_small (x := a * y) (by omega)
                              have htx : (a * x).tmod s = a * x % s := Int.tmod_eq_emod_of_nonneg hp1
                              have hty : (a * y).tmod s = a * y % s := Int.tmod_eq_emod_of_nonneg hq1
                              have hmx1 := Int.emod_nonneg (a * x) (show s ≠ 0 by omega)
                              have hmx2 := Int.emod_lt_of_pos (a * x) hs0
                              have hmy1 := Int.emod_nonneg (a * y) (show s ≠ 0 by omega)
                              have hmy2 := Int.emod_lt_of_pos (a * y) hs0
                              have hwx2 := wrap_small (x := a * x % s) (by omega)
                              have hwy2 := wrap_small (x := a * y % s) (by omega)
                              have HK1 := hide (fun (hr : a * y % s < a * x % s) => (show bestS a l tt (j + 1) = (j : Int) by show (if _ then _ else _) = _; rw [if_pos ⟨by omega, .inr (by rw [h1, Int.toNat_natCast, Hry.out, Hr.out]; exact hr)⟩]))
                              have HK2 := hide (fun (hr : ¬ a * y % s < a * x % s) => (show bestS a l tt (j + 1) = (c : Int) by show (if _ then _ else _) = _; rw [if_neg (by rw [h1, Int.toNat_natCast, Hry.out, Hr.out]; intro h; omega)]; exact h1))
                              rw [h1]
                              clear hg h1 h2 h3 h4 hy
                              go_wp2
                              go_quiet (fail)
                              clear hwx hwy htx hty hwx2 hwy2
                              by_cases hr : a * y % s < a * x % s
                              · go_wp2
                                go_roundw
                                case rel => exact ⟨j + 1, _, by omega, by go_num, by rw [HK1.out hr], (by first | rfl | exact World.drewN_drewN _ _ _)⟩
                                case measure => simp [intOf]; omega
                              · go_wp2
                                go_roundw
                                case rel => exact ⟨j + 1, _, by omega, by go_num, by rw [HK2.out (by omega)], (by first | rfl | exact World.drewN_drewN _ _ _)⟩
                                case measure => simp [intOf]; omega
                        · obtain rfl : j = k := by omega
                          obtain ⟨c, h1, h2, h3⟩ := bestS_end (a := a) (l := l) (t := tt) (by rw [Hn.out]; omega)
                          rw [Hn.out] at h1 h2
                          rw [h1]
                          obtain ⟨e1, e2⟩ := part_step (a := a) (l := l) (t := tt) (c := c) (by rw [Hn.out]; exact h2) h3
                          have e3 := given_set (a := a) (l := l) (t := tt) (c := c) (by rw [Hn.out]; exact h2) h3
                          have P1 : Hid ((wo.drewN d).ownsRow w.heap.size 3 1 (.slice (some ⟨g, 0, none⟩) j cap6) j (((List.range l.length).map (part a l tt)).map (Value.int .i64))) := hide P.out
                          have G1 : Hid ((wo.drewN d).ownsRow w.heap.size 4 1 (.slice (some ⟨gg, 0, none⟩) j j) j ((givenL a l tt).map Value.bool)) := hide G.out
                          have Hb1 : Hid (Below w.heap.size w (wo.drewN d)) := hide (below_drewN' Hb.out d)
                          generalize wo.drewN d = wq at *
                          have hfb := Hfl.out c h2
                          have hcp := owni_cell P1.out (i := c) h2
                          rw [getD_range _ _ _ (by rw [Hn.out]; exact h2), e1] at hcp
                          have hcg := ownb_cell G1.out (given_at (a := a) (t := tt) (i := c) (by rw [Hn.out]; exact h2))
                          have hf1 := fun i => P1.out.frozenAt i
                          have hf2 := fun i => G1.out.frozenAt i
                          have P2 := hide (owni_set (own_other P1.out gg c (.bool true) (by omega)) c (flo a l c + 1))
                          have G2 := hide (own_other (ownb_set G1.out c true) g c (.int .i64 (flo a l c + 1)) (by omega))
                          have Hb3 := hide (below_set (below_set Hb1.out gg c (.bool true) (by omega)) g c (.int .i64 (flo a l c + 1)) (by omega))
                          rw [e2] at P2
                          rw [e3] at G2
                          clear e1 e2 e3 P1 G1 Hb1 P G Hb h1 h3
                          obtain ⟨hfb1, hfb2⟩ := hfb
                          generalize flo a l c = y at *
                          go_wp2
                          go_roundw
                          case rel => exact ⟨tt + 1, by omega, by go_num, hide P2.out, hide G2.out, hide Hb3.out⟩
                          case measure => simp [intOf]; omega
                    · obtain rfl : tt = LN := by omega
                      have HRk := hide (HRok.out _ _ Hb.out (by rw [show lft a l = (tt : Int) by unfold lft; rw [Hn.out, HSk.out]; exact HL.out]; exact P.out))
                      clear hlt
                      go_wp2
                      exact HRk.out
    · have hn1b : decide ((n : Int) ≤ 100) = false := by simp; omega
      have hb := hide (Hbad.out (by unfold splitOk; rw [Hn.out, decide_eq_false hn1]; simp) w (Below.refl _ _))
      go_enter Try.func16, Try.ntmps16
      go_wp2_with (first | (go_at_call 29; refine most_c _ _ ?_) | (go_at_call 25; refine between_c _ _ _ _ _ ?_; rw [Ha.out]))
      go_loop [6, 7, 8] (fun sm ok i => sm = .int .i64 0 ∧ ok = .bool false ∧ i = .int .i64 0) (fun _ _ _ => 0)
      case atStart => exact ⟨rfl, rfl, rfl⟩
      case round =>
        obtain ⟨rfl, rfl, rfl⟩ := hrel
        by_cases hn0 : 0 < n
        all_goals go_wp2
        all_goals exact hb.out
end Go.Proofs.Ytajnoocjjkjfmaa
