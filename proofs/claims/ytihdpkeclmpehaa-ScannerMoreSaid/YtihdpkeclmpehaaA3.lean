/- Is a track seen with a label in a window? -/
import Derived.Test.YtihdpkeclmpehaaA1
import Derived.Test.YtihdpkeclmpehaaA2
set_option linter.unusedVariables false
set_option linter.unusedSimpArgs false
namespace Go.Proofs.Ytihdpkeclmpehaa
open Go.RowKit

def seenS (office low high : Int) (t : Tk) (label : ByteArray) (s : Stp) : Prop := s.office = office ∧ ∃ m, s.arrive ≤ m ∧ low ≤ m ∧ m ≤ high ∧ (s.depart = -1 ∨ m ≤ s.depart) ∧ labelP t m = label
theorem seesP_iff (office low high : Int) (t : Tk) (label : ByteArray) : SeesP office low high t label ↔ ∃ s ∈ t.stops, seenS office low high t label s := by
  constructor
  · rintro ⟨j, s, m, h1, h2, h3⟩
    exact ⟨s, List.mem_of_getElem? h1, h2, m, h3⟩
  · rintro ⟨s, hs, h2, m, h3⟩
    obtain ⟨j, hj⟩ := List.getElem?_of_mem hs
    exact ⟨j, s, m, hj, h2, h3⟩
/-- To which minute. -/
def toP (high depart : Int) : Int := if depart = -1 then high else min high depart
theorem seenS_iff {office low high : Int} {t : Tk} {label : ByteArray} {s : Stp} (ha : AscI t.since) (hn : t.since.length = t.label.length) : seenS office low high t label s ↔ s.office = office ∧ max s.arrive low ≤ toP high s.depart ∧
    (labelP t (max s.arrive low) = label ∨ ∃ (i : Nat) (x : Int), cutN t.since (max s.arrive low) ≤ i ∧ t.since[i]? = some x ∧ x ≤ toP high s.depart ∧ (∀ y, t.since[i + 1]? = some y → y ≠ x) ∧ t.label[i]? = some label) := by
  have key : ∀ m, (s.arrive ≤ m ∧ low ≤ m ∧ m ≤ high ∧ (s.depart = -1 ∨ m ≤ s.depart)) ↔ (max s.arrive low ≤ m ∧ m ≤ toP high s.depart) := fun m => by
    unfold toP
    split <;> omega
  unfold seenS
  constructor
  · rintro ⟨h1, m, h2, h3, h4, h5, h6⟩
    obtain ⟨k1, k2⟩ := (key m).1 ⟨h2, h3, h4, h5⟩
    refine ⟨h1, by omega, (near_iff ha hn (by omega) label).1 ⟨m, k1, k2, h6⟩⟩
  · rintro ⟨h1, h2, h3⟩
    obtain ⟨m, k1, k2, k3⟩ := (near_iff ha hn h2 label).2 h3
    obtain ⟨a, b, c, d⟩ := (key m).2 ⟨k1, k2⟩
    exact ⟨h1, m, a, b, c, d, k3⟩
theorem str_eq {x y : ByteArray} (h : x = y) : (x.toList == y.toList) = true := by rw [h]; simp
theorem str_ne {x y : ByteArray} (h : ¬ x = y) : (x.toList == y.toList) = false := by
  rw [ByteArray.toList_eq, ByteArray.toList_eq, beq_eq_false_iff_ne]
  intro e
  apply h
  obtain ⟨a⟩ := x; obtain ⟨b⟩ := y
  congr 1
  exact Array.toList_inj.1 e
/-- What the inner loop finds. -/
def goodI (t : Tk) (label : ByteArray) (to_ : Int) (i : Nat) : Prop := ∃ x, t.since[i]? = some x ∧ x ≤ to_ ∧ (∀ y, t.since[i + 1]? = some y → y ≠ x) ∧ t.label[i]? = some label

theorem box10 {W : World} {b : Nat} {t : Trk} (h : Blk W b t.cells.toArray 40) : W.cell? ⟨b, 0, none⟩ = some (.string t.label0) ∧ W.cell? ⟨b, 1, none⟩ = some (.int .i64 t.from0) ∧ W.cell? ⟨b, 2, none⟩ = some (.int .i64 t.to0) ∧ W.cell? ⟨b, 3, none⟩ = some (.int .i64 t.class0) ∧ W.cell? ⟨b, 4, none⟩ = some (.int .i64 t.accept) ∧
    W.cell? ⟨b, 5, none⟩ = some (.slice t.sp t.stops.length t.sc) ∧ W.cell? ⟨b, 6, none⟩ = some (.bool t.lost) ∧ W.cell? ⟨b, 7, none⟩ = some (.slice t.np t.since.length t.nc) ∧ W.cell? ⟨b, 8, none⟩ = some (.slice t.lp t.label.length t.lc) ∧ W.cell? ⟨b, 9, none⟩ = some (.slice t.ep t.seals.length t.ec) :=
  ⟨h.cell (k := 0) rfl, h.cell (k := 1) rfl, h.cell (k := 2) rfl, h.cell (k := 3) rfl, h.cell (k := 4) rfl, h.cell (k := 5) rfl, h.cell (k := 6) rfl, h.cell (k := 7) rfl, h.cell (k := 8) rfl, h.cell (k := 9) rfl⟩
set_option maxRecDepth 100000 in
set_option maxHeartbeats 4000000 in
theorem sees_c (office low high : Int) (t : Trk) (label : ByteArray) (w : World) (R) (h : TrkAt w t) (hk : TkOk t.tk) (hR : ∀ b w', Below w.heap.size w w' → (b = true ↔ SeesP office low high t.tk label) → R (.returned (.bool b)) w') :
    Calls Try.prog 32 #[.agg #[.int .i64 office, .int .i64 low, .int .i64 high], t.val, .string label] w R := by
  have HR := hide hR; have H := hide h; have Hk := hide hk
  have HA := hide (show AscI t.since from hk.asc)
  have HN := hide (show t.since.length = t.label.length from hk.labels)
  have hN10 : t.since.length ≤ 10 := hk.few.2
  have hM20 : t.stops.length ≤ 20 := hk.few.1
  obtain ⟨w1, hw1⟩ : ∃ w1, (w.alloc (.cells #[.int .i64 office, .int .i64 low, .int .i64 high] 73)).alloc (.cells t.cells.toArray 40) = w1 := ⟨_, rfl⟩
  have HB1 := hide (show Below w.heap.size w w1 from hw1 ▸ balloc (balloc (Below.refl _ _) _) _)
  have HK1 := hide (show Blk w1 w.heap.size #[.int .i64 office, .int .i64 low, .int .i64 high] 73 ∧ Blk w1 (w.heap.size + 1) t.cells.toArray 40 by
    rw [← hw1]; exact ⟨(Blk.new _ _ _).alloc _, Blk.new_at (by simp)⟩)
  have HW := hide hw1
  unfold Trk.cells at HW
  have hv := hide t.val_eq
  obtain ⟨M, hM⟩ : ∃ M, t.stops.length = M := ⟨_, rfl⟩
  obtain ⟨N, hNN⟩ : ∃ N, t.since.length = N := ⟨_, rfl⟩
  have HM := hide hM; have HNN := hide hNN
  rw [hM] at hM20
  rw [hNN] at hN10
  have hll : t.label.length = N := by rw [← hNN]; exact HN.out.symm
  obtain ⟨bx, hbx⟩ : ∃ bx : Array Value, bx = t.cells.toArray := ⟨_, rfl⟩
  have Hbx := hide hbx
  have Hll := hide hll
  rw [← hbx] at HK1
  rw [hv.out, hM, hNN, hll]
  rw [hM, hNN, hll] at HW
  clear hR h hk hw1 hM hNN hll hbx
  go_enter Try.func32, Try.ntmps32
  go_wp2
  go_loopw [16] (fun si wr => ∃ j : Nat, j ≤ M ∧ si = .int .i64 j ∧ Hid (∀ s ∈ t.stops.take j, ¬ seenS office low high t.tk label s) ∧ Hid (Below w1.heap.size w1 wr)) (fun si _ => M - (intOf si).toNat)
  case atStart => exact ⟨0, Nat.zero_le _, rfl, hide (by simp), hide (by rw [HW.out]; exact Below.refl _ _)⟩
  case round =>
    obtain ⟨j, hj, rfl, HP, HB⟩ := hrel
    by_cases hlt : j < M
    · obtain ⟨bs, os, s, hps, hs, y0, y1, y2, y3⟩ := (H.out.stops.keep (Keeps.of_below (bseq HB1.out HB.out))).stp (i := j) (by rw [HM.out]; exact hlt)
      rw [hps]
      obtain ⟨so, sa, sd, sl⟩ := s
      simp only at y0 y1 y2 y3
      obtain ⟨W3, hW3⟩ : ∃ W3, wr.alloc (.cells #[.int .i64 so, .int .i64 sa, .int .i64 sd, .int .i64 sl] 42) = W3 := ⟨_, rfl⟩
      have hb3 : Below wr.heap.size wr W3 := hW3 ▸ balloc (Below.refl _ _) _
      have HB3 := hide (bseq HB.out hb3)
      have HW3 := hide hW3
      have HS3 := hide (show Blk W3 wr.heap.size #[.int .i64 so, .int .i64 sa, .int .i64 sd, .int .i64 sl] 42 from hW3 ▸ Blk.new _ _ _)
      have HX3 := hide (show Blk W3 w.heap.size #[.int .i64 office, .int .i64 low, .int .i64 high] 73 ∧ Blk W3 (w.heap.size + 1) bx 40 from ⟨HK1.out.1.next HB3.out, HK1.out.2.next HB3.out⟩)
      have HNX := hide (show ¬ seenS office low high t.tk label ⟨so, sa, sd, sl⟩ → ∀ s ∈ t.stops.take (j + 1), ¬ seenS office low high t.tk label s from fun hn s hsm => by
        rw [List.take_add_one, hs] at hsm
        rcases List.mem_append.1 hsm with h1 | h1
        · exact HP.out s h1
        · simp at h1; rw [h1]; exact hn)
      have HYes := hide (show seenS office low high t.tk label ⟨so, sa, sd, sl⟩ → ∀ w', Below w.heap.size w w' → R (.returned (.bool true)) w' from fun hy w' hb' => HR.out true w' hb' (by
        rw [seesP_iff]; exact ⟨fun _ => ⟨_, List.mem_of_getElem? hs, hy⟩, fun _ => rfl⟩))
      have Hiff := hide (seenS_iff (office := office) (low := low) (high := high) (t := t.tk) (label := label) (s := ⟨so, sa, sd, sl⟩) HA.out HN.out)
      have hcase : (sd = -1 ∧ toP high sd = high) ∨ ((sd != -1) = true ∧ toP high sd = min high sd) := by
        unfold toP
        by_cases hd : sd = -1
        · exact .inl ⟨hd, if_pos hd⟩
        · exact .inr ⟨by simpa using hd, if_neg hd⟩
      clear hs hps hb3 hW3
      obtain ⟨ff, hff⟩ : ∃ ff, max sa low = ff := ⟨_, rfl⟩
      obtain ⟨tt, htt⟩ : ∃ tt, toP high sd = tt := ⟨_, rfl⟩
      simp only [hff, htt] at Hiff
      rw [htt] at hcase
      clear htt
      have hcase2 : (sd = -1 ∧ W3.cell? ⟨w.heap.size, 2, none⟩ = some (.int .i64 tt)) ∨ ((sd != -1) = true ∧ min high sd = tt ∧ W3.cell? ⟨w.heap.size, 2, none⟩ = some (.int .i64 high)) := by
        have u2' : W3.cell? ⟨w.heap.size, 2, none⟩ = some (.int .i64 high) := HX3.out.1.cell (k := 2) rfl
        rcases hcase with ⟨h1, h2⟩ | ⟨h1, h2⟩
        · exact .inl ⟨h1, by rw [h2]; exact u2'⟩
        · exact .inr ⟨h1, h2.symm, u2'⟩
      clear hcase
      rcases hcase2 with ⟨rfl, u2'⟩ | ⟨hd1, hd2, u2'⟩
      all_goals
        have z0 : W3.cell? ⟨wr.heap.size, 0, none⟩ = some (.int .i64 so) := HS3.out.cell (k := 0) rfl
        have z1 : W3.cell? ⟨wr.heap.size, 1, none⟩ = some (.int .i64 sa) := HS3.out.cell (k := 1) rfl
        have z2 := HS3.out.cell (k := 2) rfl
        have u0 : W3.cell? ⟨w.heap.size, 0, none⟩ = some (.int .i64 office) := HX3.out.1.cell (k := 0) rfl
        have u1 : W3.cell? ⟨w.heap.size, 1, none⟩ = some (.int .i64 low) := HX3.out.1.cell (k := 1) rfl
        by_cases hskip : so = office ∧ ff ≤ tt
        rotate_left
        · have HNo := hide (fun (_ : Unit) => HNX.out (fun hy => hskip (by have := Hiff.out.1 hy; exact ⟨this.1, this.2.1⟩)) )
          by_cases ho : so = office
          · have hft : tt < ff := by have : ¬ ff ≤ tt := fun h => hskip ⟨ho, h⟩; omega
            subst ho
            clear hskip
            go_wp2
            rw [HW3.out]
            go_quiet (fail)
            go_wp2
            go_roundw
            case rel => exact ⟨j + 1, by omega, by go_num, hide (HNo.out ()), hide (below_drewN' HB3.out _)⟩
            case measure => simp [intOf]; omega
          · have ho' : (so != office) = true := by simpa using ho
            clear hskip ho
            go_wp2
            rw [HW3.out]
            go_quiet (fail)
            go_wp2
            go_roundw
            case rel => exact ⟨j + 1, by omega, by go_num, hide (HNo.out ()), hide (below_drewN' HB3.out _)⟩
            case measure => simp [intOf]; omega
        obtain ⟨rfl, hft⟩ := hskip
        go_wp2
        rw [HW3.out]
        go_quiet (fail)
        rename Nat => nq
        have HW4 := hide (show Below w1.heap.size w1 (W3.drewN nq) from below_drewN' HB3.out nq)
        have hbk : Blk W3 (w.heap.size + 1) t.cells.toArray 40 := by rw [← Hbx.out]; exact HX3.out.2
        obtain ⟨c0, c1, c2, c3, c4, c5, c6, c7, c8, c9⟩ := box10 hbk
        clear hbk
        go_wp2_with (go_at_call 53; rw [← hv.out]; refine Stop.out ?_)
        refine Stop.go (labelAt_c t ff _ _ (H.out.keep (Keeps.of_below (bseq HB1.out HW4.out))) HA.out HN.out (by rw [HNN.out]; omega) ?_)
        intro w5 hb5
        have HW5 := hide (bseq HW4.out hb5)
        have HX5 := hide (show Blk w5 (w.heap.size + 1) t.cells.toArray 40 by rw [← Hbx.out]; exact (HX3.out.2.drewN nq).next hb5)
        clear hb5 c0 c1 c2 c3 c4 c5 c6 c7 c8 c9 z0 z1 z2 u0 u1 u2' y0 y1 y2 y3
        by_cases hl : labelP t.tk ff = label
        · have heq := str_eq hl
          have HF := hide (HYes.out (Hiff.out.2 (by simp only [true_and]; exact ⟨hft, .inl hl⟩)) w5 (bseq HB1.out HW5.out))
          clear hl
          go_wp2
          exact HF.out
        have heq := str_ne hl
        have HL := hide hl
        obtain ⟨c0, c1, c2, c3, c4, c5, c6, c7, c8, c9⟩ := box10 HX5.out
        clear hl
        go_wp2_with (go_at_call 57; rw [← hv.out]; refine Stop.out ?_)
        refine Stop.go (labelIndex_c t ff _ _ (H.out.keep (Keeps.of_below (bseq HB1.out HW5.out))) ?_ (by rw [HNN.out]; omega))
        intro r w6 hb6 hcut
        have HW6 := hide (bseq HW5.out hb6)
        have HX6 := hide (HX5.out.next hb6)
        have HC := hide (hcut.cut HA.out)
        have hrN : r ≤ N := by have := hcut.top; rw [HNN.out] at this; exact this
        have hwr : IntKind.i64.wrap (((r : Int) - 1) + 1) = (r : Int) := by rw [IntWalk.i64_in _ (by omega)]; omega
        have hwr2 : ((r : Int) - 1) + 1 = (r : Int) := by omega
        clear hb6 hcut c0 c1 c2 c3 c4 c5 c6 c7 c8 c9 heq
        go_wp2
        go_loopw [11] (fun sk wi => ∃ i : Nat, r ≤ i ∧ i ≤ N ∧ sk = .int .i64 i ∧ Hid (∀ k, r ≤ k → k < i → ¬ goodI t.tk label tt k) ∧ Hid (Below w1.heap.size w1 wi)) (fun sk _ => N - (intOf sk).toNat)
        case atStart => exact ⟨r, Nat.le_refl _, hrN, rfl, hide (fun k h1 h2 => by omega), HW6⟩
        case round =>
          obtain ⟨i, hri, hiN, rfl, HG, HBI⟩ := hrel
          have HXi := hide (show Blk wr (w.heap.size + 1) t.cells.toArray 40 by rw [← Hbx.out]; exact HK1.out.2.next HBI.out)
          have g7 : wr.cell? ⟨w.heap.size + 1, 7, none⟩ = some (.slice t.np N t.nc) := by rw [← HNN.out]; exact HXi.out.cell (k := 7) rfl
          have g8 : wr.cell? ⟨w.heap.size + 1, 8, none⟩ = some (.slice t.lp N t.lc) := by rw [← Hll.out]; exact HXi.out.cell (k := 8) rfl
          have HStop := hide (show (∀ k, i ≤ k → ¬ goodI t.tk label tt k) → ∀ s ∈ t.stops.take (j + 1), ¬ seenS so low high t.tk label s from fun hno => HNX.out (fun hy => by
            obtain ⟨_, _, h3⟩ := Hiff.out.1 hy
            rcases h3 with h3 | ⟨k, x, h4, h5, h6, h7, h8⟩
            · exact HL.out h3
            · have h4' : r ≤ k := by rw [← HC.out]; exact h4
              rcases Nat.lt_or_ge k i with hki | hki
              · exact HG.out k h4' hki ⟨x, h5, h6, h7, h8⟩
              · exact hno k hki ⟨x, h5, h6, h7, h8⟩))
          by_cases hlt2 : i < N
          · obtain ⟨bn, on_, x, hnp, hx, cx⟩ := (H.out.since.keep (Keeps.of_below (bseq HB1.out HBI.out))).at_ (i := i) (by rw [HNN.out]; exact hlt2)
            obtain ⟨bl, ol, e, hlp, he, ce, hes⟩ := (H.out.label.keep (Keeps.of_below (bseq HB1.out HBI.out))).at_ (i := i) (by rw [Hll.out]; exact hlt2)
            have Hx := hide hx; have He := hide he
            have Hnp := hide hnp
            rw [hnp] at g7
            rw [hlp] at g8
            have hiNI : (i : Int) < (N : Int) := by omega
            clear hnp hlp hx he
            by_cases hxt : x ≤ tt
            · have HNext := hide (show ¬ goodI t.tk label tt i → ∀ k, r ≤ k → k < i + 1 → ¬ goodI t.tk label tt k from fun hn k h1 h2 => by
                rcases Nat.lt_or_ge k i with h3 | h3
                · exact HG.out k h1 h3
                · have : k = i := by omega
                  subst this; exact hn)
              obtain ⟨i1, hi1⟩ : ∃ i1, i + 1 = i1 := ⟨_, rfl⟩
              have Hi1 := hide hi1
              have hw1 : IntKind.i64.wrap ((i : Int) + 1) = (i1 : Int) := by rw [IntWalk.i64_in _ (by omega)]; omega
              by_cases hrep : i1 < N
              · obtain ⟨bn', on', y, hnp', hy, cy⟩ := (H.out.since.keep (Keeps.of_below (bseq HB1.out HBI.out))).at_ (i := i1) (by rw [HNN.out]; exact hrep)
                obtain ⟨rfl, rfl⟩ : bn = bn' ∧ on_ = on' := by
                  rw [Hnp.out] at hnp'; injection hnp' with hp'; injection hp' with h1 h2; exact ⟨h1, h2⟩
                have Hy := hide hy
                have hrepI : decide (i1 < N) = true := by simpa using hrep
                clear hnp' hy hi1
                by_cases hyx : y = x
                · have hyx' : (y == x) = true := by simpa using hyx
                  have HN2 := hide (HNext.out (fun ⟨x', h1, h2, h3, h4⟩ => by
                    have h5 : t.since[i]? = some x' := h1
                    rw [Hx.out] at h5; injection h5 with h5
                    have h6 : t.since[i + 1]? = some y := by rw [Hi1.out]; exact Hy.out
                    exact h3 y h6 (by rw [hyx, h5])))
                  clear hyx
                  go_wp2
                  go_quiet (fail)
                  go_wp2
                  go_roundw
                  case rel => exact ⟨i1, by have := Hi1.out; omega, by omega, by have := Hi1.out; first | rfl | (congr 1; omega), hide (by rw [← Hi1.out]; exact HN2.out), hide (below_drewN' HBI.out _)⟩
                  case measure => have := Hi1.out; simp [intOf]; omega
                · have hyx' : (y == x) = false := by simpa using hyx
                  have HnoR := hide (show ∀ z, t.tk.since[i + 1]? = some z → z ≠ x from fun z hz e1 => by
                    have h6 : t.since[i + 1]? = some z := hz
                    rw [Hi1.out, Hy.out] at h6; injection h6 with h6
                    exact hyx (h6.trans e1))
                  clear hyx
                  by_cases hel : e = label
                  · have heq := str_eq hel
                    have HF := hide (fun w' hb' => HYes.out (Hiff.out.2 (by simp only [true_and]; exact ⟨hft, .inr ⟨i, x, by rw [show cutN t.tk.since ff = r from HC.out]; exact hri, Hx.out, hxt, HnoR.out, by rw [show t.tk.label[i]? = some e from He.out, hel]⟩⟩)) w' hb')
                    clear hel
                    go_wp2
                    go_quiet (fail)
                    go_wp2
                    exact HF.out _ (below_drewN' (bseq HB1.out HBI.out) _)
                  · have heq := str_ne hel
                    have HN2 := hide (HNext.out (fun ⟨x', h1, h2, h3, h4⟩ => by
                      have h5 : t.label[i]? = some label := h4
                      rw [He.out] at h5; injection h5 with h5
                      exact hel h5))
                    clear hel
                    go_wp2
                    go_quiet (fail)
                    go_wp2
                    go_roundw
                    case rel => exact ⟨i1, by have := Hi1.out; omega, by omega, by have := Hi1.out; first | rfl | (congr 1; omega), hide (by rw [← Hi1.out]; exact HN2.out), hide (below_drewN' HBI.out _)⟩
                    case measure => have := Hi1.out; simp [intOf]; omega
              · have hrepI : decide (i1 < N) = false := by simpa using hrep
                have HnoR := hide (show ∀ z, t.tk.since[i + 1]? = some z → z ≠ x from fun z hz e1 => by
                  have h6 := (List.getElem?_eq_some_iff.1 hz).1
                  have h7 : t.tk.since.length = N := HNN.out
                  omega)
                clear hi1
                by_cases hel : e = label
                · have heq := str_eq hel
                  have HF := hide (fun w' hb' => HYes.out (Hiff.out.2 (by simp only [true_and]; exact ⟨hft, .inr ⟨i, x, by rw [show cutN t.tk.since ff = r from HC.out]; exact hri, Hx.out, hxt, HnoR.out, by rw [show t.tk.label[i]? = some e from He.out, hel]⟩⟩)) w' hb')
                  clear hel
                  go_wp2
                  go_quiet (fail)
                  go_wp2
                  exact HF.out _ (below_drewN' (bseq HB1.out HBI.out) _)
                · have heq := str_ne hel
                  have HN2 := hide (HNext.out (fun ⟨x', h1, h2, h3, h4⟩ => by
                    have h5 : t.label[i]? = some label := h4
                    rw [He.out] at h5; injection h5 with h5
                    exact hel h5))
                  clear hel
                  go_wp2
                  go_quiet (fail)
                  go_wp2
                  go_roundw
                  case rel => exact ⟨i1, by have := Hi1.out; omega, by have := Hi1.out; omega, by have := Hi1.out; first | rfl | (congr 1; omega), hide (by rw [← Hi1.out]; exact HN2.out), hide (below_drewN' HBI.out _)⟩
                  case measure => have := Hi1.out; simp [intOf]; omega
            · have HOut := hide (HStop.out (fun k hk ⟨x', h1, h2, h3, h4⟩ => by
                have := HA.out.le hk Hx.out h1
                omega))
              go_wp2
              go_roundw
              case rel => exact ⟨j + 1, by omega, by go_num, HOut, HBI⟩
              case measure => simp [intOf]; omega
          · have HOut := hide (HStop.out (fun k hk ⟨x', h1, h2, h3, h4⟩ => by
              have h6 := (List.getElem?_eq_some_iff.1 h1).1
              have h7 : t.tk.since.length = N := HNN.out
              omega))
            obtain rfl : i = N := by omega
            go_wp2
            go_roundw
            case rel => exact ⟨j + 1, by omega, by go_num, HOut, HBI⟩
            case measure => simp [intOf]; omega
    · obtain rfl : j = M := by omega
      have HF := hide (HR.out false wr (bseq HB1.out HB.out) (by
        rw [seesP_iff]
        refine ⟨fun e => (by cases e), fun ⟨s, hs, hy⟩ => absurd hy (HP.out s (by rw [List.take_of_length_le (by rw [HM.out]; exact Nat.le_refl _)]; exact hs))⟩))
      go_wp2
      exact HF.out
end Go.Proofs.Ytihdpkeclmpehaa
