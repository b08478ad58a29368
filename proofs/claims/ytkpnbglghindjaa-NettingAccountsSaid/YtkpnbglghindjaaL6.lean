/- For any well-formed balances only accounts with negative balances pay, only ones with positive balances are paid, and each pays, or is paid, its balance in all. -/
import Derived.Test.YtkpnbglghindjaaP1
set_option linter.unusedVariables false
set_option linter.unusedSimpArgs false
namespace Go.Proofs.Ytkpnbglghindjaa
open Go.ChangeShapes Go.WideShapes Go.ChangeAt Go.RowKit Math

theorem paidBy_snoc (i : Nat) (ts : List Tr) (t : Tr) : paidBy i (ts ++ [t]) = paidBy i ts + (if t.fr.toNat = i then t.am else 0) := by simp [paidBy]
theorem gotBy_snoc (i : Nat) (ts : List Tr) (t : Tr) : gotBy i (ts ++ [t]) = gotBy i ts + (if t.to_.toNat = i then t.am else 0) := by simp [gotBy]
/-- What n accounts have paid, or been paid. -/
def paidL (n : Nat) (ts : List Tr) : List Int := (List.range n).map fun i => paidBy i ts
def gotL (n : Nat) (ts : List Tr) : List Int := (List.range n).map fun i => gotBy i ts
theorem getD_range (n : Nat) (f : Nat → Int) (i : Nat) (h : i < n) : ((List.range n).map f).getD i 0 = f i := by
  rw [List.getD_eq_getElem?_getD, List.getElem?_map, List.getElem?_range h]; rfl
theorem at_range (n : Nat) (f : Nat → Int) (i : Nat) (h : i < n) : ((List.range n).map f)[i]? = some (f i) := by
  rw [List.getElem?_map, List.getElem?_range h]; rfl
theorem set_range (n : Nat) (f g : Nat → Int) (j : Nat) (v : Int) (h : ∀ i, i < n → g i = if j = i then v else f i) : ((List.range n).map f).set j v = (List.range n).map g := by
  apply List.ext_getElem?
  intro i
  rw [List.getElem?_set]
  rcases Nat.lt_or_ge i n with hi | hi
  · rw [at_range n g i hi, h i hi]
    split
    · rename_i e; subst e; simp [hi]
    · rw [at_range n f i hi]
  · have e1 : ((List.range n).map g)[i]? = none := List.getElem?_eq_none (by simpa using hi)
    have e2 : ((List.range n).map f)[i]? = none := List.getElem?_eq_none (by simpa using hi)
    rw [e1, e2]
    split
    · rename_i e; subst e; rw [if_neg (by simp; omega)]
    · rfl
theorem paid_bd (ts : List Tr) (i : Nat) (k : Nat) (h : ∀ t ∈ ts, 0 < t.am ∧ t.am ≤ 83751862272) : 0 ≤ paidBy i (ts.take k) ∧ paidBy i (ts.take k) ≤ 83751862272 * (k : Int) ∧ 0 ≤ gotBy i (ts.take k) ∧ gotBy i (ts.take k) ≤ 83751862272 * (k : Int) := by
  induction k with
  | zero => simp [paidBy, gotBy]
  | succ k ih =>
    rw [List.take_add_one]
    cases hx : ts[k]? with
    | none => simp; omega
    | some t =>
      have := h t (List.mem_of_getElem? hx)
      show 0 ≤ paidBy i (ts.take k ++ [t]) ∧ _ ≤ _ ∧ 0 ≤ gotBy i (ts.take k ++ [t]) ∧ _
      rw [show (some t).toList = [t] from rfl, paidBy_snoc, gotBy_snoc]
      split <;> split <;> omega

set_option maxRecDepth 100000 in
set_option maxHeartbeats 2000000 in
theorem directions_c (p : Option Addr) (n cap : Nat) (l : List Int) (w : World) (R) (hn : l.length = n) (hl : n ≤ maxLen) (h : IntsAt .i32 w p l) (_hz : p = none → n = 0) (hw : ∀ x ∈ l, (Lit.int .i32 x).wf = true)
    (hR : ∀ w', Below w.heap.size w w' → R (.returned (.bool true)) w') : Calls Try.prog 6 #[.slice p n cap] w R := by
  have Hn := hide hn; have HR := hide hR; have H := hide h
  have H32 := hide (show I32 l from fun x hx => wf_i32.1 (hw x hx))
  have Hb1 : (balL l).length ≤ 40 ∧ 1 ≤ (balL l).length := by have := length_balL l; omega
  have Hd := hide (net_dir_balL l H32.out)
  have He := hide (netErr_balL l H32.out)
  have Hall := hide (show ∀ i, paidBy i (netList (balL l)) = max (-((balL l).getD i 0)) 0 ∧ gotBy i (netList (balL l)) = max ((balL l).getD i 0) 0 by rw [netList_balL l H32.out]; exact net_all _ (sum_balL l))
  have Hbb := hide (balL_Bnd l H32.out)
  have hf40 := few40 l H32.out
  obtain ⟨i0, hi0, hz0, hz1, hz2⟩ := info_parts info_int
  clear hn hR h hw
  go_enter Try.func6, Try.ntmps6
  go_wp2_with (go_at_call 10; refine Stop.out ?_)
  refine Stop.go (head_c _ _ ?_)
  intro w1 B1
  replace B1 := hide B1
  go_wp2_with (go_at_call 17; refine Stop.out ?_)
  refine Stop.go (balanced2_c p n cap l _ _ Hn.out hl (H.out.keep (Keeps.of_below B1.out)) H32.out ?_)
  intro p2 cap2 w2 b2 i2 hp2
  have I2 := hide i2
  have B2 := hide (bseq B1.out b2)
  have Hp2 := hide hp2
  clear b2 i2 hp2
  generalize balL l = b at *
  generalize hm : b.length = m at *
  have Hm := hide hm
  clear hm
  go_wp2_with (go_at_call 11; refine Stop.out ?_)
  refine Stop.go (netOk_c p2 m cap2 b _ _ Hm.out Hb1.1 I2.out Hp2.out He.out ?_)
  intro p3 cap3 w3 b3 t3
  have T3 := hide t3
  have I3 := hide (I2.out.keep (Keeps.of_below b3))
  have B3 := hide (bseq B2.out b3)
  clear b3 t3
  generalize hts : netList b = ts at *
  clear hts
  generalize hq : ts.length = q at *
  have Hq := hide hq
  clear hq
  go_wp2_with (at_make; refine Stop.out ?_)
  refine Stop.go ?_
  refine wpList_make_full w3 rfl (.tmp 20) (.tmp 20) 22 rfl w3.heap.size 3 i0 _ 1 Try.underlying22 hi0 hz0 hz1 .i64 .i64 m m m rfl rfl rfl rfl (by rw [hz2]; omega) (by unfold maxLen; omega) (Nat.le_refl _) ?_
  intro w4 o4 g4
  have O4 := hide (show w4.ownsRow w3.heap.size 3 1 (.slice (some ⟨w3.heap.size, 0, none⟩) m m) m ((paidL m []).map (Value.int .i64)) by
    rw [show (Value.int .i64 0).cells = #[.int .i64 0] from rfl, Nat.mul_one, toList_madeCells_one] at o4
    have e : (paidL m []).map (Value.int .i64) = List.replicate m (.int .i64 0) := by
      apply List.ext_getElem?
      intro i
      simp [paidL, paidBy, List.getElem?_replicate]
      rcases Nat.lt_or_ge i m with hi | hi
      · simp [List.getElem?_range hi, hi]
      · rw [List.getElem?_eq_none (by simpa using hi), if_neg (by omega)]; rfl
    rw [e]; exact o4)
  have B4 := hide (show Below w3.heap.size w3 w4 from (Below.refl _ _).grown g4 (Nat.le_refl _) (fun k hk => by cases hk))
  clear o4 g4
  go_wp2_with (at_make; refine Stop.out ?_)
  refine Stop.go ?_
  refine wpList_make_full w4 rfl (.tmp 23) (.tmp 23) 22 rfl w3.heap.size 3 i0 _ 1 Try.underlying22 hi0 hz0 hz1 .i64 .i64 m m m rfl rfl rfl rfl (by rw [hz2]; omega) (by unfold maxLen; omega) B4.out.size ?_
  intro w5 o5 g5
  have O5 := hide (show w5.ownsRow w3.heap.size 3 1 (.slice (some ⟨w4.heap.size, 0, none⟩) m m) m ((gotL m []).map (Value.int .i64)) by
    rw [show (Value.int .i64 0).cells = #[.int .i64 0] from rfl, Nat.mul_one, toList_madeCells_one] at o5
    have e : (gotL m []).map (Value.int .i64) = List.replicate m (.int .i64 0) := by
      apply List.ext_getElem?
      intro i
      simp [gotL, gotBy, List.getElem?_replicate]
      rcases Nat.lt_or_ge i m with hi | hi
      · simp [List.getElem?_range hi, hi]
      · rw [List.getElem?_eq_none (by simpa using hi), if_neg (by omega)]; rfl
    rw [e]; exact o5)
  have O4' := hide (show w5.ownsRow w3.heap.size 3 1 (.slice (some ⟨w3.heap.size, 0, none⟩) m m) m ((paidL m []).map (Value.int .i64)) from O4.out.kept g5 (.inr (by simp [Value.ownBlock])))
  have B5 := hide (show Below w3.heap.size w3 w5 from B4.out.grown g5 B4.out.size (fun k hk => by cases hk))
  have hg12 : w3.heap.size < w4.heap.size := by
    rcases O4.out.2 with ⟨hv, _⟩ | ⟨g, cap, cur, hv, _, hh, _⟩
    · simp at hv
    · injection hv with hv; injection hv with hv; injection hv with hv; rw [hv]; exact (Array.getElem?_eq_some_iff.1 hh).1
  have hB3 : w.heap.size ≤ w3.heap.size := B3.out.size
  clear o5 g5 O4 B4
  generalize hg1 : w3.heap.size = g1 at *
  generalize hg2 : w4.heap.size = g2 at *
  have hne : g1 ≠ g2 := by omega
  have Hg1 := hide hg1
  clear hg1 hg2
  go_wp2_with fail
  go_loopw [9] (fun i wr => ∃ k : Nat, k ≤ q ∧ i = .int .i64 k ∧ Hid (wr.ownsRow g1 3 1 (.slice (some ⟨g1, 0, none⟩) m m) m ((paidL m (ts.take k)).map (Value.int .i64))) ∧ Hid (wr.ownsRow g1 3 1 (.slice (some ⟨g2, 0, none⟩) m m) m ((gotL m (ts.take k)).map (Value.int .i64))) ∧ Hid (Below g1 w3 wr)) (fun i _ => q - (intOf i).toNat)
  case atStart => exact ⟨0, Nat.zero_le _, rfl, hide (by simpa using O4'.out), hide (by simpa using O5.out), B5⟩
  case round =>
    obtain ⟨k, hk, rfl, Hp, Hgt, Hb⟩ := hrel
    have Hb' := hide (show Below w3.heap.size w3 wr by rw [Hg1.out]; exact Hb.out)
    clear O4' O5 B5
    by_cases hlt : k < q
    · obtain ⟨b', o, x, rfl, hx, hk1, hk2, hk3⟩ := (T3.out.keep (Keeps.of_below Hb'.out)).at_ (i := k) (by rw [Hq.out]; exact hlt)
      have hbl : b' < g1 := by
        obtain ⟨b2, o2, x2, hq2, _, hc, _⟩ := T3.out.at_ (i := k) (by rw [Hq.out]; exact hlt)
        cases hq2
        have := block_lt hc
        rw [Hg1.out] at this
        exact this
      obtain ⟨hd1, hd2, hd3, hd4, hd5, hd6, hd7, hd8⟩ := Hd.out x (List.mem_of_getElem? hx)
      have hpb := fun i => paid_bd ts i k (fun t ht => by have := Hd.out t ht; exact ⟨this.2.2.2.2.1, this.2.2.2.2.2.1⟩)
      obtain ⟨xf, xt, xa⟩ := x
      simp only at hk1 hk2 hk3 hd1 hd2 hd3 hd4 hd5 hd6 hd7 hd8
      obtain ⟨f, rfl⟩ := Int.eq_ofNat_of_zero_le hd1
      obtain ⟨t, rfl⟩ := Int.eq_ofNat_of_zero_le hd3
      rw [Int.toNat_natCast] at hd7 hd8
      have hfn : f < m := by omega
      have htn : t < m := by omega
      have Hx := hide hx; clear hx
      obtain ⟨b2, o2, y1, rfl, hy1, hc1⟩ := (I3.out.keep (Keeps.of_below Hb'.out)).at_ (i := f) (by rw [Hm.out]; exact hfn)
      obtain ⟨_, _, y2, hqq, hy2, hc2⟩ := (I3.out.keep (Keeps.of_below Hb'.out)).at_ (i := t) (by rw [Hm.out]; exact htn)
      cases hqq
      rw [getD_of hy1] at hd7
      rw [getD_of hy2] at hd8
      have hcp := owni_cell Hp.out hfn
      rw [show (paidL m (ts.take k)).getD f 0 = paidBy f (ts.take k) from getD_range m _ f hfn] at hcp
      have hcg := owni_cell Hgt.out htn
      rw [show (gotL m (ts.take k)).getD t 0 = gotBy t (ts.take k) from getD_range m _ t htn] at hcg
      have hpf := hpb f
      have hpt := hpb t
      clear hpb hy1 hy2
      generalize hpv : paidBy f (ts.take k) = pv at *
      generalize hgv : gotBy t (ts.take k) = gv at *
      have Hpv := hide hpv; have Hgv := hide hgv
      clear hpv hgv
      have hz1 := fun j => Hp.out.frozenAt j
      have hz2 := fun j => Hgt.out.frozenAt j
      have hnb : b' ≠ g1 := by omega
      have Hk2 := hide hk2; have Hk3 := hide hk3; have Hcg := hide hcg
      go_wp2_with fail
      go_still_tail 21, (by kernel_rfl)
      change wpList _ _ _ _ _ wr.drew
      go_wp2_with fail
      have ho2 : Hid ((wr.setCell ⟨g1, f, none⟩ (.int .i64 (pv + xa))).drew.ownsRow g1 3 1 (.slice (some ⟨g1, 0, none⟩) m m) m (((paidL m (ts.take k)).set f (pv + xa)).map (Value.int .i64))) := hide (owni_set Hp.out f (pv + xa))
      have hgr : wr.grownBy (wr.setCell ⟨g1, f, none⟩ (.int .i64 (pv + xa))).drew (some g1) := by
        have := grownBy_set (World.grownBy.refl wr (some g1)) f (.int .i64 (pv + xa))
        exact ⟨this.os, this.tape, this.output, this.size, this.block⟩
      have ho3 := hide (Hgt.out.kept hgr (.inr (by simp [Value.ownBlock]; omega)))
      have hb2 := hide (show Below g1 w3 (wr.setCell ⟨g1, f, none⟩ (.int .i64 (pv + xa))).drew from (Hb.out.setCell (p := ⟨g1, f, none⟩) (Nat.le_refl _) _).drew)
      have hk2' := hgr.cell Hk2.out (by simp; omega)
      have hk3' := hgr.cell Hk3.out (by simp; omega)
      have hcg' := hgr.cell Hcg.out (by simp; omega)
      clear hk1 hk2 hk3 hcg hz1 hz2 hgr hcp hc1 hc2
      generalize hw2 : (wr.setCell ⟨g1, f, none⟩ (.int .i64 (pv + xa))).drew = wx at *
      clear hw2
      have hz2 := fun j => ho3.out.frozenAt j
      go_still_tail 21, (by kernel_rfl)
      change wpList _ _ _ _ _ wx.drew
      go_wp2_with fail
      have ho4 := hide (owni_set ho3.out t (gv + xa))
      have hgr := grownBy_set (World.grownBy.refl wx (some g2)) t (.int .i64 (gv + xa))
      have ho5 := hide (ho2.out.kept hgr (.inr (by simp [Value.ownBlock]; omega)))
      have hb3 := hide (hb2.out.setCell (p := ⟨g2, t, none⟩) (show g1 ≤ g2 by omega) (.int .i64 (gv + xa)))
      clear hgr
      go_roundw
      case rel =>
        refine ⟨k + 1, by omega, by go_num, hide ?_, hide ?_, hide hb3.out.drew⟩
        · rw [List.take_add_one, Hx.out]
          show World.ownsRow _ _ _ _ _ _ ((paidL m (ts.take k ++ [_])).map _)
          have : paidL m (ts.take k ++ [⟨f, t, xa⟩]) = (paidL m (ts.take k)).set f (pv + xa) := by
            refine (set_range m _ _ f _ fun i hi => ?_).symm
            rw [paidBy_snoc]
            simp only [Int.toNat_natCast]
            split
            · rename_i e; subst e; rw [Hpv.out]
            · omega
          rw [this]; exact ho5.out
        · rw [List.take_add_one, Hx.out]
          show World.ownsRow _ _ _ _ _ _ ((gotL m (ts.take k ++ [_])).map _)
          have : gotL m (ts.take k ++ [⟨f, t, xa⟩]) = (gotL m (ts.take k)).set t (gv + xa) := by
            refine (set_range m _ _ t _ fun i hi => ?_).symm
            rw [gotBy_snoc]
            simp only [Int.toNat_natCast]
            split
            · rename_i e; subst e; rw [Hgv.out]
            · omega
          rw [this]; exact ho4.out
      case measure => simp [intOf]; omega
    · have hkm : ts.take k = ts := List.take_of_length_le (by rw [Hq.out]; omega)
      rw [hkm] at Hp Hgt
      clear hkm
      have Bf := hide (bseq B3.out Hb'.out)
      have I5 := hide (I3.out.keep (Keeps.of_below Hb'.out))
      go_wp2_with fail
      go_loopw [10] (fun i wx => ∃ j d : Nat, j ≤ m ∧ i = .int .i64 j ∧ wx = wr.drewN d) (fun i _ => m - (intOf i).toNat)
      case atStart => exact ⟨0, 0, Nat.zero_le _, rfl, rfl⟩
      case round =>
        obtain ⟨j, d, hj, rfl, rfl⟩ := hrel
        by_cases hjm : j < m
        · obtain ⟨b2, o2, y, rfl, hy, hc⟩ := I5.out.at_ (i := j) (by rw [Hm.out]; exact hjm)
          have hyb := Hbb.out y (List.mem_of_getElem? hy)
          have hA := Hall.out j
          rw [getD_of hy] at hA
          have hcp := owni_cell Hp.out hjm
          rw [show (paidL m ts).getD j 0 = paidBy j ts from getD_range m _ j hjm, hA.1] at hcp
          have hcg := owni_cell Hgt.out hjm
          rw [show (gotL m ts).getD j 0 = gotBy j ts from getD_range m _ j hjm, hA.2] at hcg
          clear hA hy
          go_wp2_with fail
          go_quiet (fail)
          go_wp2_with fail
          go_roundw
          case rel => exact ⟨j + 1, _, by omega, by go_num, rfl⟩
          case measure => simp [intOf]; omega
        · go_wp2_with fail
          exact HR.out _ (below_drewN' Bf.out d)
end Go.Proofs.Ytkpnbglghindjaa
