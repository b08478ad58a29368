import Derived.Test.YtajnoocjjkjfmaaD1
set_option linter.unusedVariables false
set_option linter.unusedSimpArgs false
namespace Go.Proofs.Ytajnoocjjkjfmaa
open Go.RowKit

theorem netF_take_succ {l : List Ent} {k : Nat} {x : Ent} (hx : l[k]? = some x) (i : Int) : netF (l.take (k + 1)) i = netF (l.take k) i + ent1 x i := by
  rw [List.take_add_one, hx]; exact netF_snoc _ _ _
theorem net_set2 (N : Nat) (F G : Int → Int) (f t : Nat) (a : Int) (hf : f < N) (ht : t < N) (hne : f ≠ t) (hG : ∀ i, G i = F i + ((if (t : Int) = i then a else 0) - (if (f : Int) = i then a else 0))) :
    (((List.range N).map (fun (i : Nat) => F (i : Int))).set f (F f - a)).set t (F t + a) = (List.range N).map (fun (i : Nat) => G (i : Int)) := by
  rw [set_range N (fun (i : Nat) => F (i : Int)) (fun (i : Nat) => if f = i then F f - a else F i) f (F f - a) (fun i _ => rfl)]
  refine set_range _ _ _ _ _ fun i hi => ?_
  rw [hG]
  by_cases h1 : t = i
  · subst h1
    rw [if_pos rfl, if_pos rfl, if_neg (by omega)]; omega
  · rw [if_neg h1, if_neg (show ¬ (t : Int) = (i : Int) by omega)]
    by_cases h2 : f = i
    · subst h2; rw [if_pos rfl, if_pos rfl]; omega
    · rw [if_neg h2, if_neg (show ¬ (f : Int) = (i : Int) by omega)]; omega

set_option maxHeartbeats 4000000 in
set_option maxRecDepth 100000 in
theorem refBalances_c (n : Int) (p : Option Addr) (m cap : Nat) (l : List Ent) (w : World) (R) (hm : l.length = m) (hl : m ≤ 2000) (h : EntsAt w p l) (hw : EWf l) (hnw : (Lit.int .i64 n).wf = true)
    (hR : ∀ v w', Below w.heap.size w w' → w'.ownsRow w.heap.size 3 1 v (balL n l).length ((balL n l).map (Value.int .i64)) → R (.returned (.tuple #[v, .int .i64 (balE n l)])) w') :
    Calls Try.prog 14 #[.int .i64 n, .slice p m cap] w R := by
  have Hm := hide hm; have H := hide h; have HR := hide hR; have Hw := hide hw
  clear hm h hR hw hnw
  have Hbad := hide (fun (er : Int) (hb : balE n l = er) (he : er ≠ 0) w' (B : Below w.heap.size w w') => (show R (.returned (.tuple #[.slice none 0 0, .int .i64 er])) w' by
    have := HR.out (.slice none 0 0) w' B (by unfold balL; rw [if_neg (by rw [hb]; exact he)]; exact World.ownsRow_nil ..)
    rw [hb] at this; exact this))
  cases hn : inB n 1 100 with
  | false =>
    have Hn := hide hn
    have hb := hide (Hbad.out 1 (by unfold balE balOk; rw [hn]; rfl) (by decide) w (Below.refl _ _))
    clear hn
    go_enter Try.func14, Try.ntmps14
    go_wp2_with (go_at_call 25; refine between_c _ _ _ _ _ ?_; rw [Hn.out])
    exact hb.out
  | true =>
    have Hn := hide hn
    have hnb := inB_true hn
    clear hn
    obtain ⟨N, rfl⟩ := Int.eq_ofNat_of_zero_le (show 0 ≤ n by omega)
    obtain ⟨j0, hj0, hjz0, hjz1, hjz2⟩ := info_parts Try.info3
    obtain ⟨w1, hmk, o1, g1⟩ := run_make_full (P := Try.prog) w w.heap.size 23 3 j0 (.int .i64 0) 1 Try.underlying23 hj0 hjz0 hjz1 .i64 .i64 N (by rw [hjz2]; omega) (by unfold maxLen; omega) (Nat.le_refl _)
    have O1 : Hid (w1.ownsRow w.heap.size 3 1 (.slice (some ⟨w.heap.size, 0, none⟩) N N) N (((List.range N).map (fun (i : Nat) => netF (l.take 0) (i : Int))).map (Value.int .i64))) := hide (by
      have e := zeros_int N (fun i => 0)
      rw [e] at o1
      simpa [netF] using o1)
    have B1 : Hid (Below w.heap.size w w1) := hide ((Below.refl _ _).grown g1 (Nat.le_refl _) (fun k e => by cases e))
    go_enter Try.func14, Try.ntmps14
    go_wp2_with (go_at_call 25; refine between_c _ _ _ _ _ ?_; rw [Hn.out])
    clear hmk o1 g1
    go_loopw [7] (fun i wr => ∃ k : Nat, k ≤ m ∧ i = .int .i64 k ∧ Hid ((l.take k).all (validE N) = true) ∧ Hid (Below w.heap.size w wr) ∧ Hid (wr.ownsRow w.heap.size 3 1 (.slice (some ⟨w.heap.size, 0, none⟩) N N) N (((List.range N).map (fun (i : Nat) => netF (l.take k) (i : Int))).map (Value.int .i64)))) (fun i _ => m - (intOf i).toNat)
    case atStart => exact ⟨0, Nat.zero_le _, rfl, hide (by simp), B1, O1⟩
    case round =>
      clear B1 O1
      obtain ⟨k, hk, rfl, hal, Hb, Ho⟩ := hrel
      by_cases hlt : k < m
      · obtain ⟨b, o, x, rfl, hx, hc1, hc2, hc3, hc4⟩ := (H.out.keep (Keeps.of_below Hb.out)).at_ (i := k) (by rw [Hm.out]; exact hlt)
        have hbw : b < w.heap.size := by
          obtain ⟨b', o', x', hq', _, hc, _⟩ := H.out.at_ (i := k) (by rw [Hm.out]; exact hlt)
          cases hq'
          exact block_lt hc
        have hxw := Hw.out x (List.mem_of_getElem? hx)
        have Hx := hide hx
        have Hxw := hide hxw
        clear hx hxw
        obtain ⟨xf, xt, xa, xr⟩ := x
        simp only at hc1 hc2 hc3 hc4
        go_wp2_with (go_at_call 20; refine Stop.out ?_)
        refine Stop.go (refValid_c N ⟨xf, xt, xa, xr⟩ Hxw.out.2.2.2 _ _ ?_)
        intro w2 hb2
        cases hv : validE N ⟨xf, xt, xa, xr⟩ with
        | false =>
          have hbb := hide (Hbad.out 1 (by
            have : l.all (validE N) = false := all_false_of _ _ _ _ Hx.out hv
            unfold balE balOk; rw [this]; simp) (by decide) w2 (bseq Hb.out hb2))
          clear hv
          go_wp2_with fail
          exact hbb.out
        | true =>
          obtain ⟨_, v2, v3, v4, v5, _⟩ := validE_true hv
          have hab := inB_true v5
          have hfr := inB_true v2
          have hto := inB_true v3
          have hF : ∀ i, -1000000000000000 ≤ netF (l.take k) i ∧ netF (l.take k) i ≤ 1000000000000000 := fun i => by
            have h1 := netF_bd (l := l.take k) (n := N) hal.out i
            have h2 : (l.take k).length ≤ k := List.length_take_le _ _
            omega
          have HF2 := hide (fun i => netF_take_succ (l := l) Hx.out i)
          have Hal2 := hide (show (l.take (k + 1)).all (validE N) = true by rw [all_take_succ _ _ _ _ Hx.out, hal.out, hv]; rfl)
          simp only at v4 hab hfr hto
          have Hne := hide v4
          clear hv v2 v3 v4 v5
          obtain ⟨f, rfl⟩ := Int.eq_ofNat_of_zero_le hfr.1
          obtain ⟨t, rfl⟩ := Int.eq_ofNat_of_zero_le hto.1
          obtain ⟨ha1, ha2⟩ := hab
          have hfN : f < N := by omega
          have htN : t < N := by omega
          clear hfr hto
          have c1 := cell_later hb2 hc1
          have c2 := cell_later hb2 hc2
          have c3 := cell_later hb2 hc3
          have Bb := hide (bseq Hb.out hb2)
          have Oo := hide (own_below Ho.out hb2)
          clear hc1 hc2 hc3 hc4 hb2 Hb Ho
          generalize hGG : netF (l.take k) = F at *
          have HGG := hide hGG; clear hGG
          obtain ⟨b11, b12⟩ := hF f
          obtain ⟨b21, b22⟩ := hF t
          have e1 := hide (getD_range N (fun (i : Nat) => F (i : Int)) f (by omega))
          have hcf := owni_cell Oo.out (i := f) (by omega)
          rw [e1.out] at hcf
          have HFt := hide hF
          clear hF
          generalize hy1 : F f = y1 at *
          have Hy1 := hide hy1; clear hy1
          have hfz := fun j => Oo.out.frozenAt j
          go_wp2_with fail
          go_still_tail 21, (by kernel_rfl)
          change wpList _ _ _ _ _ w2.drew
          go_wp2_with fail
          have ho2 : Hid ((w2.setCell ⟨w.heap.size, f, none⟩ (.int .i64 (y1 - xa))).drew.ownsRow w.heap.size 3 1 (.slice (some ⟨w.heap.size, 0, none⟩) N N) N ((((List.range N).map (fun (i : Nat) => F (i : Int))).set f (y1 - xa)).map (Value.int .i64))) := hide (owni_set Oo.out f (y1 - xa))
          have hb3 : Hid (Below w.heap.size w (w2.setCell ⟨w.heap.size, f, none⟩ (.int .i64 (y1 - xa))).drew) := hide ((below_set Bb.out w.heap.size f _ (Nat.le_refl _)).drew)
          replace c1 : (w2.setCell ⟨w.heap.size, f, none⟩ (.int .i64 (y1 - xa))).drew.cell? ⟨b, o + k * 4, none⟩ = _ := (World.cell?_setCell_other w2 ⟨w.heap.size, f, none⟩ ⟨b, o + k * 4, none⟩ _ (by intro h; injection h; omega)).trans c1
          replace c2 : (w2.setCell ⟨w.heap.size, f, none⟩ (.int .i64 (y1 - xa))).drew.cell? ⟨b, o + k * 4 + 1, none⟩ = _ := (World.cell?_setCell_other w2 ⟨w.heap.size, f, none⟩ ⟨b, o + k * 4 + 1, none⟩ _ (by intro h; injection h; omega)).trans c2
          replace c3 : (w2.setCell ⟨w.heap.size, f, none⟩ (.int .i64 (y1 - xa))).drew.cell? ⟨b, o + k * 4 + 2, none⟩ = _ := (World.cell?_setCell_other w2 ⟨w.heap.size, f, none⟩ ⟨b, o + k * 4 + 2, none⟩ _ (by intro h; injection h; omega)).trans c3
          generalize hw2 : (w2.setCell ⟨w.heap.size, f, none⟩ (.int .i64 (y1 - xa))).drew = w3 at *
          clear hw2 hcf hfz Oo Bb
          have hcf := owni_cell ho2.out (i := t) (by omega)
          have e2 : (((List.range N).map (fun (i : Nat) => F (i : Int))).set f (y1 - xa)).getD t 0 = F t := by
            rw [List.getD_eq_getElem?_getD, List.getElem?_set, if_neg (fun h => Hne.out (by omega)), ← List.getD_eq_getElem?_getD]
            exact getD_range N (fun (i : Nat) => F (i : Int)) t (by omega)
          rw [e2] at hcf
          clear e2
          generalize hy2 : F t = y2 at *
          have Hy2 := hide hy2; clear hy2
          have hfz := fun j => ho2.out.frozenAt j
          go_still_tail 21, (by kernel_rfl)
          change wpList _ _ _ _ _ w3.drew
          go_wp2_with fail
          have ho3 := hide (owni_set ho2.out t (y2 + xa))
          have hb4 := hide (below_set hb3.out w.heap.size t (.int .i64 (y2 + xa)) (Nat.le_refl _))
          have ee : Hid ((((List.range N).map (fun (i : Nat) => F (i : Int))).set f (y1 - xa)).set t (y2 + xa) = (List.range N).map (fun (i : Nat) => netF (l.take (k + 1)) (i : Int))) := hide (by
            rw [← Hy1.out, ← Hy2.out]
            exact net_set2 N F _ f t xa (by omega) (by omega) (fun h => Hne.out (by omega)) HF2.out)
          go_roundw
          case rel => exact ⟨k + 1, by omega, by go_num, Hal2, hide hb4.out.drew, hide (by rw [← ee.out]; exact ho3.out)⟩
          case measure => simp [intOf]; omega
      · have hkn : l.take k = l := List.take_of_length_le (by rw [Hm.out]; omega)
        rw [hkn] at hal Ho
        clear hkn
        by_cases hbig : 1000 < m
        · have hbb := hide (Hbad.out 2 (by unfold balE balOk; rw [Hn.out, hal.out, Hm.out]; simp [hbig]) (by decide) _ Hb.out)
          go_wp2_with fail
          exact hbb.out
        · have hok : balE N l = 0 := by unfold balE balOk; rw [Hn.out, hal.out, Hm.out]; simp [hbig]
          have hL : balL N l = (List.range N).map (fun (i : Nat) => netF l (i : Int)) := by unfold balL; rw [if_pos hok]; rfl
          have := HR.out _ _ Hb.out (by rw [hL]; simpa using Ho.out)
          rw [hok] at this
          have Hthis := hide this
          clear this hok hL
          go_wp2_with fail
          exact Hthis.out
end Go.Proofs.Ytajnoocjjkjfmaa
