import Derived.Test.YtkpnbglghindjaaC7
set_option linter.unusedVariables false
set_option linter.unusedSimpArgs false
namespace Go.Proofs.Ytkpnbglghindjaa
open Go.RowKit Math

set_option maxRecDepth 100000 in
set_option maxHeartbeats 2000000 in
theorem RPay_c (p q : Option Addr) (n m cap cap' : Nat) (bal : List Int) (l : List Tr) (w : World) (R) (hn : bal.length = n) (hm : l.length = m) (hl : n ≤ 1000000) (hml : m ≤ maxLen) (h : IntsAt .i64 w p bal) (ht : TrsAt w q l)
    (hR : ∀ v w', Below w.heap.size w w' → OwnI w' w.heap.size v (payRes bal l) → R (.returned v) w') : Calls Try.prog 16 #[.slice p n cap, .slice q m cap'] w R := by
  unfold maxLen at hml
  have Hn := hide hn; have Hm := hide hm; have HR := hide hR; have H := hide h; have Ht := hide ht
  clear hn hm hR h ht
  obtain ⟨i0, hi0, hz0, hz1, hz2⟩ := info_parts info_int
  cases hw : bal.any (wrongB maxB) with
  | true =>
    have HL := hide (payRes_wrong (l := l) hw)
    have Hw := hide hw; clear hw
    go_enter Try.func16, Try.ntmps16
    go_wp2_with (go_at_call 28; refine Stop.out ?_)
    refine Stop.go (amounts_c p n cap bal _ _ Hn.out (by unfold maxLen; omega) H.out ?_)
    rw [all_okAmt, Hw.out]
    go_wp2_with fail
    refine HR.out _ _ (Below.refl _ _) ?_
    rw [HL.out]; exact World.ownsRow_nil ..
  | false =>
    have Hw := hide hw; clear hw
    by_cases hlong : 1000 < m
    · have HL := hide (payRes_long (bal := bal) (l := l) (by rw [Hm.out]; exact hlong))
      go_enter Try.func16, Try.ntmps16
      go_wp2_with (go_at_call 28; refine Stop.out ?_)
      refine Stop.go (amounts_c p n cap bal _ _ Hn.out (by unfold maxLen; omega) H.out ?_)
      rw [all_okAmt, Hw.out]
      go_wp2_with fail
      refine HR.out _ _ (Below.refl _ _) ?_
      rw [HL.out]; exact World.ownsRow_nil ..
    · go_enter Try.func16, Try.ntmps16
      go_wp2_with (go_at_call 28; refine Stop.out ?_)
      refine Stop.go (amounts_c p n cap bal _ _ Hn.out (by unfold maxLen; omega) H.out ?_)
      rw [all_okAmt, Hw.out]
      go_wp2_with (at_builtin; refine Stop.out ?_)
      refine Stop.go ?_
      refine wpList_app _ rfl (.tmp 16) (.tmp 17) 22 rfl w.heap.size 3 i0 _ 1 8 Try.underlying22 hi0 hz0 hz1 hz2 rfl (by omega) _ 0 [] rfl (World.ownsRow_lit _ #[] 0 (Nat.le_refl _) (by decide) rfl) p n cap (bal.map (Value.int .i64)) rfl ((Src.ints Hn.out H.out).keep (Keeps.alloc _ _)) (ints_oneCell _ _) (by unfold maxLen; omega) (by omega) (by simp) ?_
      intro v1 w1 hown1 hg1
      have hg2 : (w.alloc (.cells #[] 3)).grownBy w1 (some w.heap.size) := hg1
      have Hb1 := hide (((Below.refl w.heap.size w).alloc (Nat.le_refl _) (.cells #[] 3)).grown hg2 (by simp) (fun k hk => by injection hk with hk; omega))
      rw [Nat.zero_add, List.nil_append] at hown1
      obtain ⟨p5, cap5, rfl, hp5⟩ := own_val hown1
      have Hp5 := hide hp5
      have Hown1 := hide hown1
      clear hown1 hg1 hg2 hp5
      go_wp2_with fail
      go_loopw [6] (fun i wr => ∃ k : Nat, k ≤ m ∧ i = .int .i64 k ∧ Hid ((l.take k).any (badTr n) = false) ∧ Hid (Below w.heap.size w wr) ∧ Hid (wr.ownsRow w.heap.size 3 1 (.slice p5 n cap5) n ((payAll bal (l.take k)).map (Value.int .i64)))
        ∧ Hid (Bd (1000000000000 + k * 2000000000000) (payAll bal (l.take k)))) (fun i _ => m - (intOf i).toNat)
      case atStart => exact ⟨0, Nat.zero_le _, rfl, hide (by simp), Hb1, hide (by simpa [payAll] using Hown1.out), hide (by simpa [payAll] using wrongB_any_false Hw.out)⟩
      case round =>
        obtain ⟨k, hk, rfl, ha, Hb, Ho, Hbd⟩ := hrel
        clear Hown1 Hb1
        by_cases hlt : k < m
        · obtain ⟨b, o, x, rfl, hx, hc1, hc2, hc3⟩ := (Ht.out.keep (Keeps.of_below Hb.out)).at_ (i := k) (by rw [Hm.out]; exact hlt)
          have hbw : b < w.heap.size := by
            obtain ⟨b', o', x', hq', _, hc, _⟩ := Ht.out.at_ (i := k) (by rw [Hm.out]; exact hlt)
            cases hq'
            exact block_lt hc
          have Hx := hide hx; clear hx
          cases hbad : badTr n x with
          | true =>
            have hbc := bad_cases hbad
            have HL := hide (payRes_bad (bal := bal) (l := l) (List.any_eq_true.2 ⟨x, List.mem_of_getElem? Hx.out, by rw [Hn.out]; exact hbad⟩))
            clear hbad
            obtain ⟨xf, xt, xa⟩ := x
            simp only at hc1 hc2 hc3 hbc
            have Hend := hide (fun (w' : World) (h : Below wr.heap.size wr w') => (show R (.returned (.slice none 0 0)) w' from HR.out _ _ (bseq Hb.out h) (by rw [HL.out]; exact World.ownsRow_nil ..)))
            rcases hbc with h1 | ⟨h1, h2⟩ | ⟨h1, h2, h3⟩ | ⟨h1, h2, h3, h4⟩ | ⟨h1, h2, h3, h4, h5⟩
            · go_wp2_with fail
              exact Hend.out _ ((Below.refl _ _).alloc (Nat.le_refl _) _)
            · go_wp2_with fail
              exact Hend.out _ ((Below.refl _ _).alloc (Nat.le_refl _) _)
            · go_wp2_with fail
              exact Hend.out _ ((Below.refl _ _).alloc (Nat.le_refl _) _)
            · go_wp2_with fail
              exact Hend.out _ ((Below.refl _ _).alloc (Nat.le_refl _) _)
            · have H5 := hide h5; clear h5
              go_wp2_with (go_at_call 29; refine Stop.out ?_)
              refine Stop.go (amount_c _ _ _ ?_)
              rw [okAmt_eq, H5.out]
              go_wp2_with fail
              exact Hend.out _ ((Below.refl _ _).alloc (Nat.le_refl _) _)
          | false =>
            obtain ⟨hf1, hf2, ht1, ht2, ha1, ha2⟩ := bad_false hbad
            have Hbad := hide hbad; clear hbad
            obtain ⟨xf, xt, xa⟩ := x
            simp only at hc1 hc2 hc3 hf1 hf2 ht1 ht2 ha1 ha2
            obtain ⟨f, rfl⟩ := Int.eq_ofNat_of_zero_le hf1
            obtain ⟨t, rfl⟩ := Int.eq_ofNat_of_zero_le ht1
            obtain ⟨g, cap6, hv5, hg1, hg2⟩ := own_form Ho.out (by omega)
            injection hv5 with hv1 hv2 hv3
            subst hv1; subst hv3
            have hokA : okAmt xa = true := by unfold okAmt; simp; omega
            have HokA := hide hokA
            clear hokA hv2
            go_wp2_with (go_at_call 29; refine Stop.out ?_)
            refine Stop.go (amount_c _ _ _ ?_)
            rw [HokA.out]
            go_wp2_with fail
            generalize hcur : payAll bal (l.take k) = cur at Ho Hbd
            have Hcur := hide hcur; clear hcur
            generalize hw1 : wr.alloc (.cells #[.int .i64 (f : Int), .int .i64 (t : Int), .int .i64 xa] 36) = w1
            have c0 : w1.cell? ⟨wr.heap.size, 0, none⟩ = some (.int .i64 (f : Int)) := by subst hw1; simp
            have c1 : w1.cell? ⟨wr.heap.size, 1, none⟩ = some (.int .i64 (t : Int)) := by subst hw1; simp
            have c2 : w1.cell? ⟨wr.heap.size, 2, none⟩ = some (.int .i64 xa) := by subst hw1; simp
            have ho1 : Hid (w1.ownsRow w.heap.size 3 1 (.slice (some ⟨g, 0, none⟩) n cap5) n (cur.map (Value.int .i64))) := by subst hw1; exact hide (Ho.out.alloc _)
            have hb1 : Hid (Below w.heap.size w w1) := by subst hw1; exact hide (balloc Hb.out _)
            clear hw1 Ho hc1 hc2 hc3 Hb
            generalize wr.heap.size = B at *
            obtain ⟨y1, hy1, hcf⟩ := owni_at ho1.out (i := f) (by omega)
            have b1 := Hbd.out.getD (by omega) f
            rw [hy1] at b1
            have Hy1 := hide hy1; clear hy1
            have hfz := fun j => ho1.out.frozenAt j
            go_still_tail 12, (by kernel_rfl)
            change wpList _ _ _ _ _ w1.drew
            go_wp2_with fail
            have ho2 : Hid ((w1.setCell ⟨g, f, none⟩ (.int .i64 (y1 + xa))).drew.ownsRow w.heap.size 3 1 (.slice (some ⟨g, 0, none⟩) n cap5) n ((cur.set f (y1 + xa)).map (Value.int .i64))) := hide (owni_set ho1.out f (y1 + xa))
            have hb2 : Hid (Below w.heap.size w (w1.setCell ⟨g, f, none⟩ (.int .i64 (y1 + xa))).drew) := hide (hb1.out.setCell hg1 _).drew
            replace c1 : (w1.setCell ⟨g, f, none⟩ (.int .i64 (y1 + xa))).drew.cell? ⟨B, 1, none⟩ = _ := (World.cell?_setCell_other w1 ⟨g, f, none⟩ ⟨B, 1, none⟩ _ (by intro h; injection h; omega)).trans c1
            replace c2 : (w1.setCell ⟨g, f, none⟩ (.int .i64 (y1 + xa))).drew.cell? ⟨B, 2, none⟩ = _ := (World.cell?_setCell_other w1 ⟨g, f, none⟩ ⟨B, 2, none⟩ _ (by intro h; injection h; omega)).trans c2
            generalize hw2 : (w1.setCell ⟨g, f, none⟩ (.int .i64 (y1 + xa))).drew = w2 at *
            clear hw2 hcf hfz ho1 hb1
            have hbk2 : Bd (1000000000000 + k * 2000000000000 + 1000000000000) (cur.set f (y1 + xa)) := Hbd.out.set (by omega) _ _ (by omega)
            obtain ⟨y2, hy2, hcf⟩ := owni_at ho2.out (i := t) (by omega)
            have b2 := hbk2.getD (by omega) t
            rw [hy2] at b2
            have Hy2 := hide hy2; clear hy2 hbk2
            have hfz := fun j => ho2.out.frozenAt j
            go_still_tail 12, (by kernel_rfl)
            change wpList _ _ _ _ _ w2.drew
            go_wp2_with fail
            have ho3 := hide (owni_set ho2.out t (y2 - xa))
            have hb3 := hide (hb2.out.setCell (p := ⟨g, t, none⟩) hg1 (.int .i64 (y2 - xa)))
            go_roundw
            case rel =>
              have he : payAll bal (l.take (k + 1)) = (cur.set f (y1 + xa)).set t (y2 - xa) := by
                rw [List.take_add_one, Hx.out]
                show payAll bal (l.take k ++ [_]) = _
                rw [payAll_snoc, Hcur.out]
                simp only [payOne, Int.toNat_natCast, Hy1.out, Hy2.out]
              refine ⟨k + 1, by omega, by go_num, hide (by rw [List.take_add_one, Hx.out]; simp only [Option.toList, List.any_append, ha.out, List.any_cons, List.any_nil, Hbad.out, Bool.or_false]), hide hb3.out.drew, hide (by rw [he]; exact ho3.out), hide (by
                have := Bd.payOne Hbd.out (by omega) (t := ⟨f, t, xa⟩) (n := n) ⟨by omega, by omega, by omega, by omega, by omega, by omega⟩
                rw [List.take_add_one, Hx.out]
                show Bd _ (payAll bal (l.take k ++ [_]))
                rw [payAll_snoc, Hcur.out]
                exact this.mono (by omega))⟩
            case measure => simp [intOf]; omega
        · have hkm : l.take k = l := List.take_of_length_le (by rw [Hm.out]; omega)
          rw [hkm] at ha Ho
          clear hkm
          have HL := hide (payRes_ok (by rw [Hm.out]; exact hlong) Hw.out (by rw [Hn.out]; exact ha.out))
          go_wp2_with fail
          refine HR.out _ _ Hb.out ?_
          rw [HL.out]
          unfold OwnI
          rw [length_payAll, Hn.out]
          exact Ho.out
end Go.Proofs.Ytkpnbglghindjaa
