import Derived.Test.YtkpnbglghindjaaC4
set_option linter.unusedVariables false
set_option linter.unusedSimpArgs false
namespace Go.Proofs.Ytkpnbglghindjaa
open Go.RowKit Math

/-- A payment that is not between n accounts, or not of a permitted amount. -/
def badTr (n : Nat) (t : Tr) : Bool := decide (t.fr < 0) || decide ((n : Int) ≤ t.fr) || decide (t.to_ < 0) || decide ((n : Int) ≤ t.to_) || wrongB maxB t.am
def payRes (bal : List Int) (l : List Tr) : List Int := if 1000 < l.length ∨ bal.any (wrongB maxB) = true ∨ l.any (badTr bal.length) = true then [] else payAll bal l
theorem payRes_long {bal : List Int} {l : List Tr} (h : 1000 < l.length) : payRes bal l = [] := if_pos (Or.inl h)
theorem payRes_wrong {bal : List Int} {l : List Tr} (h : bal.any (wrongB maxB) = true) : payRes bal l = [] := if_pos (Or.inr (Or.inl h))
theorem payRes_bad {bal : List Int} {l : List Tr} (h : l.any (badTr bal.length) = true) : payRes bal l = [] := if_pos (Or.inr (Or.inr h))
theorem payRes_ok {bal : List Int} {l : List Tr} (h : ¬ 1000 < l.length) (h1 : bal.any (wrongB maxB) = false) (h2 : l.any (badTr bal.length) = false) : payRes bal l = payAll bal l := by
  unfold payRes; rw [if_neg (by rw [h1, h2]; simp; omega)]
theorem bad_false {n : Nat} {t : Tr} (h : badTr n t = false) : TrOk n t := by
  unfold badTr at h
  simp only [Bool.or_eq_false_iff, decide_eq_false_iff_not] at h
  obtain ⟨⟨⟨⟨h1, h2⟩, h3⟩, h4⟩, h5⟩ := h
  have h6 : Bd 1000000000000 [t.am] := wrongB_any_false (by simpa using h5)
  have := h6 t.am (by simp)
  exact ⟨by omega, by omega, by omega, by omega, this.1, this.2⟩
theorem bad_cases {n : Nat} {t : Tr} (h : badTr n t = true) : t.fr < 0 ∨ (0 ≤ t.fr ∧ (n : Int) ≤ t.fr) ∨ (0 ≤ t.fr ∧ t.fr < n ∧ t.to_ < 0) ∨ (0 ≤ t.fr ∧ t.fr < n ∧ 0 ≤ t.to_ ∧ (n : Int) ≤ t.to_) ∨ (0 ≤ t.fr ∧ t.fr < n ∧ 0 ≤ t.to_ ∧ t.to_ < n ∧ wrongB maxB t.am = true) := by
  unfold badTr at h
  simp only [Bool.or_eq_true, decide_eq_true_eq] at h
  by_cases h5 : wrongB maxB t.am = true
  · simp only [h5, and_true]; omega
  · simp only [h5, Bool.false_eq_true, or_false, and_false] at h ⊢; omega

set_option maxRecDepth 100000 in
set_option maxHeartbeats 2000000 in
theorem Pay_c (p q : Option Addr) (n m cap cap' : Nat) (bal : List Int) (l : List Tr) (w : World) (R) (hn : bal.length = n) (hm : l.length = m) (hl : n ≤ 1000000) (hml : m ≤ maxLen) (h : IntsAt .i64 w p bal) (hp : p = none → n = 0) (ht : TrsAt w q l)
    (hR : ∀ v w', Below w.heap.size w w' → OwnI w' w.heap.size v (payRes bal l) → R (.returned v) w') : Calls Try.prog 15 #[.slice p n cap, .slice q m cap'] w R := by
  unfold maxLen at hml
  have Hn := hide hn; have Hm := hide hm; have HR := hide hR; have Hp := hide hp; have H := hide h; have Ht := hide ht
  clear hn hm hR hp h ht
  by_cases hlong : 1000 < m
  · have HL := hide (payRes_long (bal := bal) (l := l) (by rw [Hm.out]; exact hlong))
    go_enter Try.func15, Try.ntmps15
    go_wp2_with (go_at_call 22; refine Stop.out ?_)
    refine Stop.go (wrongNumber_c _ _ _ ?_)
    go_wp2_with fail
    refine HR.out _ _ ((Below.refl _ _).alloc (Nat.le_refl _) _) ?_
    rw [HL.out]; exact World.ownsRow_nil ..
  · cases hw : bal.any (wrongB maxB) with
    | true =>
      have HL := hide (payRes_wrong (l := l) hw)
      have Hw := hide hw; clear hw
      go_enter Try.func15, Try.ntmps15
      go_wp2_with (go_at_call 22; refine Stop.out ?_)
      refine Stop.go (wrongNumber_c _ _ _ ?_)
      go_wp2_with (go_at_call 21; refine Stop.out ?_)
      refine Stop.go (containsFunc_c _ _ _ bal _ _ (wrongB maxB) _ _ Hn.out (by unfold maxLen; omega) (H.out.keep (Keeps.alloc _ _)) (pred_wrong _ _ _ (by decide) (by decide) (by simp [maxB])) ?_)
      intro w1 hw1
      rw [Hw.out]
      have Hw1 := hide (Below.trans ((Below.refl w.heap.size w).alloc (Nat.le_refl _) _) hw1.below); clear hw1
      go_wp2_with fail
      refine HR.out _ _ Hw1.out ?_
      rw [HL.out]; exact World.ownsRow_nil ..
    | false =>
      have Hw := hide hw; clear hw
      go_enter Try.func15, Try.ntmps15
      go_wp2_with (go_at_call 22; refine Stop.out ?_)
      refine Stop.go (wrongNumber_c _ _ _ ?_)
      go_wp2_with (go_at_call 21; refine Stop.out ?_)
      refine Stop.go (containsFunc_c _ _ _ bal _ _ (wrongB maxB) _ _ Hn.out (by unfold maxLen; omega) (H.out.keep (Keeps.alloc _ _)) (pred_wrong _ _ _ (by decide) (by decide) (by simp [maxB])) ?_)
      intro w1 hw1
      rw [Hw.out]
      have Hw1 := hide (Below.trans ((Below.refl w.heap.size w).alloc (Nat.le_refl _) _) hw1.below)
      have Hcl := hide (hw1.keeps ⟨w.heap.size, 0, none⟩ (.int .i64 1000000000000) (by simp))
      clear hw1
      go_wp2_with fail
      go_loopw [20] (fun i wr => ∃ k : Nat, k ≤ m ∧ i = .int .i64 k ∧ Hid ((l.take k).any (badTr n) = false) ∧ Hid (Below w1.heap.size w1 wr)) (fun i _ => m - (intOf i).toNat)
      case atStart => exact ⟨0, Nat.zero_le _, rfl, hide (by simp), hide (Below.refl _ _)⟩
      case round =>
        obtain ⟨k, hk, rfl, ha, Hb⟩ := hrel
        by_cases hlt : k < m
        · obtain ⟨b, o, x, rfl, hx, hc1, hc2, hc3⟩ := (Ht.out.keep (Keeps.trans (Keeps.of_below Hw1.out) (Keeps.of_below Hb.out))).at_ (i := k) (by rw [Hm.out]; exact hlt)
          have hcl : ∀ o, (wr.alloc o).cell? ⟨w.heap.size, 0, none⟩ = some (.int .i64 1000000000000) := fun o => Keeps.alloc wr o _ _ (Keeps.of_below Hb.out _ _ Hcl.out)
          have Hx := hide hx; clear hx
          cases hbad : badTr n x with
          | true =>
            have hbc := bad_cases hbad
            have HL := hide (payRes_bad (bal := bal) (l := l) (List.any_eq_true.2 ⟨x, List.mem_of_getElem? Hx.out, by rw [Hn.out]; exact hbad⟩))
            clear hbad
            obtain ⟨xf, xt, xa⟩ := x
            simp only at hc1 hc2 hc3 hbc
            have Hend := hide (fun (w' : World) (h : Below wr.heap.size wr w') => (show R (.returned (.slice none 0 0)) w' from HR.out _ _ (Below.trans Hw1.out ((Below.trans (Hb.out) (h.mono Hb.out.size)).mono Hw1.out.size)) (by rw [HL.out]; exact World.ownsRow_nil ..)))
            rcases hbc with h1 | ⟨h1, h2⟩ | ⟨h1, h2, h3⟩ | ⟨h1, h2, h3, h4⟩ | ⟨h1, h2, h3, h4, h5⟩
            · go_wp2_with fail
              exact Hend.out _ ((Below.refl _ _).alloc (Nat.le_refl _) _)
            · go_wp2_with fail
              exact Hend.out _ ((Below.refl _ _).alloc (Nat.le_refl _) _)
            · go_wp2_with fail
              exact Hend.out _ ((Below.refl _ _).alloc (Nat.le_refl _) _)
            · go_wp2_with fail
              exact Hend.out _ ((Below.refl _ _).alloc (Nat.le_refl _) _)
            · have H5 := hide h5; clear h5
              go_wp2_with (go_at_call 31; refine Stop.out ?_)
              refine Stop.go (wrong_c _ _ _ _ _ (by decide) (by decide) (hcl _) ?_)
              rw [show (decide (xa < -1000000000000) || decide (1000000000000 < xa)) = true from H5.out]
              go_wp2_with fail
              exact Hend.out _ ((Below.refl _ _).alloc (Nat.le_refl _) _)
          | false =>
            obtain ⟨h1, h2, h3, h4, h5, h6⟩ := bad_false hbad
            have Hbad := hide hbad; clear hbad
            obtain ⟨xf, xt, xa⟩ := x
            simp only at hc1 hc2 hc3 h1 h2 h3 h4 h5 h6
            go_wp2_with (go_at_call 31; refine Stop.out ?_)
            refine Stop.go (wrong_c _ _ _ _ _ (by decide) (by decide) (hcl _) ?_)
            rw [show (decide (xa < -1000000000000) || decide (1000000000000 < xa)) = false by simp; omega]
            go_wp2_with fail
            go_roundw
            case rel => exact ⟨k + 1, by omega, by go_num, hide (by rw [List.take_add_one, Hx.out]; simp only [Option.toList, List.any_append, ha.out, List.any_cons, List.any_nil, Hbad.out, Bool.or_false]), hide (Hb.out.alloc Hb.out.size _)⟩
            case measure => simp [intOf]; omega
        · have hkm : l.take k = l := List.take_of_length_le (by rw [Hm.out]; omega)
          rw [hkm] at ha
          clear hkm
          have HL := hide (payRes_ok (by rw [Hm.out]; exact hlong) Hw.out (by rw [Hn.out]; exact ha.out))
          have hkk := Keeps.trans (Keeps.of_below Hw1.out) (Keeps.of_below Hb.out)
          have Hkk := hide hkk; clear hkk
          go_wp2_with (go_at_call 23; refine Stop.out ?_)
          refine Stop.go (clone_c p n cap bal _ _ Hn.out hl (H.out.keep Hkk.out) Hp.out ?_)
          intro v8 w2 hw2 hown2
          by_cases h0 : n = 0
          · subst h0
            have hb0 := List.eq_nil_of_length_eq_zero Hn.out
            have hl0 : l = [] := by
              cases l with
              | nil => rfl
              | cons t l =>
                have h1 := ha.out
                simp only [List.any_cons, Bool.or_eq_false_iff] at h1
                have h2 := bad_false h1.1
                unfold TrOk at h2
                omega
            have Hb0 := hide hb0; have Hl0 := hide hl0
            have hm0 : m = 0 := by rw [← Hm.out, Hl0.out]; rfl
            subst hm0
            have Hw2 := hide hw2; have Hown2 := hide hown2
            clear hb0 hl0 hw2 hown2
            go_wp2_with (go_at_call 27; refine Stop.out ?_)
            refine Stop.go (pay0_c _ _ _ _ _ ?_)
            go_wp2_with fail
            refine HR.out _ _ (bseq (bseq Hw1.out Hb.out) Hw2.out) ?_
            rw [HL.out, Hl0.out]
            exact own_mono Hown2.out (Nat.le_trans Hw1.out.size Hb.out.size)
          · have hown2' : w2.ownsRow wr.heap.size 3 1 v8 n (bal.map (Value.int .i64)) := by have := hown2; unfold OwnI at this; rw [Hn.out] at this; exact this
            obtain ⟨g, cap8, rfl, hg1, hg2⟩ := own_form hown2' (by omega)
            have Hown2 := hide hown2'
            have Hw2 := hide hw2
            clear hown2' hown2 hw2
            go_wp2_with (go_at_call 27; refine Stop.out ?_)
            refine Stop.go (pay_c g n cap8 wr.heap.size m cap' q bal l w2 _ Hm.out (by omega) hg1 hg2 Hown2.out hl (Ht.out.keep (Keeps.trans Hkk.out (Keeps.of_below Hw2.out))) ?_ ?_ ?_ ?_)
            · intro hm0 b o hq
              obtain ⟨b', o', x, hq', _, hc, _⟩ := Ht.out.at_ (i := 0) (by rw [Hm.out]; exact hm0)
              rw [hq] at hq'
              cases hq'
              have h9 : b < w.heap.size := block_lt hc
              have h10 := Hw1.out.size
              have h11 := Hb.out.size
              omega
            · exact fun t ht => bad_false (by have := List.any_eq_false.1 ha.out t ht; simpa using this)
            · exact (wrongB_any_false Hw.out).mono (by decide)
            · intro w3 hown3 hg3
              have Hown3 := hide hown3; have Hg3 := hide hg3
              clear hown3 hg3
              go_wp2_with fail
              refine HR.out _ _ ?_ ?_
              · exact bgrown (bseq (bseq Hw1.out Hb.out) Hw2.out) Hg3.out (Nat.le_trans Hw1.out.size (Nat.le_trans Hb.out.size hg1))
              · rw [HL.out]
                unfold OwnI
                rw [length_payAll, Hn.out]
                exact own_mono Hown3.out (Nat.le_trans Hw1.out.size Hb.out.size)
end Go.Proofs.Ytkpnbglghindjaa
