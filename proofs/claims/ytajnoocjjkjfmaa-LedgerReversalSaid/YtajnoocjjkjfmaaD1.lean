import Derived.Test.YtajnoocjjkjfmaaC5
import Derived.Test.YtajnoocjjkjfmaaP1
set_option linter.unusedVariables false
set_option linter.unusedSimpArgs false
namespace Go.Proofs.Ytajnoocjjkjfmaa
open Go.RowKit

theorem own_below {w w' : World} {base e size n : Nat} {v : Value} {xs : List Value} (h : w.ownsRow base e size v n xs) (hb : Below w.heap.size w w') : w'.ownsRow base e size v n xs := by
  refine ⟨h.1, ?_⟩
  rcases h.2 with h' | ⟨g, cap, cur, hv, hg, hh, rest⟩
  · exact .inl h'
  · exact .inr ⟨g, cap, cur, hv, hg, (hb.block g (Array.getElem?_eq_some_iff.1 hh).1).trans hh, rest⟩

instance : DecidableEq Ent := fun x y => match x, y with
  | ⟨a, b, c, d⟩, ⟨a', b', c', d'⟩ => if h : a = a' ∧ b = b' ∧ c = c' ∧ d = d' then isTrue (by obtain ⟨rfl, rfl, rfl, rfl⟩ := h; rfl) else isFalse (by intro h'; injection h' with h1 h2 h3 h4; exact h ⟨h1, h2, h3, h4⟩)
def fewE (l : List Ent) (m : Int) : Bool := l.all (fun e => decide (e.ref.size ≤ 100)) && decide ((l.length : Int) ≤ m)
set_option maxHeartbeats 400000 in
theorem few_c (p : Option Addr) (n cap : Nat) (l : List Ent) (m : Int) (w : World) (R) (hn : l.length = n) (hl : n ≤ maxLen) (hw : EWf l) (h : EntsAt w p l)
    (hR : R (.returned (.bool (fewE l m))) w) : Calls Try.prog 12 #[.slice p n cap, .int .i64 m] w R := by
  unfold maxLen at hl
  have Hn := hide hn; have Hw := hide hw; have HR := hide hR
  clear hn hw hR
  go_enter Try.func12, Try.ntmps12
  go_wp2
  go_loop [5] (fun i => ∃ k : Nat, k ≤ n ∧ i = .int .i64 k ∧ Hid ((l.take k).all (fun e => decide (e.ref.size ≤ 100)) = true)) (fun i => n - (intOf i).toNat)
  case atStart => exact ⟨0, Nat.zero_le _, rfl, hide (by simp)⟩
  case round =>
    obtain ⟨k, hk, rfl, ha⟩ := hrel
    by_cases hlt : k < n
    · obtain ⟨b, o, x, rfl, hx, hc1, hc2, hc3, hc4⟩ := h.at_ (i := k) (by rw [Hn.out]; exact hlt)
      have hxs := (Hw.out x (List.mem_of_getElem? hx)).2.2.2
      unfold maxLen at hxs
      by_cases hs : x.ref.size ≤ 100
      · have ha2 := hide (show (l.take (k + 1)).all (fun e => decide (e.ref.size ≤ 100)) = true by rw [all_take_succ _ _ _ _ hx, ha.out]; simpa using hs)
        have hs' : ¬ (100 : Int) < (x.ref.size : Int) := by omega
        clear hx h
        go_wp2
        go_round
        case rel => exact ⟨k + 1, by omega, by go_num, ha2⟩
        case measure => simp [intOf]; omega
      · have HF := hide (show fewE l m = false by unfold fewE; rw [all_false_of _ _ _ _ hx (by simpa using hs)]; rfl)
        have hs' : (100 : Int) < (x.ref.size : Int) := by omega
        have := hide HR.out
        rw [HF.out] at this
        clear hx h
        go_wp2
        exact this.out
    · have e1 : l.all (fun e => decide (e.ref.size ≤ 100)) = true := by have := ha.out; rw [List.take_of_length_le (by rw [Hn.out]; omega)] at this; exact this
      have HF := hide (show fewE l m = decide ((n : Int) ≤ m) by unfold fewE; rw [e1, Hn.out]; simp)
      have := hide HR.out
      rw [HF.out] at this
      clear e1
      go_wp2
      exact this.out

theorem bytes_inj {x y : ByteArray} : x.toList = y.toList ↔ x = y := by
  rw [ByteArray.toList_eq, ByteArray.toList_eq]
  constructor
  · intro h
    obtain ⟨⟨a⟩⟩ := x; obtain ⟨⟨b⟩⟩ := y
    simp at h; rw [h]
  · rintro rfl; rfl
theorem run_neq_ent (x y : Ent) (w : World) : (binOp .neq 34 (entAgg x) (entAgg y)).run Try.prog w = .ok (.bool (decide (x ≠ y))) w := by
  obtain ⟨x1, x2, x3, x4⟩ := x
  obtain ⟨y1, y2, y3, y4⟩ := y
  unfold entAgg
  by_cases h1 : x1 = y1 <;> by_cases h2 : x2 = y2 <;> by_cases h3 : x3 = y3 <;> by_cases h4 : x4 = y4 <;> simp [go_sem, h1, h2, h3, h4, bytes_inj]
set_option maxHeartbeats 400000 in
theorem same_c (p q : Option Addr) (n m cap cap' : Nat) (l l' : List Ent) (w : World) (R) (hn : l.length = n) (hm : l'.length = m) (hl : n ≤ maxLen) (hl' : m ≤ maxLen) (h : EntsAt w p l) (h' : EntsAt w q l')
    (hR : ∀ w', Dr w w' → R (.returned (.bool (decide (l = l')))) w') : Calls Try.prog 22 #[.slice p n cap, .slice q m cap'] w R := by
  unfold maxLen at hl hl'
  by_cases hnm : n = m
  · subst hnm
    have Hn := hide hn; clear hn
    have Hm := hide hm; clear hm
    have HR := hide hR; clear hR
    go_enter Try.func22, Try.ntmps22
    go_wp2
    go_loopw [5] (fun i wr => ∃ k d : Nat, k ≤ n ∧ i = .int .i64 k ∧ Hid (l.take k = l'.take k) ∧ wr = w.drewN d) (fun i _ => n - (intOf i).toNat)
    case atStart => exact ⟨0, 0, Nat.zero_le _, rfl, hide (by simp), rfl⟩
    case round =>
      obtain ⟨k, d, hk, rfl, ha, rfl⟩ := hrel
      by_cases hlt : k < n
      · obtain ⟨b, o, x, rfl, hx, hc1, hc2, hc3, hc4⟩ := h.at_ (i := k) (by rw [Hn.out]; exact hlt)
        obtain ⟨b', o', y, rfl, hy, hd1, hd2, hd3, hd4⟩ := h'.at_ (i := k) (by rw [Hm.out]; exact hlt)
        have Hx := hide hx; clear hx h
        have Hy := hide hy; clear hy h'
        have hq := run_neq_ent x y
        unfold entAgg at hq
        by_cases hxy : x = y
        · subst hxy
          simp only [ne_eq, not_true_eq_false, decide_false] at hq
          go_wp2
          go_quiet (fail)
          go_wp2
          go_roundw
          case rel => exact ⟨k + 1, _, by omega, by go_num, hide (take_eq_succ _ _ _ _ Hx.out Hy.out ha.out), rfl⟩
          case measure => simp [intOf]; omega
        · rw [decide_eq_true hxy] at hq
          go_wp2
          go_quiet (fail)
          go_wp2
          have := HR.out
          rw [decide_eq_false (ne_of_at _ _ _ _ _ Hx.out Hy.out hxy)] at this
          exact this _ (by first | exact Dr.one _ _ | exact Dr.two _ _ _)
      · have he : l = l' := eq_of_take_all _ _ n Hn.out Hm.out (by rw [show n = k by omega]; exact ha.out)
        have He := hide he; clear he
        go_wp2
        have := HR.out
        rw [decide_eq_true He.out] at this
        exact this _ (by first | exact Dr.one _ _ | exact Dr.two _ _ _)
  · have hne : ¬ l = l' := by rintro rfl; omega
    rw [decide_eq_false hne] at hR
    have HR := hide hR; clear hR hne hn hm
    go_enter Try.func22, Try.ntmps22
    go_wp2
    exact HR.out _ (Dr.refl _)

/-- The reference's test of balances. -/
def okB (l : List Int) : Bool := l.all (fun s => inB s (-1000000000) 1000000000) && inB (l.length : Int) 1 100
set_option maxHeartbeats 400000 in
theorem refOk_c (p : Option Addr) (n cap : Nat) (l : List Int) (w : World) (R) (hn : l.length = n) (hl : n ≤ maxLen) (h : IntsAt .i64 w p l)
    (hR : ∀ w', Dr w w' → R (.returned (.bool (okB l))) w') : Calls Try.prog 32 #[.slice p n cap] w R := by
  unfold maxLen at hl
  have Hn := hide hn; have HR := hide hR
  clear hn hR
  go_enter Try.func32, Try.ntmps32
  go_wp2
  go_loopw [3] (fun i wr => ∃ k d : Nat, k ≤ n ∧ i = .int .i64 k ∧ Hid ((l.take k).all (fun s => inB s (-1000000000) 1000000000) = true) ∧ wr = w.drewN d) (fun i _ => n - (intOf i).toNat)
  case atStart => exact ⟨0, 0, Nat.zero_le _, rfl, hide (by simp), rfl⟩
  case round =>
    obtain ⟨k, d, hk, rfl, ha, rfl⟩ := hrel
    by_cases hlt : k < n
    · obtain ⟨b, o, x, rfl, hx, hc⟩ := h.at_ (i := k) (by rw [Hn.out]; exact hlt)
      cases hxi : inB x (-1000000000) 1000000000 with
      | true =>
        have Hxi := hide hxi
        have ha2 := hide (show (l.take (k + 1)).all (fun s => inB s (-1000000000) 1000000000) = true by rw [all_take_succ _ _ _ _ hx, ha.out, hxi]; rfl)
        clear hx h hxi
        go_wp2
        go_quiet ((first | (go_at_call 29; refine most_c _ _ ?_; exact ⟨rfl, _, rfl⟩) | (go_at_call 25; refine between_c _ _ _ _ _ ?_; rw [Hxi.out]; exact ⟨rfl, _, rfl⟩)))
        go_wp2
        go_roundw
        case rel => exact ⟨k + 1, _, by omega, by go_num, ha2, (by first | rfl | exact World.drewN_drewN _ _ _)⟩
        case measure => simp [intOf]; omega
      | false =>
        have Hxi := hide hxi
        have HF := hide (show okB l = false by unfold okB; rw [all_false_of _ _ _ _ hx hxi]; rfl)
        have := hide HR.out
        rw [HF.out] at this
        clear hx h hxi
        go_wp2
        go_quiet ((first | (go_at_call 29; refine most_c _ _ ?_; exact ⟨rfl, _, rfl⟩) | (go_at_call 25; refine between_c _ _ _ _ _ ?_; rw [Hxi.out]; exact ⟨rfl, _, rfl⟩)))
        go_wp2
        exact this.out _ (by first | exact Dr.one _ _ | exact Dr.two _ _ _)
    · have e1 : l.all (fun s => inB s (-1000000000) 1000000000) = true := by have := ha.out; rw [List.take_of_length_le (by rw [Hn.out]; omega)] at this; exact this
      have HF := hide (show okB l = inB (n : Int) 1 100 by unfold okB; rw [e1, Hn.out]; simp)
      have := hide HR.out
      rw [HF.out] at this
      clear e1
      go_wp2_with (go_at_call 25; refine between_c _ _ _ _ _ ?_)
      exact this.out _ (by first | exact Dr.one _ _ | exact Dr.two _ _ _)
end Go.Proofs.Ytajnoocjjkjfmaa
