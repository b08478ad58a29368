/- For any balances and payments between them the sum stays the same, paying in two parts is paying all, and with the same payments back, in the opposite order, the balances are what they were. -/
import Derived.Test.YtkpnbglghindjaaF2
import Derived.Test.YtkpnbglghindjaaC10
import Derived.Test.YtkpnbglghindjaaM2
import Derived.Test.YtkpnbglghindjaaD1
import Derived.Deep.RegionLaw
import Derived.Deep.RegionWith
set_option linter.unusedVariables false
set_option linter.unusedSimpArgs false
namespace Go.Proofs.Ytkpnbglghindjaa
open Go.ChangeShapes Go.WideShapes Go.ChangeAt Go.RowKit Math

def smallB (x : Int) : Bool := decide (-1000000 ≤ x) && decide (x ≤ 1000000)
def fineB (n : Nat) (t : Tr) : Bool := decide (0 ≤ t.fr) && decide (t.fr < n) && decide (0 ≤ t.to_) && decide (t.to_ < n) && smallB t.am
theorem fine_cases {n : Nat} {t : Tr} (h : fineB n t = false) : t.fr < 0 ∨ (0 ≤ t.fr ∧ (n : Int) ≤ t.fr) ∨ (0 ≤ t.fr ∧ t.fr < n ∧ t.to_ < 0) ∨ (0 ≤ t.fr ∧ t.fr < n ∧ 0 ≤ t.to_ ∧ (n : Int) ≤ t.to_) ∨ (0 ≤ t.fr ∧ t.fr < n ∧ 0 ≤ t.to_ ∧ t.to_ < n ∧ t.am < -1000000) ∨ (0 ≤ t.fr ∧ t.fr < n ∧ 0 ≤ t.to_ ∧ t.to_ < n ∧ -1000000 ≤ t.am ∧ 1000000 < t.am) := by
  unfold fineB smallB at h
  simp only [Bool.and_eq_false_iff, decide_eq_false_iff_not] at h
  omega
theorem fine_true {n : Nat} {t : Tr} (h : fineB n t = true) : 0 ≤ t.fr ∧ t.fr < n ∧ 0 ≤ t.to_ ∧ t.to_ < n ∧ -1000000 ≤ t.am ∧ t.am ≤ 1000000 := by
  unfold fineB smallB at h
  simp only [Bool.and_eq_true, decide_eq_true_eq] at h
  omega

set_option maxHeartbeats 400000 in
theorem small_c (p : Option Addr) (n cap : Nat) (l : List Int) (w : World) (R) (hn : l.length = n) (hl : n ≤ maxLen) (h : IntsAt .i64 w p l)
    (hR : ∀ w', Dr w w' → R (.returned (.bool (l.all smallB))) w') : Calls Try.prog 18 #[.slice p n cap] w R := by
  unfold maxLen at hl
  have Hn := hide hn; have HR := hide hR
  clear hn hR
  go_enter Try.func18, Try.ntmps18
  go_wp2
  go_loopw [3] (fun i wr => ∃ k d : Nat, k ≤ n ∧ i = .int .i64 k ∧ Hid ((l.take k).all smallB = true) ∧ wr = w.drewN d) (fun i _ => n - (intOf i).toNat)
  case atStart => exact ⟨0, 0, Nat.zero_le _, rfl, hide (by simp), rfl⟩
  case round =>
    obtain ⟨k, d, hk, rfl, ha, rfl⟩ := hrel
    by_cases hlt : k < n
    · obtain ⟨b, o, x, rfl, hx, hc⟩ := h.at_ (i := k) (by rw [Hn.out]; exact hlt)
      have Hx := hide hx; clear hx h
      by_cases h1 : x < -1000000
      · have Hf := hide (show smallB x = false by unfold smallB; rw [decide_eq_false (by omega)]; rfl)
        have HR1 := hide HR.out
        rw [all_false_of _ _ _ _ Hx.out Hf.out] at HR1
        go_wp2
        try go_quiet (fail)
        try go_wp2
        exact HR1.out _ (by first | exact Dr.one _ _ | exact Dr.two _ _ _)
      · by_cases h2 : 1000000 < x
        · have Hf := hide (show smallB x = false by unfold smallB; rw [decide_eq_false (show ¬ x ≤ 1000000 by omega), Bool.and_false])
          have HR1 := hide HR.out
          rw [all_false_of _ _ _ _ Hx.out Hf.out] at HR1
          go_wp2
          try go_quiet (fail)
          try go_wp2
          exact HR1.out _ (by first | exact Dr.one _ _ | exact Dr.two _ _ _)
        · have Hf := hide (show smallB x = true by unfold smallB; rw [decide_eq_true (by omega), decide_eq_true (show x ≤ 1000000 by omega)]; rfl)
          go_wp2
          try go_quiet (fail)
          try go_wp2
          go_roundw
          case rel => exact ⟨k + 1, _, by omega, by go_num, hide (by rw [all_take_succ _ _ _ _ Hx.out, ha.out, Hf.out]; rfl), rfl⟩
          case measure => simp [intOf]; omega
    · have hkn : l.take k = l := List.take_of_length_le (by rw [Hn.out]; omega)
      rw [hkn] at ha
      have HR1 := hide HR.out
      rw [ha.out] at HR1
      clear hkn
      go_wp2
      exact HR1.out _ (by first | exact Dr.one _ _ | exact Dr.two _ _ _)

set_option maxRecDepth 100000 in
set_option maxHeartbeats 1000000 in
theorem fine_c (q : Option Addr) (n m cap : Nat) (l : List Tr) (w : World) (R) (hm : l.length = m) (hl : m ≤ maxLen) (hn : n ≤ maxLen) (h : TrsAt w q l)
    (hR : ∀ w', Dr w w' → R (.returned (.bool (l.all (fineB n)))) w') : Calls Try.prog 19 #[.int .i64 n, .slice q m cap] w R := by
  unfold maxLen at hl hn
  have Hm := hide hm; have HR := hide hR
  clear hm hR
  go_enter Try.func19, Try.ntmps19
  go_wp2
  go_loopw [5] (fun i wr => ∃ k d : Nat, k ≤ m ∧ i = .int .i64 k ∧ Hid ((l.take k).all (fineB n) = true) ∧ wr = w.drewN d) (fun i _ => m - (intOf i).toNat)
  case atStart => exact ⟨0, 0, Nat.zero_le _, rfl, hide (by simp), rfl⟩
  case round =>
    obtain ⟨k, d, hk, rfl, ha, rfl⟩ := hrel
    by_cases hlt : k < m
    · obtain ⟨b, o, x, rfl, hx, hc1, hc2, hc3⟩ := h.at_ (i := k) (by rw [Hm.out]; exact hlt)
      have Hx := hide hx; clear hx h
      cases hf : fineB n x
      · have Hf := hide hf
        have HR1 := hide HR.out
        rw [all_false_of _ _ _ _ Hx.out Hf.out] at HR1
        have hcs := fine_cases hf
        clear hf
        obtain ⟨xf, xt, xa⟩ := x
        simp only at hc1 hc2 hc3 hcs
        rcases hcs with h1 | ⟨h1, h2⟩ | ⟨h1, h2, h3⟩ | ⟨h1, h2, h3, h4⟩ | ⟨h1, h2, h3, h4, h5⟩ | ⟨h1, h2, h3, h4, h5, h6⟩
        all_goals
          go_wp2
          try go_quiet (fail)
          try go_wp2
          exact HR1.out _ (by first | exact Dr.one _ _ | exact Dr.two _ _ _)
      · have Hf := hide hf
        obtain ⟨h1, h2, h3, h4, h5, h6⟩ := fine_true hf
        clear hf
        obtain ⟨xf, xt, xa⟩ := x
        simp only at hc1 hc2 hc3 h1 h2 h3 h4 h5 h6
        go_wp2
        try go_quiet (fail)
        try go_wp2
        go_roundw
        case rel => exact ⟨k + 1, _, by omega, by go_num, hide (by rw [all_take_succ _ _ _ _ Hx.out, ha.out, Hf.out]; rfl), rfl⟩
        case measure => simp [intOf]; omega
    · have hkn : l.take k = l := List.take_of_length_le (by rw [Hm.out]; omega)
      rw [hkn] at ha
      have HR1 := hide HR.out
      rw [ha.out] at HR1
      clear hkn
      go_wp2
      exact HR1.out _ (by first | exact Dr.one _ _ | exact Dr.two _ _ _)
end Go.Proofs.Ytkpnbglghindjaa
