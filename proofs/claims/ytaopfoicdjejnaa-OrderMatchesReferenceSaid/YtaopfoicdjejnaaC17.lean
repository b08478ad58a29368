/- The laws' small functions. -/
import Derived.Test.YtaopfoicdjejnaaW1
set_option linter.unusedVariables false
set_option linter.unusedSimpArgs false
namespace Go.Proofs.Ytaopfoicdjejnaa
open Go.RowKit

def rowsFew (d : List (List Int)) : Bool := d.all fun r => decide (r.length ≤ 5)
def fewR (d : List (List Int)) (m : Nat) (most : Int) : Bool := decide (d.length ≤ 5) && decide ((m : Int) ≤ most) && rowsFew d
set_option maxHeartbeats 1000000 in
theorem rfew_c (dp ep : Option Addr) (dc ec m : Nat) (most : Int) (d : List (List Int)) (w : World) (R) (hdl : d.length ≤ maxLen) (hm : m ≤ maxLen) (hd : RowsAt w dp d) (hR : R (.returned (.bool (fewR d m most))) w) :
    Calls Try.prog 20 #[.slice dp d.length dc, .slice ep m ec, .int .i64 5, .int .i64 most] w R := by
  unfold maxLen at hdl hm
  by_cases h5 : d.length ≤ 5
  rotate_left
  · rw [show fewR d m most = false by unfold fewR; rw [decide_eq_false h5]; rfl] at hR
    have h5' : (5 : Int) < (d.length : Int) := by omega
    have HR := hide hR; clear hR
    go_enter Try.func20, Try.ntmps20
    go_wp2
    exact HR.out
  have h5' : ¬ (5 : Int) < (d.length : Int) := by omega
  by_cases hmm : (m : Int) ≤ most
  rotate_left
  · rw [show fewR d m most = false by unfold fewR; rw [decide_eq_false hmm]; simp] at hR
    have hmm' : most < (m : Int) := by omega
    have HR := hide hR; clear hR
    go_enter Try.func20, Try.ntmps20
    go_wp2
    exact HR.out
  have hmm' : ¬ most < (m : Int) := by omega
  rw [show fewR d m most = rowsFew d by unfold fewR; rw [decide_eq_true h5, decide_eq_true hmm]; rfl] at hR
  have HR := hide hR; have Hd := hide hd
  clear hR hd
  go_enter Try.func20, Try.ntmps20
  go_wp2
  go_loop [9] (fun si => ∃ i : Nat, i ≤ d.length ∧ si = .int .i64 i ∧ Hid ((d.take i).all (fun r => decide (r.length ≤ 5)) = true)) (fun si => d.length - (intOf si).toNat)
  case atStart => exact ⟨0, Nat.zero_le _, rfl, hide (by simp)⟩
  case round =>
    obtain ⟨i, hi, rfl, HA⟩ := hrel
    by_cases hlt : i < d.length
    · obtain ⟨b, o, r, q, rc, rfl, hr, cr, hin, hrl⟩ := Hd.out.at_ hlt
      unfold maxLen at hrl
      by_cases h : r.length ≤ 5
      · have h' : ¬ (5 : Int) < (r.length : Int) := by omega
        have HA2 := hide (show (d.take (i + 1)).all (fun r => decide (r.length ≤ 5)) = true by rw [all_take_succ _ _ _ _ hr, HA.out]; simpa using h)
        clear hr hin
        go_wp2
        go_round
        case rel => exact ⟨i + 1, by omega, by go_num, HA2⟩
        case measure => simp [intOf]; omega
      · have h' : (5 : Int) < (r.length : Int) := by omega
        have HF := hide (show rowsFew d = false from all_false_of _ _ _ _ hr (by simpa using h))
        have HR1 := hide HR.out
        rw [HF.out] at HR1
        clear hr hin
        go_wp2
        exact HR1.out
    · obtain rfl : i = d.length := by omega
      have HT := hide (show rowsFew d = true by have := HA.out; rwa [List.take_length] at this)
      have HR1 := hide HR.out
      rw [HT.out] at HR1
      go_wp2
      exact HR1.out
def fewB (d : List (List Int)) (m k t : Nat) : Bool := fewR d m 7 && decide (k ≤ 4) && decide (t ≤ 7)
set_option maxHeartbeats 1000000 in
theorem few_c (dp ep lp tp : Option Addr) (dc ec lc tc m k t : Nat) (d : List (List Int)) (w : World) (R) (hdl : d.length ≤ maxLen) (hm : m ≤ maxLen) (hk : k ≤ maxLen) (ht : t ≤ maxLen) (hd : RowsAt w dp d) (hR : R (.returned (.bool (fewB d m k t))) w) :
    Calls Try.prog 11 #[.slice dp d.length dc, .slice ep m ec, .slice lp k lc, .slice tp t tc] w R := by
  have HR := hide hR; clear hR
  unfold fewB at HR
  cases hf : fewR d m 7 with
  | false =>
    rw [hf] at HR
    simp only [Bool.false_and] at HR
    have Hf := hide hf
    clear hf
    go_enter Try.func11, Try.ntmps11
    go_wp2_with (go_at_call 20; refine rfew_c _ _ _ _ _ _ _ _ _ hdl hm hd ?_; rw [Hf.out])
    exact HR.out
  | true =>
    rw [hf] at HR
    simp only [Bool.true_and] at HR
    have Hf := hide hf
    clear hf
    unfold maxLen at hk ht
    by_cases h4 : k ≤ 4
    · have h4' : (k : Int) ≤ 4 := by omega
      by_cases h7 : t ≤ 7
      · rw [decide_eq_true h4, decide_eq_true h7] at HR
        have h7' : (t : Int) ≤ 7 := by omega
        go_enter Try.func11, Try.ntmps11
        go_wp2_with (go_at_call 20; refine rfew_c _ _ _ _ _ _ _ _ _ hdl hm hd ?_; rw [Hf.out])
        exact HR.out
      · rw [decide_eq_true h4, decide_eq_false h7] at HR
        have h7' : (7 : Int) < (t : Int) := by omega
        have d7 : decide ((t : Int) ≤ 7) = false := by simp; omega
        go_enter Try.func11, Try.ntmps11
        go_wp2_with (go_at_call 20; refine rfew_c _ _ _ _ _ _ _ _ _ hdl hm hd ?_; rw [Hf.out])
        exact HR.out
    · rw [decide_eq_false h4] at HR
      have h4' : (4 : Int) < (k : Int) := by omega
      have d4 : decide ((k : Int) ≤ 4) = false := by simp; omega
      go_enter Try.func11, Try.ntmps11
      go_wp2_with (go_at_call 20; refine rfew_c _ _ _ _ _ _ _ _ _ hdl hm hd ?_; rw [Hf.out])
      exact HR.out
set_option maxHeartbeats 1000000 in
theorem ints_c (p q : Option Addr) (n m c c' : Nat) (l l' : List Int) (w : World) (R) (hn : l.length = n) (hm : l'.length = m) (hl : n ≤ 1000000) (hl' : m ≤ 1000000) (h : IntsAt .i64 w p l) (h' : IntsAt .i64 w q l')
    (hR : ∀ w', Dr w w' → R (.returned (.bool (decide (l = l')))) w') : Calls Try.prog 16 #[.slice p n c, .slice q m c'] w R := by
  by_cases hnm : n = m
  · subst hnm
    have Hn := hide hn; have Hm := hide hm; have HR := hide hR
    clear hn hm hR
    go_enter Try.func16, Try.ntmps16
    go_wp2
    go_loopw [5] (fun i wr => ∃ k d : Nat, k ≤ n ∧ i = .int .i64 k ∧ Hid (l.take k = l'.take k) ∧ wr = w.drewN d) (fun i _ => n - (intOf i).toNat)
    case atStart => exact ⟨0, 0, Nat.zero_le _, rfl, hide (by simp), rfl⟩
    case round =>
      obtain ⟨k, d, hk, rfl, ha, rfl⟩ := hrel
      by_cases hlt : k < n
      · obtain ⟨b, o, x, rfl, hx, c1⟩ := h.at_ (i := k) (by rw [Hn.out]; exact hlt)
        obtain ⟨b', o', y, rfl, hy, c2⟩ := h'.at_ (i := k) (by rw [Hm.out]; exact hlt)
        have Hx := hide hx; have Hy := hide hy
        clear hx hy h h'
        by_cases hxy : x = y
        · subst hxy
          have hq : (x != x) = false := by simp
          go_wp2
          go_quiet (fail)
          go_wp2
          go_roundw
          case rel => exact ⟨k + 1, _, by omega, by go_num, hide (take_eq_succ _ _ _ _ Hx.out Hy.out ha.out), rfl⟩
          case measure => simp [intOf]; omega
        · have hq : (x != y) = true := by simpa using hxy
          have hne : ¬ l = l' := fun e => hxy (by have h1 := Hx.out; have h2 := Hy.out; rw [e] at h1; rw [h1] at h2; injection h2)
          have Hne := hide hne
          clear hxy hne
          go_wp2
          go_quiet (fail)
          go_wp2
          have := HR.out
          rw [decide_eq_false Hne.out] at this
          exact this _ (by first | exact Dr.one _ _ | exact Dr.two _ _ _)
      · have he : l = l' := eq_of_take_all _ _ n Hn.out Hm.out (by rw [show n = k by omega]; exact ha.out)
        have He := hide he; clear he
        go_wp2
        have := HR.out
        rw [decide_eq_true He.out] at this
        exact this _ (by first | exact Dr.one _ _ | exact Dr.two _ _ _)
  · have hne : ¬ l = l' := by rintro rfl; omega
    rw [decide_eq_false hne] at hR
    have HR := hide hR; clear hR hne hn hm
    have hq : ((n : Int) != (m : Int)) = true := by simp; omega
    clear hnm
    go_enter Try.func16, Try.ntmps16
    go_wp2
    exact HR.out _ (Dr.refl _)
end Go.Proofs.Ytaopfoicdjejnaa
