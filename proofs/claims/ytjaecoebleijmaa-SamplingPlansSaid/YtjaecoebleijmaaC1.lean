import Derived.Test.YtjaecoebleijmaaChecked
import Derived.Test.YtjaecoebleijmaaBase
set_option linter.unusedVariables false
set_option linter.unusedSimpArgs false
namespace Go.Proofs.Ytjaecoebleijmaa
open Go.RowKit

/-- A sampling plan that is well-formed. -/
def validB (n step first : Int) : Bool := decide (1 ≤ n) && decide (n ≤ 1000000) && decide (1 ≤ step) && decide (step ≤ n) && decide (0 ≤ first) && decide (first < step)
theorem valid_true {n step first : Int} (h : validB n step first = true) : 1 ≤ n ∧ n ≤ 1000000 ∧ 1 ≤ step ∧ step ≤ n ∧ 0 ≤ first ∧ first < step := by
  unfold validB at h; simp only [Bool.and_eq_true, decide_eq_true_eq] at h; omega
theorem valid_false {n step first : Int} (h : validB n step first = false) : n < 1 ∨ (1 ≤ n ∧ 1000000 < n) ∨ (1 ≤ n ∧ n ≤ 1000000 ∧ step < 1) ∨ (1 ≤ n ∧ n ≤ 1000000 ∧ 1 ≤ step ∧ n < step) ∨
    (1 ≤ n ∧ n ≤ 1000000 ∧ 1 ≤ step ∧ step ≤ n ∧ first < 0) ∨ (1 ≤ n ∧ n ≤ 1000000 ∧ 1 ≤ step ∧ step ≤ n ∧ 0 ≤ first ∧ step ≤ first) := by
  unfold validB at h; simp only [Bool.and_eq_false_iff, decide_eq_false_iff_not] at h; omega

set_option maxHeartbeats 400000 in
theorem wellFormed_c (n step first : Int) (w : World) (R) (hR : R (.returned (.bool (validB n step first))) w) : Calls Try.prog 20 #[.int .i64 n, .int .i64 step, .int .i64 first] w R := by
  cases hv : validB n step first with
  | true =>
    rw [hv] at hR
    obtain ⟨h1, h2, h3, h4, h5, h6⟩ := valid_true hv
    clear hv
    go_enter Try.func20, Try.ntmps20
    go_wp2
    exact hR
  | false =>
    rw [hv] at hR
    have hc := valid_false hv
    clear hv
    rcases hc with h1 | ⟨h1, h2⟩ | ⟨h1, h2, h3⟩ | ⟨h1, h2, h3, h4⟩ | ⟨h1, h2, h3, h4, h5⟩ | ⟨h1, h2, h3, h4, h5, h6⟩
    all_goals
      go_enter Try.func20, Try.ntmps20
      go_wp2
      first | exact hR | (rw [← decide_eq_false (show ¬ first < step by omega)] at hR; exact hR)

set_option maxHeartbeats 400000 in
theorem valid_c (n step first : Int) (w : World) (R) (hR : R (.returned (.bool (validB n step first))) w) : Calls Try.prog 23 #[.int .i64 n, .int .i64 step, .int .i64 first] w R := by
  cases hv : validB n step first with
  | true =>
    rw [hv] at hR
    obtain ⟨h1, h2, h3, h4, h5, h6⟩ := valid_true hv
    clear hv
    go_enter Try.func23, Try.ntmps23
    go_wp2
    exact hR
  | false =>
    rw [hv] at hR
    have hc := valid_false hv
    clear hv
    rcases hc with h1 | ⟨h1, h2⟩ | ⟨h1, h2, h3⟩ | ⟨h1, h2, h3, h4⟩ | ⟨h1, h2, h3, h4, h5⟩ | ⟨h1, h2, h3, h4, h5, h6⟩
    all_goals
      go_enter Try.func23, Try.ntmps23
      go_wp2
      first | exact hR | (rw [← decide_eq_false (show ¬ first < step by omega)] at hR; exact hR)

theorem apart_c (a b : Int) (w : World) (R) (ha : -4000000000000000000 ≤ a ∧ a ≤ 4000000000000000000) (hb : -4000000000000000000 ≤ b ∧ b ≤ 4000000000000000000)
    (hR : R (.returned (.int .i64 (max a b - min a b))) w) : Calls Try.prog 18 #[.int .i64 a, .int .i64 b] w R := by
  have h1 : -4000000000000000000 ≤ max a b ∧ max a b ≤ 4000000000000000000 := by omega
  have h2 : -4000000000000000000 ≤ min a b ∧ min a b ≤ 4000000000000000000 := by omega
  go_enter Try.func18, Try.ntmps18
  go_wp2
  exact hR
end Go.Proofs.Ytjaecoebleijmaa
