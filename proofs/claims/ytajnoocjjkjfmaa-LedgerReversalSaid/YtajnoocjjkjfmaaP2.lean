/- Plain: settling keeps the sum, and ends where nothing is owed. -/
import Derived.Test.YtajnoocjjkjfmaaA4
import Derived.Test.YtajnoocjjkjfmaaD1
set_option linter.unusedVariables false
set_option linter.unusedSimpArgs false
namespace Go.Proofs.Ytajnoocjjkjfmaa
open Go.RowKit

theorem sum_nxt {d : List Int} (h : halt d = false) : (nxt d).sum = d.sum := by
  obtain ⟨h1, h2, h3, h4⟩ := halt_false h
  unfold nxt
  rw [sum_set _ _ _ (by simpa using h2), sum_set _ _ _ h1, getD_set _ _ _ _ h1, if_neg h3]
  omega
theorem sum_neg : ∀ (d : List Int), (∀ t, d.getD t 0 ≤ 0) → d.sum ≤ 0 ∧ (∀ t, t < d.length → d.getD t 0 < 0 → d.sum < 0)
  | [], _ => ⟨by simp, fun t h => by simp at h⟩
  | x :: d, h => by
    have h0 := h 0
    obtain ⟨i1, i2⟩ := sum_neg d (fun t => by have := h (t + 1); simpa using this)
    simp at h0
    refine ⟨by simp; omega, fun t ht hn => ?_⟩
    cases t with
    | zero => simp at hn; simp; omega
    | succ t =>
      have := i2 t (by simpa using ht) (by simpa using hn)
      simp; omega
theorem sum_pos : ∀ (d : List Int), (∀ t, 0 ≤ d.getD t 0) → 0 ≤ d.sum ∧ (∀ t, t < d.length → 0 < d.getD t 0 → 0 < d.sum)
  | [], _ => ⟨by simp, fun t h => by simp at h⟩
  | x :: d, h => by
    have h0 := h 0
    obtain ⟨i1, i2⟩ := sum_pos d (fun t => by have := h (t + 1); simpa using this)
    simp at h0
    refine ⟨by simp; omega, fun t ht hn => ?_⟩
    cases t with
    | zero => simp at hn; simp; omega
    | succ t =>
      have := i2 t (by simpa using ht) (by simpa using hn)
      simp; omega
theorem getD_len {d : List Int} {t : Nat} (h : d.length ≤ t) : d.getD t 0 = 0 := by rw [List.getD_eq_getElem?_getD, List.getElem?_eq_none h]; rfl
theorem pos_of_neg {d : List Int} (hs : d.sum = 0) (h : negI d < d.length) : posI d < d.length := by
  rcases Nat.lt_or_ge (posI d) d.length with h1 | h1
  · exact h1
  · exfalso
    have hall : ∀ t, d.getD t 0 ≤ 0 := fun t => by
      rcases Nat.lt_or_ge t d.length with h2 | h2
      · exact posI_before d (by omega)
      · rw [getD_len h2]; omega
    have := (sum_neg d hall).2 _ h (negI_at d h)
    omega
theorem neg_of_pos {d : List Int} (hs : d.sum = 0) (h : posI d < d.length) : negI d < d.length := by
  rcases Nat.lt_or_ge (negI d) d.length with h1 | h1
  · exact h1
  · exfalso
    have hall : ∀ t, 0 ≤ d.getD t 0 := fun t => by
      rcases Nat.lt_or_ge t d.length with h2 | h2
      · exact negI_before d (by omega)
      · rw [getD_len h2]; omega
    have := (sum_pos d hall).2 _ h (posI_at d h)
    omega
theorem zero_of_halt {d : List Int} (hs : d.sum = 0) (h : halt d = true) : ∀ t, d.getD t 0 = 0 := by
  have h1 := negI_le d; have h2 := posI_le d
  have e : negI d = d.length ∧ posI d = d.length := by
    unfold halt at h
    simp at h
    rcases h with h | h
    · refine ⟨h, ?_⟩
      rcases Nat.lt_or_ge (posI d) d.length with h3 | h3
      · have := neg_of_pos hs h3; omega
      · omega
    · refine ⟨?_, h⟩
      rcases Nat.lt_or_ge (negI d) d.length with h3 | h3
      · have := pos_of_neg hs h3; omega
      · omega
  intro t
  rcases Nat.lt_or_ge t d.length with h3 | h3
  · have := negI_before d (t := t) (by omega); have := posI_before d (t := t) (by omega); omega
  · exact getD_len h3
theorem settleL_len (ref : ByteArray) (d : List Int) : (settleL ref d).length ≤ nz d := by
  have : ∀ k d, (settle ref k d).length ≤ k := by
    intro k
    induction k with
    | zero => intro d; simp [settle]
    | succ k ih => intro d; simp only [settle]; split; simp; simp; exact ih _
  exact this (nz d) d

theorem okB_adj {a b : List Int} {ref : ByteArray} (ha : okB a = true) (hb : okB b = true) (hl : a.length = b.length) (hr : ref.size ≤ 60) : adjShape a b ref = true ∧ a.any wrongA = false ∧ b.any wrongA = false := by
  unfold okB at ha hb
  rw [Bool.and_eq_true] at ha hb
  unfold adjShape
  rw [any_wrong, any_wrong, ha.1, hb.1, ha.2, decide_eq_true hl, decide_eq_true hr]
  exact ⟨rfl, rfl, rfl⟩
theorem adjE_one {a b : List Int} {ref : ByteArray} (h : adjShape a b ref = false ∨ (a.any wrongA || b.any wrongA) = true) : adjE a b ref = 1 := by
  unfold adjE
  rcases h with h | h
  · rw [if_pos h]
  · split
    · rfl
    · rfl
theorem okB_false_a {a b : List Int} {ref : ByteArray} (ha : okB a = false) : adjE a b ref = 1 := by
  unfold okB at ha
  rw [Bool.and_eq_false_iff] at ha
  rcases ha with h | h
  · exact adjE_one (.inr (by rw [any_wrong, h]; rfl))
  · exact adjE_one (.inl (by unfold adjShape; rw [h]; simp))
theorem okB_false_b {a b : List Int} {ref : ByteArray} (hb : okB b = false) : adjE a b ref = 1 := by
  unfold okB at hb
  rw [Bool.and_eq_false_iff] at hb
  rcases hb with h | h
  · exact adjE_one (.inr (by rw [any_wrong (l := b), h]; simp))
  · by_cases hl : a.length = b.length
    · exact adjE_one (.inl (by unfold adjShape; rw [hl, h]; simp))
    · exact adjE_one (.inl (by unfold adjShape; rw [decide_eq_false hl]; rfl))
end Go.Proofs.Ytajnoocjjkjfmaa
