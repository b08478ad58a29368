/- Plain: settling differences. -/
import Derived.Test.YtajnoocjjkjfmaaC5
set_option linter.unusedVariables false
set_option linter.unusedSimpArgs false
namespace Go.Proofs.Ytajnoocjjkjfmaa
open Go.RowKit

def nz : List Int → Nat
  | [] => 0
  | a :: l => (if a = 0 then 0 else 1) + nz l
theorem sum_set (l : List Int) (i : Nat) (v : Int) (h : i < l.length) : (l.set i v).sum = l.sum - l.getD i 0 + v := by
  induction l generalizing i with
  | nil => simp at h
  | cons a l ih =>
    cases i with
    | zero => simp; omega
    | succ i => simp at h; simp [ih i h]; omega
theorem getD_set (l : List Int) (i j : Nat) (v : Int) (h : i < l.length) : (l.set i v).getD j 0 = if i = j then v else l.getD j 0 := by
  simp only [List.getD_eq_getElem?_getD, List.getElem?_set]
  split
  · rename_i e; subst e; simp [h]
  · rfl
theorem nz_set_zero (l : List Int) (i : Nat) (h : l.getD i 0 ≠ 0) : nz (l.set i 0) + 1 = nz l := by
  induction l generalizing i with
  | nil => simp at h
  | cons a l ih =>
    cases i with
    | zero => simp at h; simp [nz, h]; omega
    | succ i =>
      have := ih i (by simpa using h)
      simp only [nz, List.set_cons_succ]
      omega
theorem nz_set_ne (l : List Int) (i : Nat) (v : Int) (h : l.getD i 0 ≠ 0) (hv : v ≠ 0) : nz (l.set i v) = nz l := by
  induction l generalizing i with
  | nil => simp at h
  | cons a l ih =>
    cases i with
    | zero => simp at h; simp [nz, h, hv]
    | succ i =>
      have := ih i (by simpa using h)
      simp only [nz, List.set_cons_succ]
      omega
theorem nz_set_le (l : List Int) (i : Nat) (v : Int) (h : l.getD i 0 ≠ 0) : nz (l.set i v) ≤ nz l := by
  by_cases hv : v = 0
  · subst hv; have := nz_set_zero l i h; omega
  · rw [nz_set_ne l i v h hv]; exact Nat.le_refl _
theorem nz_le (l : List Int) : nz l ≤ l.length := by
  induction l with
  | nil => simp [nz]
  | cons x l ih => unfold nz; rw [List.length_cons]; split <;> omega

def negI (d : List Int) : Nat := d.findIdx (fun x => decide (x < 0))
def posI (d : List Int) : Nat := d.findIdx (fun x => decide (0 < x))
def amt (d : List Int) : Int := min (-(d.getD (negI d) 0)) (d.getD (posI d) 0)
def nxt (d : List Int) : List Int := (d.set (negI d) (d.getD (negI d) 0 + amt d)).set (posI d) (d.getD (posI d) 0 - amt d)
def halt (d : List Int) : Bool := decide (negI d = d.length) || decide (posI d = d.length)
def nextE (ref : ByteArray) (d : List Int) : Ent := ⟨(negI d : Int), (posI d : Int), amt d, ref⟩
def settle (ref : ByteArray) : Nat → List Int → List Ent
  | 0, _ => []
  | k + 1, d => if halt d = true then [] else nextE ref d :: settle ref k (nxt d)
def settleL (ref : ByteArray) (d : List Int) : List Ent := settle ref (nz d) d

theorem negI_le (d : List Int) : negI d ≤ d.length := List.findIdx_le_length
theorem posI_le (d : List Int) : posI d ≤ d.length := List.findIdx_le_length
theorem negI_before (d : List Int) {t : Nat} (h : t < negI d) : 0 ≤ d.getD t 0 := by
  have h1 := List.not_of_lt_findIdx h
  have hl := negI_le d
  rw [List.getD_eq_getElem?_getD, List.getElem?_eq_getElem (by omega)]
  simp at h1
  simpa using h1
theorem posI_before (d : List Int) {t : Nat} (h : t < posI d) : d.getD t 0 ≤ 0 := by
  have h1 := List.not_of_lt_findIdx h
  have hl := posI_le d
  rw [List.getD_eq_getElem?_getD, List.getElem?_eq_getElem (by omega)]
  simp at h1
  simpa using h1
theorem negI_at (d : List Int) (h : negI d < d.length) : d.getD (negI d) 0 < 0 := by
  have h1 := List.findIdx_getElem (w := h)
  rw [List.getD_eq_getElem?_getD, List.getElem?_eq_getElem h]
  simp only [decide_eq_true_eq] at h1
  exact h1
theorem posI_at (d : List Int) (h : posI d < d.length) : 0 < d.getD (posI d) 0 := by
  have h1 := List.findIdx_getElem (w := h)
  rw [List.getD_eq_getElem?_getD, List.getElem?_eq_getElem h]
  simp only [decide_eq_true_eq] at h1
  exact h1
theorem negI_ge {d : List Int} {i : Nat} (hi : i ≤ d.length) (h : ∀ t, t < i → 0 ≤ d.getD t 0) : i ≤ negI d := by
  rcases Nat.lt_or_ge (negI d) i with h1 | h1
  · have := negI_at d (by omega); have := h _ h1; omega
  · exact h1
theorem posI_ge {d : List Int} {i : Nat} (hi : i ≤ d.length) (h : ∀ t, t < i → d.getD t 0 ≤ 0) : i ≤ posI d := by
  rcases Nat.lt_or_ge (posI d) i with h1 | h1
  · have := posI_at d (by omega); have := h _ h1; omega
  · exact h1
theorem halt_false {d : List Int} (h : halt d = false) : negI d < d.length ∧ posI d < d.length ∧ negI d ≠ posI d ∧ 0 < amt d := by
  unfold halt at h
  simp at h
  have h1 := negI_le d; have h2 := posI_le d
  have h3 := negI_at d (by omega); have h4 := posI_at d (by omega)
  refine ⟨by omega, by omega, fun e => by rw [e] at h3; omega, by unfold amt; omega⟩
theorem nxt_len (d : List Int) : (nxt d).length = d.length := by simp [nxt]
theorem nxt_getD {d : List Int} (h : halt d = false) (t : Nat) : (nxt d).getD t 0 = if t = posI d then d.getD (posI d) 0 - amt d else if t = negI d then d.getD (negI d) 0 + amt d else d.getD t 0 := by
  obtain ⟨h1, h2, h3, h4⟩ := halt_false h
  unfold nxt
  rw [getD_set _ _ _ _ (by simpa using h2)]
  by_cases e : posI d = t
  · rw [if_pos e, if_pos e.symm]
  · rw [if_neg e, if_neg (fun h => e h.symm), getD_set _ _ _ _ h1]
    by_cases e2 : negI d = t
    · rw [if_pos e2, if_pos e2.symm]
    · rw [if_neg e2, if_neg (fun h => e2 h.symm)]
theorem nxt_neg {d : List Int} (h : halt d = false) : negI d ≤ negI (nxt d) := by
  obtain ⟨h1, h2, h3, h4⟩ := halt_false h
  refine negI_ge (by rw [nxt_len]; omega) fun t ht => ?_
  rw [nxt_getD h]
  have h5 := negI_before d ht
  have h6 := posI_at d h2
  split
  · unfold amt; omega
  · split
    · omega
    · exact h5
theorem nxt_pos {d : List Int} (h : halt d = false) : posI d ≤ posI (nxt d) := by
  obtain ⟨h1, h2, h3, h4⟩ := halt_false h
  refine posI_ge (by rw [nxt_len]; omega) fun t ht => ?_
  rw [nxt_getD h]
  have h5 := posI_before d ht
  have h6 := negI_at d h1
  split
  · omega
  · split
    · unfold amt; omega
    · exact h5
theorem nxt_nz {d : List Int} (h : halt d = false) : nz (nxt d) < nz d := by
  obtain ⟨h1, h2, h3, h4⟩ := halt_false h
  have h5 := negI_at d h1; have h6 := posI_at d h2
  have e1 : (d.set (negI d) (d.getD (negI d) 0 + amt d)).getD (posI d) 0 = d.getD (posI d) 0 := by rw [getD_set _ _ _ _ h1, if_neg h3]
  have h7 := nz_set_le d (negI d) (d.getD (negI d) 0 + amt d) (by omega)
  have h8 := nz_set_le (d.set (negI d) (d.getD (negI d) 0 + amt d)) (posI d) (d.getD (posI d) 0 - amt d) (by rw [e1]; omega)
  unfold nxt
  by_cases hm : -(d.getD (negI d) 0) ≤ d.getD (posI d) 0
  · have e : d.getD (negI d) 0 + amt d = 0 := by unfold amt; omega
    have h9 := nz_set_zero d (negI d) (by omega)
    rw [e] at h8 ⊢
    omega
  · have e : d.getD (posI d) 0 - amt d = 0 := by unfold amt; omega
    have h9 := nz_set_zero (d.set (negI d) (d.getD (negI d) 0 + amt d)) (posI d) (by rw [e1]; omega)
    rw [e]
    omega
theorem settle_fuel (ref : ByteArray) : ∀ (k k' : Nat) (d : List Int), nz d ≤ k → nz d ≤ k' → settle ref k d = settle ref k' d
  | 0, 0, d, _, _ => rfl
  | 0, k' + 1, d, h, _ => by
    cases hh : halt d with
    | true => simp [settle, hh]
    | false => have := nxt_nz hh; omega
  | k + 1, 0, d, _, h => by
    cases hh : halt d with
    | true => simp [settle, hh]
    | false => have := nxt_nz hh; omega
  | k + 1, k' + 1, d, h, h' => by
    cases hh : halt d with
    | true => simp [settle, hh]
    | false =>
      have := nxt_nz hh
      simp only [settle, hh]
      rw [settle_fuel ref k k' (nxt d) (by omega) (by omega)]
theorem settleL_halt {ref : ByteArray} {d : List Int} (h : halt d = true) : settleL ref d = [] := by
  unfold settleL
  cases nz d with
  | zero => rfl
  | succ k => simp [settle, h]
theorem settleL_step {ref : ByteArray} {d : List Int} (h : halt d = false) : settleL ref d = nextE ref d :: settleL ref (nxt d) := by
  have h1 := nxt_nz h
  unfold settleL
  obtain ⟨k, hk⟩ : ∃ k, nz d = k + 1 := ⟨nz d - 1, by omega⟩
  rw [hk]
  simp only [settle, h]
  rw [settle_fuel ref k (nz (nxt d)) (nxt d) (by omega) (Nat.le_refl _)]
  rfl
theorem bd_nxt {M : Int} {d : List Int} (h : halt d = false) (hb : ∀ t, -M ≤ d.getD t 0 ∧ d.getD t 0 ≤ M) : ∀ t, -M ≤ (nxt d).getD t 0 ∧ (nxt d).getD t 0 ≤ M := fun t => by
  obtain ⟨h1, h2, h3, h4⟩ := halt_false h
  have h5 := negI_at d h1; have h6 := posI_at d h2
  have b1 := hb (negI d); have b2 := hb (posI d); have b3 := hb t
  rw [nxt_getD h]
  split
  · unfold amt; omega
  · split
    · unfold amt; omega
    · exact b3
end Go.Proofs.Ytajnoocjjkjfmaa
