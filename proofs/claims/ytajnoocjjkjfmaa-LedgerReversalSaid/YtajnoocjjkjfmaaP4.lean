/- Plain: what the parts of an amount are. -/
import Derived.Test.YtajnoocjjkjfmaaP1
import Derived.Test.YtajnoocjjkjfmaaM2
set_option linter.unusedVariables false
set_option linter.unusedSimpArgs false
namespace Go.Proofs.Ytajnoocjjkjfmaa
open Go.RowKit Go.Sort

def ind (a : Int) (l : List Int) (t : Int) (i : Nat) : Int := if (rki a l i : Int) < t then 1 else 0
theorem part_ind (a : Int) (l : List Int) (t : Int) (i : Nat) : part a l t i = flo a l i + ind a l t i := rfl
theorem sum_part (a : Int) (l : List Int) : ∀ t : Nat, t ≤ l.length → ((List.range l.length).map (part a l t)).sum = ((List.range l.length).map (flo a l)).sum + t
  | 0, _ => by
    rw [show ((List.range l.length).map (part a l ((0 : Nat) : Int))) = (List.range l.length).map (flo a l) by
      apply List.map_congr_left
      intro i _
      unfold part; rw [if_neg (by omega)]; omega]
    simp
  | t + 1, h => by
    obtain ⟨c, hc, hr⟩ := rk_ex (a := a) (l := l) (t := t) (by omega)
    obtain ⟨e1, e2⟩ := part_step (a := a) hc hr
    have ih := sum_part a l t (by omega)
    have h1 := sum_set ((List.range l.length).map (part a l t)) c (flo a l c + 1) (by simpa using hc)
    rw [getD_range _ _ _ hc, e1, ih] at h1
    rw [show (((t + 1 : Nat)) : Int) = (t : Int) + 1 by omega, ← e2, h1]
    omega
theorem sum_ind (a : Int) (l : List Int) (t : Nat) (ht : t ≤ l.length) : ((List.range l.length).map (ind a l t)).sum = t := by
  have h := sum_part a l t ht
  have h2 : ((List.range l.length).map (part a l t)) = (List.range l.length).map fun i => flo a l i + ind a l t i := List.map_congr_left fun i _ => part_ind a l t i
  rw [h2, sum_map_add] at h
  omega
theorem splitOk_true {a : Int} {l : List Int} (h : splitOk a l = true) : 0 ≤ a ∧ a ≤ 1000000000 ∧ l.length ≤ 100 ∧ (∀ x ∈ l, 0 ≤ x ∧ x ≤ 1000000) ∧ 0 < l.sum ∧ l.sum ≤ 100000000 := by
  unfold splitOk at h
  simp only [Bool.and_eq_true, decide_eq_true_eq] at h
  obtain ⟨⟨⟨h1, h2⟩, h3⟩, h4⟩ := h
  have h5 : ∀ x ∈ l, 0 ≤ x ∧ x ≤ 1000000 := fun x hx => inB_true (List.all_eq_true.1 h3 x hx)
  have h6 := inB_true h1
  have h7 : 0 ≤ l.sum ∧ l.sum ≤ 1000000 * (l.length : Int) := by
    clear h1 h2 h3 h4 h6
    induction l with
    | nil => simp
    | cons y l ih =>
      have := h5 y (by simp)
      have := ih (fun x hx => h5 x (by simp [hx]))
      simp only [List.sum_cons, List.length_cons]
      omega
  exact ⟨h6.1, h6.2, h2, h5, by omega, by omega⟩
theorem lft_nat {a : Int} {l : List Int} (hs : 0 < l.sum) : ∃ t : Nat, lft a l = t ∧ t ≤ l.length := by
  obtain ⟨h1, h2⟩ := lft_bd (a := a) hs
  obtain ⟨t, ht⟩ := Int.eq_ofNat_of_zero_le h1
  exact ⟨t, ht, by omega⟩
theorem split_sum {a : Int} {l : List Int} (h : splitOk a l = true) : (splitL a l).sum = a := by
  obtain ⟨_, _, _, _, hs, _⟩ := splitOk_true h
  obtain ⟨t, ht, hl⟩ := lft_nat (a := a) hs
  unfold splitL
  rw [if_pos h, ht, sum_part a l t hl, ← ht]
  unfold lft; omega
theorem split_len {a : Int} {l : List Int} (h : splitOk a l = true) : (splitL a l).length = l.length := by unfold splitL; rw [if_pos h]; simp
theorem split_at {a : Int} {l : List Int} (h : splitOk a l = true) {i : Nat} (hi : i < l.length) : (splitL a l)[i]? = some (part a l (lft a l) i) := by
  unfold splitL; rw [if_pos h]; exact at_range _ _ _ hi
theorem rmd_bd {a : Int} {l : List Int} (hs : 0 < l.sum) (i : Nat) : 0 ≤ rmd a l i ∧ rmd a l i < l.sum := ⟨Int.emod_nonneg _ (by omega), Int.emod_lt_of_pos _ hs⟩
theorem flo_rmd (a : Int) (l : List Int) (i : Nat) : flo a l i * l.sum = a * l.getD i 0 - rmd a l i := by
  unfold flo rmd
  have := Int.emod_add_mul_ediv (a * l.getD i 0) l.sum
  rw [Int.mul_comm]; omega
theorem sum_map_lt (f g : Nat → Int) (r : List Nat) (h : ∀ i ∈ r, f i ≤ g i) : (r.map f).sum ≤ (r.map g).sum := sum_map_le f g r h
/-- Who gets a further one has a remainder. -/
theorem rmd_pos {a : Int} {l : List Int} (hs : 0 < l.sum) {i : Nat} (hi : i < l.length) (h : (rki a l i : Int) < lft a l) : 0 < rmd a l i := by
  rcases (show 0 < rmd a l i ∨ rmd a l i ≤ 0 by omega) with h0 | h0
  · exact h0
  · exfalso
    have hr := rmd_bd (a := a) hs i
    have hr0 : rmd a l i = 0 := by omega
    have hlt : rki a l i < l.length := rk_lt (rems_mem (a := a) hi)
    have e1 : ((List.range l.length).map (rmd a l)).sum ≤ ((List.range l.length).map fun j => (l.sum - 1) * ind a l (rki a l i) j).sum := by
      refine sum_map_le _ _ _ fun j hj => ?_
      have hj' : j < l.length := by simpa using hj
      have hb := rmd_bd (a := a) hs j
      unfold ind
      by_cases hlt2 : rki a l j < rki a l i
      · rw [if_pos (by omega)]; omega
      · rw [if_neg (by omega)]
        rcases (show rmd a l i < rmd a l j ∨ rmd a l j ≤ rmd a l i by omega) with h3 | h3
        · have := rki_gt (a := a) hj' hi h3; omega
        · omega
    rw [sum_map_mul, sum_ind a l _ (by omega), ← lft_rems] at e1
    have h5 : (l.sum - 1) * (rki a l i : Int) ≤ l.sum * (rki a l i : Int) := Int.mul_le_mul_of_nonneg_right (by omega) (by omega)
    have h6 : l.sum * (rki a l i : Int) < l.sum * lft a l := Int.mul_lt_mul_of_pos_left h hs
    omega
/-- The parts differ from the exact shares by less than 1. -/
theorem part_exact {a : Int} {l : List Int} (hs : 0 < l.sum) {i : Nat} (hi : i < l.length) :
    part a l (lft a l) i * l.sum - a * l.getD i 0 < l.sum ∧ -l.sum < part a l (lft a l) i * l.sum - a * l.getD i 0 := by
  have h1 := flo_rmd a l i
  have h2 := rmd_bd (a := a) hs i
  rw [part_ind, Int.add_mul, h1]
  unfold ind
  by_cases h : (rki a l i : Int) < lft a l
  · have h3 := rmd_pos hs hi h
    rw [if_pos h]; omega
  · rw [if_neg h]; omega
theorem flo_nonneg {a : Int} {l : List Int} (h : splitOk a l = true) {i : Nat} (hi : i < l.length) : 0 ≤ flo a l i ∧ flo a l i ≤ 1000000000000000 := by
  obtain ⟨h1, h2, _, h4, h5, _⟩ := splitOk_true h
  have hx : l[i]? = some l[i] := List.getElem?_eq_getElem hi
  have hxb := h4 _ (List.mem_of_getElem? hx)
  unfold flo
  rw [getD_of hx]
  have h6 : 0 ≤ a * l[i] := Int.mul_nonneg h1 hxb.1
  have h7 : a * l[i] ≤ 1000000000 * 1000000 := Int.mul_le_mul h2 hxb.2 hxb.1 (by omega)
  have h8 := Int.ediv_nonneg h6 (show 0 ≤ l.sum by omega)
  have h9 := Int.ediv_le_self l.sum h6
  omega
theorem part_bd {a : Int} {l : List Int} (h : splitOk a l = true) {i : Nat} (hi : i < l.length) : 0 ≤ part a l (lft a l) i ∧ part a l (lft a l) i ≤ 1000000000000001 := by
  have h1 := flo_nonneg h hi
  rw [part_ind]; unfold ind; split <;> omega
theorem part_zero_share {a : Int} {l : List Int} (h : splitOk a l = true) {i : Nat} (hi : i < l.length) (h0 : l.getD i 0 = 0) : part a l (lft a l) i = 0 := by
  obtain ⟨_, _, _, _, hs, _⟩ := splitOk_true h
  have h1 : rmd a l i = 0 := by unfold rmd; rw [h0]; simp
  have h2 : flo a l i = 0 := by unfold flo; rw [h0]; simp
  rw [part_ind, h2]; unfold ind
  rw [if_neg (fun hh => by have := rmd_pos hs hi hh; omega)]; rfl
theorem part_greater {a : Int} {l : List Int} (h : splitOk a l = true) {i j : Nat} (hi : i < l.length) (hj : j < l.length) (hg : l.getD j 0 < l.getD i 0) : part a l (lft a l) j ≤ part a l (lft a l) i := by
  obtain ⟨h1, _, _, _, hs, _⟩ := splitOk_true h
  have e1 := flo_rmd a l i; have e2 := flo_rmd a l j
  have b1 := rmd_bd (a := a) hs i; have b2 := rmd_bd (a := a) hs j
  have hm : a * l.getD j 0 ≤ a * l.getD i 0 := Int.mul_le_mul_of_nonneg_left (by omega) h1
  have hf : flo a l j ≤ flo a l i := by unfold flo; exact Int.ediv_le_ediv hs hm
  rw [part_ind, part_ind]
  rcases (show flo a l j < flo a l i ∨ flo a l i ≤ flo a l j by omega) with h2 | h2
  · unfold ind; split <;> split <;> omega
  · have hfe : flo a l j = flo a l i := by omega
    rw [hfe]
    rw [hfe] at e2
    have hri : rki a l i ≤ rki a l j ∨ a = 0 := by
      rcases (show rmd a l j < rmd a l i ∨ rmd a l i ≤ rmd a l j by omega) with h3 | h3
      · exact .inl (Nat.le_of_lt (rki_gt hi hj h3))
      · right
        have hz : a * (l.getD i 0 - l.getD j 0) = 0 := by rw [Int.mul_sub]; omega
        rcases Int.mul_eq_zero.1 hz with h4 | h4
        · exact h4
        · omega
    rcases hri with h3 | h3
    · unfold ind; split <;> split <;> omega
    · have hz : ∀ k, k < l.length → ind a l (lft a l) k = 0 := fun k hk => by
        unfold ind
        rw [if_neg (fun hh => by
          have := rmd_pos hs hk hh
          have e : rmd a l k = 0 := by unfold rmd; rw [h3]; simp
          omega)]
      rw [hz i hi, hz j hj]; omega
theorem part_equal {a : Int} {l : List Int} {i j : Nat} (hi : i < l.length) (hj : j < l.length) (he : l.getD i 0 = l.getD j 0) (hij : i ≤ j) : part a l (lft a l) i = part a l (lft a l) j ∨ part a l (lft a l) i = part a l (lft a l) j + 1 := by
  have e1 : flo a l i = flo a l j := by unfold flo; rw [he]
  have e2 : rmd a l i = rmd a l j := by unfold rmd; rw [he]
  rw [part_ind, part_ind, e1]
  rcases Nat.lt_or_ge i j with h | h
  · have := rki_eq (a := a) hi hj e2 h
    unfold ind; split <;> split <;> omega
  · rw [show i = j by omega]; exact .inl rfl

/-- Shares that are multiplied. -/
theorem getD_mul (k : Int) (l : List Int) (i : Nat) : (l.map (k * ·)).getD i 0 = k * l.getD i 0 := by
  rw [List.getD_eq_getElem?_getD, List.getD_eq_getElem?_getD, List.getElem?_map]
  cases l[i]? <;> simp
theorem sum_mul (k : Int) (l : List Int) : (l.map (k * ·)).sum = k * l.sum := by
  induction l with
  | nil => simp
  | cons x l ih => simp only [List.map_cons, List.sum_cons, ih, Int.mul_add]
theorem flo_mul {a k : Int} (hk : 0 < k) (l : List Int) (i : Nat) : flo a (l.map (k * ·)) i = flo a l i := by
  unfold flo
  rw [getD_mul, sum_mul, show a * (k * l.getD i 0) = k * (a * l.getD i 0) by rw [Int.mul_left_comm], Int.mul_ediv_mul_of_pos _ _ hk]
theorem rmd_mul {a k : Int} (hk : 0 < k) (l : List Int) (i : Nat) : rmd a (l.map (k * ·)) i = k * rmd a l i := by
  unfold rmd
  rw [getD_mul, sum_mul, show a * (k * l.getD i 0) = k * (a * l.getD i 0) by rw [Int.mul_left_comm], Int.mul_emod_mul_of_pos _ _ hk]
theorem lft_mul {a k : Int} (hk : 0 < k) (l : List Int) : lft a (l.map (k * ·)) = lft a l := by
  unfold lft
  rw [List.length_map]
  congr 2
  exact List.map_congr_left fun i _ => flo_mul hk l i
theorem rki_mul {a k : Int} (hk : 0 < k) (l : List Int) (i : Nat) : rki a (l.map (k * ·)) i = rki a l i := by
  unfold rki rk rems
  rw [List.length_map, List.countP_map, List.countP_map]
  apply List.countP_congr
  intro j _
  simp only [Function.comp, rmd_mul hk]
  unfold ltR
  have e1 : k * rmd a l i < k * rmd a l j ↔ rmd a l i < rmd a l j := Int.mul_lt_mul_left hk
  have e2 : k * rmd a l j = k * rmd a l i ↔ rmd a l j = rmd a l i := Int.mul_eq_mul_left_iff (by omega)
  simp only [e1, e2]
theorem split_mul {a k : Int} (hk : 0 < k) (l : List Int) : (List.range (l.map (k * ·)).length).map (part a (l.map (k * ·)) (lft a (l.map (k * ·)))) = (List.range l.length).map (part a l (lft a l)) := by
  rw [List.length_map, lft_mul hk]
  apply List.map_congr_left
  intro i _
  rw [part_ind, part_ind, flo_mul hk]
  unfold ind
  rw [rki_mul hk]
theorem split_more {k : Int} {l : List Int} (hs : 0 < l.sum) : (List.range l.length).map (part (k * l.sum) l (lft (k * l.sum) l)) = l.map (k * ·) := by
  have hf : ∀ i, flo (k * l.sum) l i = k * l.getD i 0 := fun i => by
    unfold flo
    rw [show k * l.sum * l.getD i 0 = l.sum * (k * l.getD i 0) by rw [Int.mul_comm k, Int.mul_assoc], Int.mul_ediv_cancel_left _ (by omega)]
  have hl : lft (k * l.sum) l = 0 := by
    unfold lft
    have : (List.range l.length).map (flo (k * l.sum) l) = (List.range l.length).map fun i => k * l.getD i 0 := List.map_congr_left fun i _ => hf i
    rw [this, sum_map_mul k (fun i => l.getD i 0), getD_sum]; omega
  apply List.ext_getElem?
  intro i
  rcases Nat.lt_or_ge i l.length with h | h
  · rw [at_range _ _ _ h, List.getElem?_map, List.getElem?_eq_getElem h, part_ind, hf, hl]
    unfold ind
    rw [if_neg (by omega), getD_of (List.getElem?_eq_getElem h)]
    simp
  · rw [List.getElem?_eq_none (by simpa using h), List.getElem?_eq_none (by simpa using h)]
theorem splitOk_mul {a k : Int} (hk : 1 ≤ k) {l : List Int} (h : splitOk a l = true) : splitOk a (l.map (k * ·)) = l.all (fun x => decide (k * x ≤ 1000000)) := by
  obtain ⟨h1, h2, h3, h4, h5, h6⟩ := splitOk_true h
  unfold splitOk
  rw [inB_mk ⟨h1, h2⟩, List.length_map, decide_eq_true h3, sum_mul]
  have h7 : k * l.sum ≠ 0 := by
    have : 0 < k * l.sum := Int.mul_pos (by omega) h5
    omega
  rw [decide_eq_true h7, List.all_map]
  simp only [Bool.true_and, Bool.and_true]
  rw [Bool.eq_iff_iff, List.all_eq_true, List.all_eq_true]
  constructor
  · intro hx x hm
    have := inB_true (hx x hm)
    simpa using this.2
  · intro hx x hm
    have h8 := hx x hm
    simp only [decide_eq_true_eq] at h8
    refine inB_mk ⟨Int.mul_nonneg (by omega) (h4 x hm).1, h8⟩
end Go.Proofs.Ytajnoocjjkjfmaa
