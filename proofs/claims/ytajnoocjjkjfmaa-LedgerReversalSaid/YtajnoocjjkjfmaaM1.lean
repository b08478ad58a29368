/- Plain: what Split computes. -/
import Derived.Test.YtajnoocjjkjfmaaC2
set_option linter.unusedVariables false
set_option linter.unusedSimpArgs false
namespace Go.Proofs.Ytajnoocjjkjfmaa
open Go.RowKit Go.Sort

def flo (a : Int) (l : List Int) (i : Nat) : Int := a * l.getD i 0 / l.sum
def rmd (a : Int) (l : List Int) (i : Nat) : Int := a * l.getD i 0 % l.sum
def rems (a : Int) (l : List Int) : List Rem := (List.range l.length).map fun i => (i, rmd a l i)
def ltR (x y : Rem) : Bool := decide (y.2 < x.2) || (decide (x.2 = y.2) && decide (x.1 < y.1))
theorem ltR_iff (x y : Rem) : ltR x y = true ↔ LtT remKey remTag x y := by
  unfold ltR LtT remKey remTag
  simp
def rk (l : List Rem) (x : Rem) : Nat := l.countP (fun y => ltR y x)
def lft (a : Int) (l : List Int) : Int := a - ((List.range l.length).map (flo a l)).sum
def part (a : Int) (l : List Int) (t : Int) (i : Nat) : Int := flo a l i + if (rk (rems a l) (i, rmd a l i) : Int) < t then 1 else 0
def splitOk (a : Int) (l : List Int) : Bool := inB a 0 1000000000 && decide (l.length ≤ 100) && l.all (fun s => inB s 0 1000000) && decide (l.sum ≠ 0)
def splitL (a : Int) (l : List Int) : List Int := if splitOk a l = true then (List.range l.length).map (part a l (lft a l)) else []
def splitE (a : Int) (l : List Int) : Int := if splitOk a l = true then 0 else 1

theorem ltR_irrefl (x : Rem) : ltR x x = false := by unfold ltR; simp
theorem countP_sorted {M : List Rem} (h : Srt remKey remTag M) : ∀ t x, M[t]? = some x → M.countP (fun y => ltR y x) = t := by
  intro t x hx
  have hl := (List.getElem?_eq_some_iff.1 hx).1
  have e : M = M.take t ++ x :: M.drop (t + 1) := by
    have := List.getElem?_eq_some_iff.1 hx
    obtain ⟨h1, h2⟩ := this
    rw [← h2, ← List.drop_eq_getElem_cons h1, List.take_append_drop]
  unfold Srt at h
  rw [e, List.pairwise_append, List.pairwise_cons] at h
  conv => lhs; rw [e]
  rw [List.countP_append, List.countP_cons]
  have h1 : (M.take t).countP (fun y => ltR y x) = (M.take t).length := List.countP_eq_length.2 (fun y hy => (ltR_iff y x).2 (h.2.2 y hy x (by simp)))
  have h2 : (M.drop (t + 1)).countP (fun y => ltR y x) = 0 := List.countP_eq_zero.2 (fun y hy hc => (h.2.1.1 y hy).asymm ((ltR_iff y x).1 hc))
  rw [h1, h2, ltR_irrefl, List.length_take]
  simp
  omega
theorem rk_at {M L : List Rem} (hp : M.Perm L) (h : Srt remKey remTag M) {t : Nat} {x : Rem} (hx : M[t]? = some x) : rk L x = t := by
  unfold rk
  rw [← hp.countP_eq]
  exact countP_sorted h t x hx
theorem rk_inj {M L : List Rem} (hp : M.Perm L) (h : Srt remKey remTag M) {x y : Rem} (hx : x ∈ L) (hy : y ∈ L) (he : rk L x = rk L y) : x = y := by
  obtain ⟨t, ht⟩ := List.getElem?_of_mem (hp.mem_iff.2 hx)
  obtain ⟨u, hu⟩ := List.getElem?_of_mem (hp.mem_iff.2 hy)
  rw [rk_at hp h ht, rk_at hp h hu] at he
  subst he
  rw [ht] at hu
  injection hu
theorem rems_mem {a : Int} {l : List Int} {i : Nat} (hi : i < l.length) : (i, rmd a l i) ∈ rems a l := List.mem_map.2 ⟨i, by simpa using hi, rfl⟩
theorem rems_pair (a : Int) (l : List Int) : (rems a l).Pairwise (fun x y => x.1 < y.1) := by
  unfold rems
  rw [List.pairwise_map]
  exact List.pairwise_lt_range
theorem rems_len (a : Int) (l : List Int) : (rems a l).length = l.length := by simp [rems]
/-- One more part, of the t-th greatest remainder. -/
theorem part_set {a : Int} {l : List Int} {M : List Rem} (hp : M.Perm (rems a l)) (h : Srt remKey remTag M) {t : Nat} {x : Rem} (hx : M[t]? = some x) :
    x.1 < l.length ∧ part a l t x.1 = flo a l x.1 ∧ ((List.range l.length).map (part a l t)).set x.1 (flo a l x.1 + 1) = (List.range l.length).map (part a l ((t : Int) + 1)) := by
  have hm : x ∈ rems a l := hp.mem_iff.1 (List.mem_of_getElem? hx)
  obtain ⟨i, hi, rfl⟩ := List.mem_map.1 hm
  have hi' : i < l.length := by simpa using hi
  have hr := rk_at hp h hx
  refine ⟨hi', ?_, ?_⟩
  · unfold part
    simp only [hr]
    rw [if_neg (by omega)]; omega
  · refine set_range _ _ _ _ _ fun j hj => ?_
    unfold part
    by_cases hij : i = j
    · subst hij
      rw [hr, if_pos rfl, if_pos (by omega)]
    · rw [if_neg hij]
      have hne : rk (rems a l) (j, rmd a l j) ≠ t := fun he => by
        have := rk_inj hp h (rems_mem hj) (rems_mem hi') (by rw [he, hr])
        injection this with h1 _
        exact hij h1.symm
      by_cases hlt : rk (rems a l) (j, rmd a l j) < t
      · rw [if_pos (by omega), if_pos (by omega)]
      · rw [if_neg (by omega), if_neg (by omega)]

theorem getD_sum (l : List Int) : ((List.range l.length).map fun i => l.getD i 0).sum = l.sum := by
  congr 1
  apply List.ext_getElem?
  intro i
  rw [List.getElem?_map]
  rcases Nat.lt_or_ge i l.length with h | h
  · rw [List.getElem?_range h, List.getElem?_eq_getElem h]; simp [h]
  · rw [List.getElem?_eq_none (by simpa using h), List.getElem?_eq_none h]; rfl
theorem sum_map_mul (c : Int) (f : Nat → Int) (r : List Nat) : (r.map fun i => c * f i).sum = c * (r.map f).sum := by
  induction r with
  | nil => simp
  | cons x r ih => simp only [List.map_cons, List.sum_cons, ih, Int.mul_add]
theorem sum_map_add (f g : Nat → Int) (r : List Nat) : (r.map fun i => f i + g i).sum = (r.map f).sum + (r.map g).sum := by
  induction r with
  | nil => simp
  | cons x r ih => simp only [List.map_cons, List.sum_cons, ih]; omega
theorem sum_map_le (f g : Nat → Int) (r : List Nat) (h : ∀ i ∈ r, f i ≤ g i) : (r.map f).sum ≤ (r.map g).sum := by
  induction r with
  | nil => simp
  | cons x r ih =>
    simp only [List.map_cons, List.sum_cons]
    have h1 := h x (by simp)
    have h2 := ih (fun i hi => h i (by simp [hi]))
    omega
theorem sum_const (c : Int) (r : List Nat) : (r.map fun _ => c).sum = c * (r.length : Int) := by
  induction r with
  | nil => simp
  | cons x r ih => simp only [List.map_cons, List.sum_cons, ih, List.length_cons, Int.natCast_add, Int.mul_add]; simp; omega
theorem lft_rems (a : Int) (l : List Int) : l.sum * lft a l = ((List.range l.length).map (rmd a l)).sum := by
  have h1 : ((List.range l.length).map fun i => a * l.getD i 0).sum = a * l.sum := by rw [sum_map_mul a (fun i => l.getD i 0), getD_sum]
  have h2 : ((List.range l.length).map fun i => a * l.getD i 0) = (List.range l.length).map fun i => l.sum * flo a l i + rmd a l i := by
    apply List.map_congr_left
    intro i _
    unfold flo rmd
    have := Int.emod_add_mul_ediv (a * l.getD i 0) l.sum
    omega
  rw [h2, sum_map_add, sum_map_mul] at h1
  unfold lft
  rw [Int.mul_sub, Int.mul_comm l.sum a]
  omega
theorem lft_bd {a : Int} {l : List Int} (hs : 0 < l.sum) : 0 ≤ lft a l ∧ (lft a l ≤ l.length) := by
  have h := lft_rems a l
  have h0 : 0 ≤ ((List.range l.length).map (rmd a l)).sum := by
    have := sum_map_le (fun _ => 0) (rmd a l) (List.range l.length) (fun i _ => Int.emod_nonneg _ (by omega))
    rw [sum_const] at this; simpa using this
  have h1 : ((List.range l.length).map (rmd a l)).sum ≤ l.sum * (l.length : Int) := by
    have := sum_map_le (rmd a l) (fun _ => l.sum) (List.range l.length) (fun i _ => Int.le_of_lt (Int.emod_lt_of_pos _ hs))
    rw [sum_const] at this; simpa using this
  rw [← h] at h0 h1
  constructor
  · exact Int.nonneg_of_mul_nonneg_right h0 hs
  · exact Int.le_of_mul_le_mul_left h1 hs
end Go.Proofs.Ytajnoocjjkjfmaa
