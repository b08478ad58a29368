/- Plain: what the reference's Split chooses, and what the parts are. -/
import Derived.Test.YtajnoocjjkjfmaaM1
set_option linter.unusedVariables false
set_option linter.unusedSimpArgs false
namespace Go.Proofs.Ytajnoocjjkjfmaa
open Go.RowKit Go.Sort

theorem ltR_trans {x y z : Rem} (h : ltR x y = true) (k : ltR y z = true) : ltR x z = true := (ltR_iff _ _).2 (((ltR_iff _ _).1 h).trans ((ltR_iff _ _).1 k))
theorem ltR_asymm {x y : Rem} (h : ltR x y = true) : ltR y x = false := by
  cases e : ltR y x with
  | false => rfl
  | true => exact absurd ((ltR_iff _ _).1 e) (((ltR_iff _ _).1 h).asymm)
/-- A sorted list of all remainders. -/
theorem sortedM (a : Int) (l : List Int) : ∃ M, M.Perm (rems a l) ∧ Srt remKey remTag M := by
  refine ⟨(rems a l).mergeSort (fun x y => !ltR y x), List.mergeSort_perm _ _, ?_⟩
  have h1 : ((rems a l).mergeSort (fun x y => !ltR y x)).Pairwise (fun x y => (!ltR y x) = true) := by
    refine List.pairwise_mergeSort (fun x y z h k => ?_) (fun x y => ?_) _
    · unfold ltR at *; simp at *; omega
    · unfold ltR; simp; omega
  have h2 : ((rems a l).mergeSort (fun x y => !ltR y x)).Pairwise (fun x y : Rem => x.1 ≠ y.1) :=
    ((List.mergeSort_perm (rems a l) (fun x y => !ltR y x)).symm.pairwise ((rems_pair a l).imp (fun h => by omega)) (fun {x y} h => fun e => h e.symm))
  unfold Srt
  refine (h1.and h2).imp ?_
  rintro x y ⟨h3, h4⟩
  rw [← ltR_iff]
  unfold ltR at *
  simp at *
  omega
theorem rk_mono {a : Int} {l : List Int} {x y : Rem} (hx : x ∈ rems a l) (hy : y ∈ rems a l) (h : ltR x y = true) : rk (rems a l) x < rk (rems a l) y := by
  obtain ⟨M, hp, hs⟩ := sortedM a l
  obtain ⟨t, ht⟩ := List.getElem?_of_mem (hp.mem_iff.2 hx)
  obtain ⟨u, hu⟩ := List.getElem?_of_mem (hp.mem_iff.2 hy)
  rw [rk_at hp hs ht, rk_at hp hs hu]
  rcases Nat.lt_trichotomy t u with h1 | h1 | h1
  · exact h1
  · subst h1
    rw [ht] at hu; cases hu
    rw [ltR_irrefl] at h; cases h
  · exfalso
    have h2 := (List.pairwise_iff_getElem.1 hs) u t (List.getElem?_eq_some_iff.1 hu).1 (List.getElem?_eq_some_iff.1 ht).1 h1
    rw [(List.getElem?_eq_some_iff.1 hu).2, (List.getElem?_eq_some_iff.1 ht).2] at h2
    exact h2.asymm ((ltR_iff _ _).1 h)
theorem rk_lt {a : Int} {l : List Int} {x : Rem} (hx : x ∈ rems a l) : rk (rems a l) x < l.length := by
  obtain ⟨M, hp, hs⟩ := sortedM a l
  obtain ⟨t, ht⟩ := List.getElem?_of_mem (hp.mem_iff.2 hx)
  rw [rk_at hp hs ht]
  have := (List.getElem?_eq_some_iff.1 ht).1
  have h2 := hp.length_eq
  rw [rems_len] at h2
  omega
theorem rk_ex {a : Int} {l : List Int} {t : Nat} (ht : t < l.length) : ∃ i, i < l.length ∧ rk (rems a l) (i, rmd a l i) = t := by
  obtain ⟨M, hp, hs⟩ := sortedM a l
  have h2 := hp.length_eq
  rw [rems_len] at h2
  have hx : M[t]? = some (M[t]'(by omega)) := List.getElem?_eq_getElem (by omega)
  have hm := hp.mem_iff.1 (List.mem_of_getElem? hx)
  obtain ⟨i, hi, he⟩ := List.mem_map.1 hm
  exact ⟨i, by simpa using hi, by rw [he]; exact rk_at hp hs hx⟩
/-- The rank of a share's remainder. -/
def rki (a : Int) (l : List Int) (i : Nat) : Nat := rk (rems a l) (i, rmd a l i)
theorem rki_inj {a : Int} {l : List Int} {i j : Nat} (hi : i < l.length) (hj : j < l.length) (h : rki a l i = rki a l j) : i = j := by
  obtain ⟨M, hp, hs⟩ := sortedM a l
  have := rk_inj hp hs (rems_mem (a := a) hi) (rems_mem (a := a) hj) h
  injection this
theorem rki_gt {a : Int} {l : List Int} {i j : Nat} (hi : i < l.length) (hj : j < l.length) (h : rmd a l j < rmd a l i) : rki a l i < rki a l j :=
  rk_mono (rems_mem hi) (rems_mem hj) (by unfold ltR; simp; omega)
theorem rki_eq {a : Int} {l : List Int} {i j : Nat} (hi : i < l.length) (hj : j < l.length) (h : rmd a l i = rmd a l j) (hij : i < j) : rki a l i < rki a l j :=
  rk_mono (rems_mem hi) (rems_mem hj) (by unfold ltR; simp; omega)

/-- The best share so far that has no further one yet: -1 if there is none. -/
def bestS (a : Int) (l : List Int) (t : Nat) : Nat → Int
  | 0 => -1
  | i + 1 => if t ≤ rki a l i ∧ (bestS a l t i < 0 ∨ rmd a l (bestS a l t i).toNat < rmd a l i) then (i : Int) else bestS a l t i
theorem bestS_is (a : Int) (l : List Int) (t : Nat) : ∀ i, i ≤ l.length → (bestS a l t i = -1 ∧ ∀ j, j < i → rki a l j < t) ∨ ∃ c : Nat, bestS a l t i = c ∧ c < i ∧ t ≤ rki a l c ∧ ∀ j, j < i → t ≤ rki a l j → rki a l c ≤ rki a l j
  | 0, _ => .inl ⟨rfl, fun j h => by omega⟩
  | i + 1, hi => by
    have ih := bestS_is a l t i (by omega)
    unfold bestS
    by_cases hg : t ≤ rki a l i
    · rcases ih with ⟨h1, h2⟩ | ⟨c, h1, h2, h3, h4⟩
      · rw [if_pos ⟨hg, .inl (by omega)⟩]
        refine .inr ⟨i, rfl, by omega, hg, fun j hj ht => ?_⟩
        rcases Nat.lt_or_ge j i with h | h
        · have := h2 j h; omega
        · rw [show j = i by omega]; exact Nat.le_refl _
      · rw [h1]
        by_cases hr : rmd a l c < rmd a l i
        · rw [if_pos ⟨hg, .inr (by simpa using hr)⟩]
          refine .inr ⟨i, rfl, by omega, hg, fun j hj ht => ?_⟩
          rcases Nat.lt_or_ge j i with h | h
          · have := h4 j h ht
            have := rki_gt (a := a) (l := l) (i := i) (j := c) (by omega) (by omega) hr
            omega
          · rw [show j = i by omega]; exact Nat.le_refl _
        · rw [if_neg (by simp; intro _; omega)]
          refine .inr ⟨c, rfl, by omega, h3, fun j hj ht => ?_⟩
          rcases Nat.lt_or_ge j i with h | h
          · exact h4 j h ht
          · rw [show j = i by omega]
            by_cases he : rmd a l c = rmd a l i
            · exact Nat.le_of_lt (rki_eq (by omega) (by omega) he (by omega))
            · exact Nat.le_of_lt (rki_gt (by omega) (by omega) (by omega))
    · rw [if_neg (fun h => hg h.1)]
      rcases ih with ⟨h1, h2⟩ | ⟨c, h1, h2, h3, h4⟩
      · refine .inl ⟨h1, fun j hj => ?_⟩
        rcases Nat.lt_or_ge j i with h | h
        · exact h2 j h
        · rw [show j = i by omega]; omega
      · refine .inr ⟨c, h1, by omega, h3, fun j hj ht => ?_⟩
        rcases Nat.lt_or_ge j i with h | h
        · exact h4 j h ht
        · rw [show j = i by omega] at ht; omega
theorem bestS_end {a : Int} {l : List Int} {t : Nat} (ht : t < l.length) : ∃ c : Nat, bestS a l t l.length = c ∧ c < l.length ∧ rki a l c = t := by
  obtain ⟨i, hi, he⟩ := rk_ex (a := a) ht
  rcases bestS_is a l t l.length (Nat.le_refl _) with ⟨_, h2⟩ | ⟨c, h1, h2, h3, h4⟩
  · have := h2 i hi; unfold rki at this; omega
  · refine ⟨c, h1, h2, ?_⟩
    have := h4 i hi (by unfold rki; omega)
    unfold rki at *
    omega
theorem part_step {a : Int} {l : List Int} {t c : Nat} (hc : c < l.length) (hr : rki a l c = t) :
    part a l t c = flo a l c ∧ ((List.range l.length).map (part a l t)).set c (flo a l c + 1) = (List.range l.length).map (part a l ((t : Int) + 1)) := by
  unfold rki at hr
  constructor
  · unfold part; rw [hr, if_neg (by omega)]; omega
  · refine set_range _ _ _ _ _ fun j hj => ?_
    unfold part
    by_cases hij : c = j
    · subst hij
      rw [hr, if_pos rfl, if_pos (by omega)]
    · rw [if_neg hij]
      have hne : rk (rems a l) (j, rmd a l j) ≠ t := fun he => hij (rki_inj hc hj (by unfold rki; rw [hr, he]))
      by_cases hlt : rk (rems a l) (j, rmd a l j) < t
      · rw [if_pos (by omega), if_pos (by omega)]
      · rw [if_neg (by omega), if_neg (by omega)]
/-- What has a further one. -/
def givenL (a : Int) (l : List Int) (t : Nat) : List Bool := (List.range l.length).map fun i => decide (rki a l i < t)
theorem given_set {a : Int} {l : List Int} {t c : Nat} (hc : c < l.length) (hr : rki a l c = t) : (givenL a l t).set c true = givenL a l (t + 1) := by
  unfold givenL
  apply List.ext_getElem?
  intro i
  rw [List.getElem?_set]
  rcases Nat.lt_or_ge i l.length with hi | hi
  · simp only [List.length_map, List.length_range, List.getElem?_map, List.getElem?_range hi, Option.map_some]
    by_cases e : c = i
    · subst e; rw [if_pos rfl, if_pos hc]; simp; omega
    · rw [if_neg e]
      have : rki a l i ≠ t := fun h => e (rki_inj hc hi (by rw [hr, h]))
      congr 1
      exact decide_eq_decide.2 (by omega)
  · rw [List.getElem?_eq_none (by simpa using hi), List.getElem?_eq_none (by simpa using hi)]
    split
    · rename_i e; subst e; omega
    · rfl
end Go.Proofs.Ytajnoocjjkjfmaa
