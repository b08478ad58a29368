/- Plain: what Adjust's entries are. -/
import Derived.Test.YtajnoocjjkjfmaaP5
import Derived.Test.YtajnoocjjkjfmaaD2
set_option linter.unusedVariables false
set_option linter.unusedSimpArgs false
namespace Go.Proofs.Ytajnoocjjkjfmaa
open Go.RowKit

theorem adjL_no {a b : List Int} {ref : ByteArray} (h : adjE a b ref ≠ 0) : adjL a b ref = [] := if_neg h
theorem adjL_yes {a b : List Int} {ref : ByteArray} (h : adjE a b ref = 0) : adjL a b ref = settleL ref (diffL a b) := if_pos h
theorem diff_getD {a b : List Int} (h : a.length = b.length) (i : Nat) : (diffL a b).getD i 0 = b.getD i 0 - a.getD i 0 := by
  rcases Nat.lt_or_ge i a.length with hi | hi
  · have h1 : a[i]? = some a[i] := List.getElem?_eq_getElem hi
    have h2 : b[i]? = some (b[i]'(by omega)) := List.getElem?_eq_getElem (by omega)
    rw [getD_of (diff_at h1 h2), getD_of h1, getD_of h2]
  · rw [getD_len (by rw [diff_len h]; exact hi), getD_len (by omega), getD_len (by omega)]; rfl
theorem diff_bd2 {a b : List Int} (ha : a.any wrongA = false) (hb : b.any wrongA = false) : ∀ t, -2000000000 ≤ (diffL a b).getD t 0 ∧ (diffL a b).getD t 0 ≤ 2000000000 := fun t => by
  rcases Nat.lt_or_ge t (diffL a b).length with h | h
  · rw [List.getD_eq_getElem?_getD, List.getElem?_eq_getElem h]
    exact diff_bd a b (by rw [any_wrong] at ha; simpa using ha) (by rw [any_wrong] at hb; simpa using hb) _ (List.getElem_mem h)
  · rw [getD_len h]; omega
theorem wrong_bd {a : List Int} (ha : a.any wrongA = false) : ∀ x ∈ a, -1000000000 ≤ x ∧ x ≤ 1000000000 := fun x hx => by
  rw [any_wrong] at ha
  exact inB_true (List.all_eq_true.1 (by simpa using ha) x hx)
/-- The entries of Adjust. -/
theorem adj_props {a b : List Int} {ref : ByteArray} (h : adjE a b ref = 0) : (∀ e ∈ adjL a b ref, validE a.length e = true ∧ b.getD e.fr.toNat 0 < a.getD e.fr.toNat 0 ∧ a.getD e.to_.toNat 0 < b.getD e.to_.toNat 0 ∧ e.ref = ref) ∧
    (∀ i : Nat, netF (adjL a b ref) i = b.getD i 0 - a.getD i 0) ∧ (adjL a b ref).length + 1 ≤ a.length ∧ ((adjL a b ref).map Ent.am).sum = ((diffL a b).map fun x => max x 0).sum := by
  obtain ⟨h1, h2, h3, h4, h5, h6, h7, h8⟩ := adjE_zero h
  rw [adjL_yes h]
  obtain ⟨i1, i2, i3, i4⟩ := settle_props ref 2000000000 _ (diffL a b) (Nat.le_refl _) h7 (diff_bd2 h5 h6)
  refine ⟨fun e he => ?_, fun i => by rw [i2, diff_getD h1], ?_, i4⟩
  · obtain ⟨j1, j2, j3, j4, j5, j6, j7, j8, j9, j10⟩ := i1 e he
    rw [diff_len h1] at j2 j4
    rw [diff_getD h1] at j8 j9
    have ham : e.am ≤ 1000000000 := by
      have := List.any_eq_false.1 h8 e he
      simp at this; exact this
    refine ⟨?_, by omega, by omega, j10⟩
    unfold validE
    rw [inB_mk (x := (a.length : Int)) ⟨by omega, by omega⟩, inB_mk (x := e.fr) ⟨j1, by omega⟩, inB_mk (x := e.to_) ⟨j3, by omega⟩, inB_mk (x := e.am) ⟨by omega, ham⟩, j10, decide_eq_true h4]
    simpa using j5
  · have h9 := nz_le (diffL a b)
    rw [diff_len h1] at h9
    rcases i3 with h | h <;> omega
theorem range_getD (l : List Int) : (List.range l.length).map (fun i => l.getD i 0) = l := by
  apply List.ext_getElem?
  intro i
  rcases Nat.lt_or_ge i l.length with h | h
  · rw [at_range _ _ _ h, List.getElem?_eq_getElem h, getD_of (List.getElem?_eq_getElem h)]
  · rw [List.getElem?_eq_none (by simpa using h), List.getElem?_eq_none h]
/-- The balances after some entries. -/
def afterL (a : List Int) (l : List Ent) : List Int := (List.range a.length).map fun (i : Nat) => (fun (j : Int) => a.getD j.toNat 0 + netF l j) (i : Int)
theorem afterL_nil (a : List Int) : afterL a [] = a := by
  unfold afterL
  have : (List.range a.length).map (fun (i : Nat) => (fun (j : Int) => a.getD j.toNat 0 + netF [] j) (i : Int)) = (List.range a.length).map fun i => a.getD i 0 := List.map_congr_left fun i _ => by simp [netF]
  rw [this, range_getD]
theorem afterL_all {a b : List Int} {ref : ByteArray} (h : adjE a b ref = 0) : afterL a (adjL a b ref) = b := by
  have h1 := (adjE_zero h).1
  have h2 := (adj_props h).2.1
  unfold afterL
  have : (List.range a.length).map (fun (i : Nat) => (fun (j : Int) => a.getD j.toNat 0 + netF (adjL a b ref) j) (i : Int)) = (List.range b.length).map fun i => b.getD i 0 := by
    rw [h1]
    exact List.map_congr_left fun i _ => by
      show a.getD (i : Int).toNat 0 + netF _ (i : Int) = _
      rw [h2]; simp; omega
  rw [this, range_getD]
theorem afterL_set {a : List Int} {l : List Ent} {k f t : Nat} {am : Int} {ref : ByteArray} (hx : l[k]? = some ⟨(f : Int), (t : Int), am, ref⟩) (hf : f < a.length) (ht : t < a.length) (hne : f ≠ t) :
    ((afterL a (l.take k)).set f ((afterL a (l.take k)).getD f 0 - am)).set t ((afterL a (l.take k)).getD t 0 + am) = afterL a (l.take (k + 1)) := by
  have e := net_set2 a.length (fun (j : Int) => a.getD j.toNat 0 + netF (l.take k) j) (fun (j : Int) => a.getD j.toNat 0 + netF (l.take (k + 1)) j) f t am hf ht hne (fun i => by
    show _ + netF (l.take (k + 1)) i = _
    rw [netF_take_succ hx]; unfold ent1; simp only; omega)
  have g1 : (afterL a (l.take k)).getD f 0 = (fun (j : Int) => a.getD j.toNat 0 + netF (l.take k) j) (f : Int) := getD_range _ _ _ hf
  have g2 : (afterL a (l.take k)).getD t 0 = (fun (j : Int) => a.getD j.toNat 0 + netF (l.take k) j) (t : Int) := getD_range _ _ _ ht
  rw [g1, g2]
  exact e
theorem afterL_bd {a : List Int} {l : List Ent} {n : Int} (ha : ∀ x ∈ a, -1000000000 ≤ x ∧ x ≤ 1000000000) (hl : l.all (validE n) = true) (hn : l.length ≤ 1000) (i : Nat) : -2000000000000 ≤ (afterL a l).getD i 0 ∧ (afterL a l).getD i 0 ≤ 2000000000000 := by
  rcases Nat.lt_or_ge i a.length with h | h
  · rw [show (afterL a l).getD i 0 = a.getD (i : Int).toNat 0 + netF l (i : Int) from getD_range _ _ _ h]
    have h1 := netF_bd hl (i : Int)
    have h2 := ha _ (List.getElem_mem h)
    have h3 : a.getD (i : Int).toNat 0 = a[i] := by rw [Int.toNat_natCast]; exact getD_of (List.getElem?_eq_getElem h)
    rw [← h3] at h2
    generalize a.getD (i : Int).toNat 0 = u at *
    generalize netF l (i : Int) = v at *
    omega
  · rw [getD_len (by simpa [afterL] using h)]; omega
theorem afterL_len (a : List Int) (l : List Ent) : (afterL a l).length = a.length := by simp [afterL]
/-- The other way round. -/
theorem diff_neg {a b : List Int} (h : a.length = b.length) : diffL b a = (diffL a b).map fun x => -x := by
  apply List.ext_getElem?
  intro i
  rw [List.getElem?_map]
  rcases Nat.lt_or_ge i a.length with hi | hi
  · have h1 : a[i]? = some a[i] := List.getElem?_eq_getElem hi
    have h2 : b[i]? = some (b[i]'(by omega)) := List.getElem?_eq_getElem (by omega)
    rw [diff_at h1 h2, diff_at h2 h1]
    simp
    omega
  · rw [List.getElem?_eq_none (by rw [diff_len h.symm]; omega), List.getElem?_eq_none (by rw [diff_len h]; omega)]; rfl
theorem sum_neg_map (l : List Int) : (l.map fun x => -x).sum = -l.sum := by
  induction l with
  | nil => rfl
  | cons x l ih => simp only [List.map_cons, List.sum_cons, ih]; omega
theorem sum_max (l : List Int) : (l.map fun x => max x 0).sum = ((l.map fun x => -x).map fun x => max x 0).sum + l.sum := by
  induction l with
  | nil => rfl
  | cons x l ih => simp only [List.map_cons, List.sum_cons, ih]; omega
theorem adjShape_symm (a b : List Int) (ref : ByteArray) : adjShape a b ref = adjShape b a ref := by
  unfold adjShape
  by_cases h : a.length = b.length
  · rw [h]
  · rw [decide_eq_false h, decide_eq_false (show ¬ b.length = a.length from fun e => h e.symm)]; rfl
/-- The first errors are those of the other direction. -/
theorem adjE_symm (a b : List Int) (ref : ByteArray) (h : adjE a b ref = 1 ∨ adjE a b ref = 380) : adjE b a ref = adjE a b ref := by
  unfold adjE at *
  rw [adjShape_symm b a, Bool.or_comm (b.any wrongA)]
  by_cases h1 : adjShape a b ref = false
  · rw [if_pos h1, if_pos h1]
  · rw [if_neg h1] at h ⊢
    rw [if_neg h1]
    by_cases h2 : (a.any wrongA || b.any wrongA) = true
    · rw [if_pos h2, if_pos h2]
    · rw [if_neg h2] at h ⊢
      rw [if_neg h2]
      have hl : a.length = b.length := by
        unfold adjShape at h1; simp at h1; exact h1.1
      have hs : (diffL b a).sum = -(diffL a b).sum := by rw [diff_neg hl, sum_neg_map]
      by_cases h3 : (diffL a b).sum ≠ 0
      · rw [if_pos h3, if_pos (by rw [hs]; omega)]
      · rw [if_neg h3] at h
        split at h <;> omega
theorem diff_self (a : List Int) : ∀ t, (diffL a a).getD t 0 = 0 := fun t => by rw [diff_getD rfl]; omega
theorem adj_self {a b : List Int} {ref : ByteArray} (h : adjE a b ref = 0 ∨ adjE a b ref = 2) : adjE a a ref = 0 ∧ adjL a a ref = [] := by
  have hp : adjShape a b ref = true ∧ a.any wrongA = false := by
    unfold adjE at h
    split at h
    · omega
    · split at h
      · omega
      · rename_i h1 h2
        simp at h1
        simp at h2
        exact ⟨h1, by rw [List.any_eq_false]; intro x hx; rw [h2.1 x hx]; decide⟩
  have hh : halt (diffL a a) = true := by
    cases e : halt (diffL a a) with
    | true => rfl
    | false =>
      have := negI_at _ (halt_false e).1
      rw [diff_self] at this; omega
  have hs : (diffL a a).sum = 0 := by
    have : ∀ l : List Int, (∀ t, l.getD t 0 = 0) → l.sum = 0 := by
      intro l
      induction l with
      | nil => intro _; rfl
      | cons x l ih =>
        intro h
        have h0 := h 0
        have := ih (fun t => by have := h (t + 1); simpa using this)
        simp at h0
        rw [List.sum_cons, this, h0]; rfl
    exact this _ (diff_self a)
  have hsh : adjShape a a ref = true := by
    have h1 := hp.1
    unfold adjShape at *
    simp only [Bool.and_eq_true] at h1
    rw [decide_eq_true rfl, h1.1.2, h1.2]; rfl
  have he : adjE a a ref = 0 := by
    unfold adjE
    rw [if_neg (by rw [hsh]; decide), if_neg (by rw [hp.2]; decide), if_neg (fun h => h hs), settleL_halt hh]
    rfl
  exact ⟨he, by rw [adjL_yes he, settleL_halt hh]⟩
theorem adjE_cases (a b : List Int) (ref : ByteArray) : adjE a b ref = 0 ∨ adjE a b ref = 1 ∨ adjE a b ref = 2 ∨ adjE a b ref = 380 := by
  unfold adjE
  split
  · simp
  · split
    · simp
    · split
      · simp
      · split <;> simp
end Go.Proofs.Ytajnoocjjkjfmaa
