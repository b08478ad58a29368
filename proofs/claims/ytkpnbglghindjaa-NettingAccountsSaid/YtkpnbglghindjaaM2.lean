/- More mathematics of netting: what the payments do to the balances. No program here. -/
import Derived.Test.YtkpnbglghindjaaM1
set_option linter.unusedVariables false
set_option linter.unusedSimpArgs false
namespace Go.Proofs.Ytkpnbglghindjaa.Math

def Bnd (M : Int) (xs : List Int) : Prop := ∀ x ∈ xs, -M ≤ x ∧ x ≤ M
theorem Bnd.at_ {M : Int} {xs : List Int} (h : Bnd M xs) (hM : 0 ≤ M) (i : Nat) : -M ≤ xs.getD i 0 ∧ xs.getD i 0 ≤ M := by
  rw [List.getD_eq_getElem?_getD]
  cases hx : xs[i]? with
  | none => simp; omega
  | some x => exact h x (List.mem_of_getElem? hx)
theorem Bnd.next {M : Int} {l : List Int} (h : Bnd M l) (hM : 0 ≤ M) (hs : l.sum = 0) (hne : ¬ (l.getD (least l) 0 = 0 ∧ l.getD (most l) 0 = 0)) : Bnd M (payOne l (nextPay l)) := fun z hz => by
  obtain ⟨i, _, rfl⟩ := mem_getD hz
  have := next_between l hs hne i
  have := h.at_ hM i
  omega

theorem ext_getD (l m : List Int) (h : l.length = m.length) (hg : ∀ i, i < l.length → l.getD i 0 = m.getD i 0) : l = m := by
  apply List.ext_getElem h
  intro i h1 h2
  have := hg i h1
  simpa [List.getD_eq_getElem?_getD, List.getElem?_eq_getElem, h1, h2] using this

theorem all_zero (l : List Int) (hz : l.getD (least l) 0 = 0 ∧ l.getD (most l) 0 = 0) (i : Nat) : l.getD i 0 = 0 := by
  rcases Nat.lt_or_ge i l.length with h | h
  · have h1 := least_le l l.length i h
    have h2 := most_ge l l.length i h
    change l.getD (least l) 0 ≤ _ at h1
    change _ ≤ l.getD (most l) 0 at h2
    omega
  · rw [List.getD_eq_getElem?_getD, List.getElem?_eq_none h]; rfl

/-- What holds of balances that sum to 0 by taking the next payment. -/
theorem net_induct {p : List Int → List Tr → Prop} (h0 : ∀ l : List Int, l.sum = 0 → (∀ i, l.getD i 0 = 0) → p l [])
    (h1 : ∀ l : List Int, l.sum = 0 → ¬ (l.getD (least l) 0 = 0 ∧ l.getD (most l) 0 = 0) → p (payOne l (nextPay l)) (netLoop (nz (payOne l (nextPay l))) (payOne l (nextPay l))) → p l (nextPay l :: netLoop (nz (payOne l (nextPay l))) (payOne l (nextPay l)))) :
    ∀ l : List Int, l.sum = 0 → p l (netLoop (nz l) l) := by
  have key : ∀ k (l : List Int), nz l ≤ k → l.sum = 0 → p l (netLoop (nz l) l) := by
    intro k
    induction k with
    | zero =>
      intro l hk hs
      have hz : nz l = 0 := by omega
      have : ¬ ¬ (l.getD (least l) 0 = 0 ∧ l.getD (most l) 0 = 0) := fun hne => by have := nz_next l hs hne; omega
      rw [netLoop_zero l hs hz]
      exact h0 l hs (all_zero l (Classical.not_not.1 this))
    | succ k ih =>
      intro l hk hs
      by_cases hz : l.getD (least l) 0 = 0 ∧ l.getD (most l) 0 = 0
      · have : netLoop (nz l) l = [] := by
          cases hn : nz l with
          | zero => rfl
          | succ m => rw [netLoop, if_pos hz]
        rw [this]
        exact h0 l hs (all_zero l hz)
      · have hlt := nz_next l hs hz
        have hl := (extremes l hs hz).1
        have hs' := (sum_next l hl).trans hs
        obtain ⟨m, hm⟩ : ∃ m, nz l = m + 1 := ⟨nz l - 1, by omega⟩
        rw [hm, netLoop, if_neg hz, ← netLoop_fuel m _ hs' (by omega)]
        exact h1 l hs hz (ih _ (by omega) hs')
  exact fun l hs => key (nz l) l (Nat.le_refl _) hs

theorem settle (l : List Int) (hs : l.sum = 0) : ∀ i, (payAll l (netLoop (nz l) l)).getD i 0 = 0 := by
  refine net_induct (p := fun l ts => ∀ i, (payAll l ts).getD i 0 = 0) ?_ ?_ l hs
  · exact fun l _ h => h
  · exact fun l _ _ h => h

theorem settle_zero (l : List Int) (hs : l.sum = 0) : payAll l (netLoop (nz l) l) = List.replicate l.length 0 := by
  apply ext_getD
  · rw [length_payAll, List.length_replicate]
  · intro i _
    rw [settle l hs]
    simp only [List.getD_eq_getElem?_getD, List.getElem?_replicate]
    split <;> rfl

theorem nz_two (l : List Int) (i j : Nat) (hij : i ≠ j) (hi : l.getD i 0 ≠ 0) (hj : l.getD j 0 ≠ 0) : 2 ≤ nz l := by
  have h1 := nz_set_zero l i hi
  have hil : i < l.length := by
    rcases Nat.lt_or_ge i l.length with h | h
    · exact h
    · rw [List.getD_eq_getElem?_getD, List.getElem?_eq_none h] at hi; exact absurd rfl hi
  have h2 := nz_set_zero (l.set i 0) j (by rw [getD_set _ _ _ _ hil, if_neg hij]; exact hj)
  omega

/-- The payments are fewer than the balances that are not 0. -/
theorem net_few (l : List Int) (hs : l.sum = 0) : (netLoop (nz l) l).length ≤ nz l - 1 := by
  refine net_induct (p := fun l ts => ts.length ≤ nz l - 1) ?_ ?_ l hs
  · intro l _ _; simp
  · intro l hs hz h
    obtain ⟨hl, a1, a2⟩ := extremes l hs hz
    have hlt := nz_next l hs hz
    have h2 : 2 ≤ nz l := nz_two l (least l) (most l) (by intro e; rw [e] at a1; omega) (by omega) (by omega)
    simp only [List.length_cons]
    rcases Nat.eq_zero_or_pos (nz (payOne l (nextPay l))) with h0 | h0
    · rw [h0] at h ⊢; simp at h; simp [h, netLoop]; omega
    · omega

/-- Each payment goes from an account that owes to one that is owed, of an amount that is greater than 0 and no greater than the balances. -/
theorem net_dir (M : Int) (hM : 0 ≤ M) (l : List Int) (hs : l.sum = 0) (hb : Bnd M l) : ∀ t ∈ netLoop (nz l) l, 0 ≤ t.fr ∧ t.fr < l.length ∧ 0 ≤ t.to_ ∧ t.to_ < l.length ∧ 0 < t.am ∧ t.am ≤ M ∧ l.getD t.fr.toNat 0 < 0 ∧ 0 < l.getD t.to_.toNat 0 := by
  refine net_induct (p := fun l ts => Bnd M l → ∀ t ∈ ts, 0 ≤ t.fr ∧ t.fr < l.length ∧ 0 ≤ t.to_ ∧ t.to_ < l.length ∧ 0 < t.am ∧ t.am ≤ M ∧ l.getD t.fr.toNat 0 < 0 ∧ 0 < l.getD t.to_.toNat 0) ?_ ?_ l hs hb
  · intro l _ _ _ t ht; cases ht
  · intro l hs hz ih hb t ht
    obtain ⟨hl, a1, a2⟩ := extremes l hs hz
    rcases List.mem_cons.1 ht with rfl | ht
    · have := hb.at_ hM (most l)
      have h1 := least_lt l hl
      have h2 := most_lt l hl
      refine ⟨by simp [nextPay], by simp [nextPay]; omega, by simp [nextPay], by simp [nextPay]; omega, ?_, ?_, by rw [toNat_least]; exact a1, by rw [toNat_most]; exact a2⟩
      · show 0 < min _ _; omega
      · show min _ _ ≤ M; omega
    · have := ih (hb.next hM hs hz) t ht
      rw [length_payOne] at this
      have b1 := next_between l hs hz t.fr.toNat
      have b2 := next_between l hs hz t.to_.toNat
      omega

/-- What an account pays, and what it is paid, in all. -/
def paidBy (i : Nat) (ts : List Tr) : Int := (ts.map fun t => if t.fr.toNat = i then t.am else 0).sum
def gotBy (i : Nat) (ts : List Tr) : Int := (ts.map fun t => if t.to_.toNat = i then t.am else 0).sum

theorem net_all (l : List Int) (hs : l.sum = 0) : ∀ i, paidBy i (netLoop (nz l) l) = max (-(l.getD i 0)) 0 ∧ gotBy i (netLoop (nz l) l) = max (l.getD i 0) 0 := by
  refine net_induct (p := fun l ts => ∀ i, paidBy i ts = max (-(l.getD i 0)) 0 ∧ gotBy i ts = max (l.getD i 0) 0) ?_ ?_ l hs
  · intro l _ h i; rw [h i]; simp [paidBy, gotBy]
  · intro l hs hz ih i
    obtain ⟨hl, a1, a2⟩ := extremes l hs hz
    have hd : least l ≠ most l := by intro e; rw [e] at a1; omega
    have ha : (nextPay l).am = min (-(l.getD (least l) 0)) (l.getD (most l) 0) := rfl
    have := ih i
    have hv : (payOne l (nextPay l)).getD i 0 = if most l = i then l.getD (most l) 0 - (nextPay l).am else if least l = i then l.getD (least l) 0 + (nextPay l).am else l.getD i 0 := by
      rw [payNext l hd, getD_set _ _ _ _ (by simpa using most_lt l hl), getD_set _ _ _ _ (least_lt l hl)]
    rw [hv] at this
    have e1 : paidBy i (nextPay l :: netLoop (nz (payOne l (nextPay l))) (payOne l (nextPay l))) = (if least l = i then (nextPay l).am else 0) + paidBy i (netLoop (nz (payOne l (nextPay l))) (payOne l (nextPay l))) := by
      simp [paidBy, toNat_least]
    have e2 : gotBy i (nextPay l :: netLoop (nz (payOne l (nextPay l))) (payOne l (nextPay l))) = (if most l = i then (nextPay l).am else 0) + gotBy i (netLoop (nz (payOne l (nextPay l))) (payOne l (nextPay l))) := by
      simp [gotBy, toNat_most]
    rw [e1, e2, this.1, this.2]
    by_cases h1 : most l = i
    · subst h1
      rw [if_pos rfl, if_neg hd, if_pos rfl]; omega
    · by_cases h2 : least l = i
      · subst h2
        rw [if_neg h1, if_pos rfl, if_pos rfl, if_neg h1]; omega
      · rw [if_neg h1, if_neg h2, if_neg h2, if_neg h1]; omega

/-! Multiples. -/
def scale (c : Int) (t : Tr) : Tr := ⟨t.fr, t.to_, c * t.am⟩
theorem getD_map_mul (c : Int) (l : List Int) (i : Nat) : (l.map (c * ·)).getD i 0 = c * l.getD i 0 := by
  simp only [List.getD_eq_getElem?_getD, List.getElem?_map]
  cases l[i]? <;> simp
theorem best_scale (c : Int) (hc : 0 < c) (l : List Int) (k : Nat) : best ltI (l.map (c * ·)) k = best ltI l k ∧ best gtI (l.map (c * ·)) k = best gtI l k := by
  induction k with
  | zero => exact ⟨rfl, rfl⟩
  | succ k ih =>
    have e1 : ∀ x y : Int, ltI (c * x) (c * y) = ltI x y := fun x y => decide_eq_decide.2 (Int.mul_lt_mul_left hc)
    have e2 : ∀ x y : Int, gtI (c * x) (c * y) = gtI x y := fun x y => decide_eq_decide.2 (Int.mul_lt_mul_left hc)
    unfold best
    rw [ih.1, ih.2, getD_map_mul, getD_map_mul, getD_map_mul, e1, e2]
    exact ⟨rfl, rfl⟩
theorem least_scale (c : Int) (hc : 0 < c) (l : List Int) : least (l.map (c * ·)) = least l := by unfold least; rw [List.length_map]; exact (best_scale c hc l _).1
theorem most_scale (c : Int) (hc : 0 < c) (l : List Int) : most (l.map (c * ·)) = most l := by unfold most; rw [List.length_map]; exact (best_scale c hc l _).2
theorem next_scale (c : Int) (hc : 0 < c) (l : List Int) : nextPay (l.map (c * ·)) = scale c (nextPay l) := by
  unfold nextPay scale
  rw [least_scale c hc, most_scale c hc, getD_map_mul, getD_map_mul]
  congr 1
  show min (-(c * _)) (c * _) = c * min _ _
  rw [← Int.mul_neg]
  rcases Int.le_total (-(l.getD (least l) 0)) (l.getD (most l) 0) with h | h
  · rw [Int.min_eq_left h, Int.min_eq_left (Int.mul_le_mul_of_nonneg_left h (by omega))]
  · rw [Int.min_eq_right h, Int.min_eq_right (Int.mul_le_mul_of_nonneg_left h (by omega))]
theorem pay_scale (c : Int) (l : List Int) (t : Tr) : payOne (l.map (c * ·)) (scale c t) = (payOne l t).map (c * ·) := by
  simp only [payOne, scale, getD_map_mul, List.map_set]
  rw [← Int.mul_add, ← List.map_set (f := fun x => c * x) , getD_map_mul, ← Int.mul_sub]
theorem loop_scale (c : Int) (hc : 0 < c) (k : Nat) : ∀ l : List Int, netLoop k (l.map (c * ·)) = (netLoop k l).map (scale c) := by
  induction k with
  | zero => intro l; rfl
  | succ k ih =>
    intro l
    unfold netLoop
    rw [least_scale c hc, most_scale c hc, getD_map_mul, getD_map_mul]
    have e : (c * l.getD (least l) 0 = 0 ∧ c * l.getD (most l) 0 = 0) ↔ (l.getD (least l) 0 = 0 ∧ l.getD (most l) 0 = 0) := by
      simp only [Int.mul_eq_zero, show c ≠ 0 by omega, false_or]
    by_cases hz : l.getD (least l) 0 = 0 ∧ l.getD (most l) 0 = 0
    · rw [if_pos (e.2 hz), if_pos hz]; rfl
    · rw [if_neg (fun h => hz (e.1 h)), if_neg hz, next_scale c hc, pay_scale, ih]; rfl
theorem nz_scale (c : Int) (hc : c ≠ 0) (l : List Int) : nz (l.map (c * ·)) = nz l := by
  induction l with
  | nil => rfl
  | cons a l ih => simp only [List.map_cons, nz, ih, Int.mul_eq_zero, hc, false_or]
theorem sum_scale (c : Int) (l : List Int) : (l.map (c * ·)).sum = c * l.sum := by
  induction l with
  | nil => simp
  | cons a l ih => simp [ih, Int.mul_add]

/-! Further accounts with the balance 0. -/
theorem getD_zeros (l : List Int) (m i : Nat) : (l ++ List.replicate m 0).getD i 0 = l.getD i 0 := by
  simp only [List.getD_eq_getElem?_getD, List.getElem?_append, List.getElem?_replicate]
  split
  · rfl
  · rename_i h
    rw [List.getElem?_eq_none (by omega)]
    split <;> rfl
theorem best_congr (lt : Int → Int → Bool) (l m : List Int) (h : ∀ i, l.getD i 0 = m.getD i 0) (k : Nat) : best lt l k = best lt m k := by
  induction k with
  | zero => rfl
  | succ k ih => unfold best; rw [ih, h, h]
theorem best_stay (lt : Int → Int → Bool) (l : List Int) (h : lt 0 (l.getD (best lt l l.length) 0) = false) (m : Nat) : best lt l (l.length + m) = best lt l l.length := by
  induction m with
  | zero => rfl
  | succ m ih =>
    show (if lt (l.getD (l.length + m) 0) (l.getD (best lt l (l.length + m)) 0) then l.length + m else best lt l (l.length + m)) = _
    rw [ih, show l.getD (l.length + m) 0 = 0 by rw [List.getD_eq_getElem?_getD, List.getElem?_eq_none (by omega)]; rfl, h, if_neg (by simp)]
theorem signs (l : List Int) (hs : l.sum = 0) : l.getD (least l) 0 ≤ 0 ∧ 0 ≤ l.getD (most l) 0 := by
  by_cases hz : l.getD (least l) 0 = 0 ∧ l.getD (most l) 0 = 0
  · omega
  · have := extremes l hs hz; omega
theorem least_zeros (l : List Int) (hs : l.sum = 0) (m : Nat) : least (l ++ List.replicate m 0) = least l ∧ most (l ++ List.replicate m 0) = most l := by
  have h := signs l hs
  unfold least most
  rw [List.length_append, List.length_replicate, best_congr ltI _ l (getD_zeros l m), best_congr gtI _ l (getD_zeros l m)]
  exact ⟨best_stay ltI l (decide_eq_false (by change l.getD (best ltI l l.length) 0 ≤ 0 ∧ _ at h; omega)) m, best_stay gtI l (decide_eq_false (by change _ ∧ 0 ≤ l.getD (best gtI l l.length) 0 at h; omega)) m⟩
theorem next_zeros (l : List Int) (hs : l.sum = 0) (m : Nat) : nextPay (l ++ List.replicate m 0) = nextPay l := by
  unfold nextPay
  rw [(least_zeros l hs m).1, (least_zeros l hs m).2, getD_zeros, getD_zeros]
theorem pay_zeros (l : List Int) (m : Nat) (t : Tr) (h1 : t.fr.toNat < l.length) (h2 : t.to_.toNat < l.length) : payOne (l ++ List.replicate m 0) t = payOne l t ++ List.replicate m 0 := by
  simp only [payOne]
  rw [List.set_append_left _ _ h1, getD_zeros, getD_zeros, List.set_append_left _ _ (by simpa using h2)]
theorem loop_zeros (m k : Nat) : ∀ l : List Int, l.sum = 0 → netLoop k (l ++ List.replicate m 0) = netLoop k l := by
  induction k with
  | zero => intro l _; rfl
  | succ k ih =>
    intro l hs
    unfold netLoop
    rw [(least_zeros l hs m).1, (least_zeros l hs m).2, getD_zeros, getD_zeros, next_zeros l hs]
    by_cases hz : l.getD (least l) 0 = 0 ∧ l.getD (most l) 0 = 0
    · rw [if_pos hz, if_pos hz]
    · have hl := (extremes l hs hz).1
      rw [if_neg hz, if_neg hz, pay_zeros l m _ (by rw [toNat_least]; exact least_lt l hl) (by rw [toNat_most]; exact most_lt l hl), ih _ ((sum_next l hl).trans hs)]
theorem nz_rep (m : Nat) : nz (List.replicate m 0) = 0 := by
  induction m with
  | zero => rfl
  | succ m ih => simp only [List.replicate_succ, nz, ih, if_pos]
theorem nz_zeros (l : List Int) (m : Nat) : nz (l ++ List.replicate m 0) = nz l := by
  induction l with
  | nil => rw [List.nil_append, nz_rep]; rfl
  | cons a l ih => simp only [List.cons_append, nz, ih]

/-! Payments back. -/
def backT (t : Tr) : Tr := ⟨t.to_, t.fr, t.am⟩
theorem getD_payOne (l : List Int) (t : Tr) (h1 : t.fr.toNat < l.length) (h2 : t.to_.toNat < l.length) (i : Nat) :
    (payOne l t).getD i 0 = l.getD i 0 + (if t.fr.toNat = i then t.am else 0) - (if t.to_.toNat = i then t.am else 0) := by
  have h2' : t.to_.toNat < (l.set t.fr.toNat (l.getD t.fr.toNat 0 + t.am)).length := by rw [List.length_set]; exact h2
  simp only [payOne]
  rw [getD_set _ _ _ _ h2', getD_set _ _ t.to_.toNat _ h1, getD_set _ _ i _ h1]
  by_cases e1 : t.fr.toNat = i
  · by_cases e2 : t.to_.toNat = i
    · rw [if_pos e2, if_pos e2, if_pos e1, if_pos (e1.trans e2.symm), e1]
    · rw [if_neg e2, if_neg e2, if_pos e1, if_pos e1, e1]; omega
  · by_cases e2 : t.to_.toNat = i
    · rw [if_pos e2, if_pos e2, if_neg e1, if_neg (fun e => e1 (e.trans e2)), e2]; omega
    · rw [if_neg e2, if_neg e2, if_neg e1, if_neg e1]; omega
theorem pay_back (l : List Int) (t : Tr) (h1 : t.fr.toNat < l.length) (h2 : t.to_.toNat < l.length) : payOne (payOne l t) (backT t) = l := by
  apply ext_getD
  · rw [length_payOne, length_payOne]
  · intro i _
    rw [getD_payOne _ _ (by rw [length_payOne]; exact h2) (by rw [length_payOne]; exact h1), getD_payOne _ _ h1 h2]
    show _ + (if t.to_.toNat = i then t.am else 0) - (if t.fr.toNat = i then t.am else 0) = _
    omega
theorem payAll_back (ts : List Tr) : ∀ (l : List Int), (∀ t ∈ ts, t.fr.toNat < l.length ∧ t.to_.toNat < l.length) → payAll (payAll l ts) (ts.map backT).reverse = l := by
  induction ts with
  | nil => intro l _; rfl
  | cons t ts ih =>
    intro l h
    rw [payAll_cons, List.map_cons, List.reverse_cons, payAll_append, ih _ (fun t' ht' => by rw [length_payOne]; exact h t' (by simp [ht']))]
    exact pay_back l t (h t (by simp)).1 (h t (by simp)).2
theorem sum_payAll (ts : List Tr) : ∀ (l : List Int), (∀ t ∈ ts, t.fr.toNat < l.length ∧ t.to_.toNat < l.length) → (payAll l ts).sum = l.sum := by
  induction ts with
  | nil => intro l _; rfl
  | cons t ts ih =>
    intro l h
    rw [payAll_cons, ih _ (fun t' ht' => by rw [length_payOne]; exact h t' (by simp [ht'])), sum_payOne _ _ (h t (by simp)).1 (h t (by simp)).2]

end Go.Proofs.Ytkpnbglghindjaa.Math
