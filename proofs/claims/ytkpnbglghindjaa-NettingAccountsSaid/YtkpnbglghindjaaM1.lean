/- The mathematics of netting: the payments found step by step bring all balances to zero, and so on. No program here. -/
set_option linter.unusedVariables false
set_option linter.unusedSimpArgs false
namespace Go.Proofs.Ytkpnbglghindjaa.Math

structure Tr where
  fr : Int
  to_ : Int
  am : Int
deriving DecidableEq

def payOne (xs : List Int) (t : Tr) : List Int :=
  let ys := xs.set t.fr.toNat (xs.getD t.fr.toNat 0 + t.am)
  ys.set t.to_.toNat (ys.getD t.to_.toNat 0 - t.am)
def payAll (xs : List Int) (l : List Tr) : List Int := l.foldl payOne xs
theorem length_payOne (xs : List Int) (t : Tr) : (payOne xs t).length = xs.length := by simp [payOne]
theorem length_payAll (l : List Tr) : ∀ xs : List Int, (payAll xs l).length = xs.length := by
  induction l with
  | nil => intro xs; rfl
  | cons t l ih => intro xs; show (payAll (payOne xs t) l).length = _; rw [ih, length_payOne]
theorem payAll_snoc (xs : List Int) (l : List Tr) (t : Tr) : payAll xs (l ++ [t]) = payOne (payAll xs l) t := by simp [payAll]
theorem payAll_cons (xs : List Int) (l : List Tr) (t : Tr) : payAll xs (t :: l) = payAll (payOne xs t) l := rfl
theorem payAll_append (xs : List Int) (l m : List Tr) : payAll xs (l ++ m) = payAll (payAll xs l) m := by simp [payAll]

/-- The index of the first element before which no other one is, among the first k. -/
def best (lt : Int → Int → Bool) (l : List Int) : Nat → Nat
  | 0 => 0
  | k + 1 => if lt (l.getD k 0) (l.getD (best lt l k) 0) then k else best lt l k
theorem best_lt (lt : Int → Int → Bool) (l : List Int) (k : Nat) (hk : k ≤ l.length) (h0 : 0 < l.length) : best lt l k < l.length := by
  induction k with
  | zero => exact h0
  | succ k ih =>
    unfold best
    split
    · omega
    · exact ih (by omega)

def ltI (a b : Int) : Bool := decide (a < b)
def gtI (a b : Int) : Bool := decide (b < a)
def least (l : List Int) : Nat := best ltI l l.length
def most (l : List Int) : Nat := best gtI l l.length
theorem least_le (l : List Int) (k : Nat) : ∀ i, i < k → l.getD (best ltI l k) 0 ≤ l.getD i 0 := by
  induction k with
  | zero => intro i hi; omega
  | succ k ih =>
    intro i hi
    unfold best
    by_cases h : i = k
    · subst h
      split
      · omega
      · rename_i h; simp [ltI] at h; simpa using h
    · have := ih i (by omega)
      split
      · rename_i h; simp [ltI] at h; simp at this ⊢; omega
      · exact this
theorem most_ge (l : List Int) (k : Nat) : ∀ i, i < k → l.getD i 0 ≤ l.getD (best gtI l k) 0 := by
  induction k with
  | zero => intro i hi; omega
  | succ k ih =>
    intro i hi
    unfold best
    by_cases h : i = k
    · subst h
      split
      · omega
      · rename_i h; simp [gtI] at h; simpa using h
    · have := ih i (by omega)
      split
      · rename_i h; simp [gtI] at h; simp at this ⊢; omega
      · exact this
theorem least_lt (l : List Int) (h : 0 < l.length) : least l < l.length := best_lt _ _ _ (Nat.le_refl _) h
theorem most_lt (l : List Int) (h : 0 < l.length) : most l < l.length := best_lt _ _ _ (Nat.le_refl _) h

/-- How many elements are not 0. -/
def nz : List Int → Nat
  | [] => 0
  | a :: l => (if a = 0 then 0 else 1) + nz l

/-- The next payment of balances. -/
def nextPay (l : List Int) : Tr := ⟨least l, most l, min (-(l.getD (least l) 0)) (l.getD (most l) 0)⟩
def netLoop : Nat → List Int → List Tr
  | 0, _ => []
  | f + 1, l => if l.getD (least l) 0 = 0 ∧ l.getD (most l) 0 = 0 then [] else nextPay l :: netLoop f (payOne l (nextPay l))

theorem sum_set (l : List Int) (i : Nat) (v : Int) (h : i < l.length) : (l.set i v).sum = l.sum - l.getD i 0 + v := by
  induction l generalizing i with
  | nil => simp at h
  | cons a l ih =>
    cases i with
    | zero => simp; omega
    | succ i => simp at h; simp [ih i h]; omega

theorem sum_payOne (l : List Int) (t : Tr) (h1 : t.fr.toNat < l.length) (h2 : t.to_.toNat < l.length) : (payOne l t).sum = l.sum := by
  simp only [payOne]
  rw [sum_set _ _ _ (by simpa using h2), sum_set _ _ _ h1]
  omega

theorem getD_set (l : List Int) (i j : Nat) (v : Int) (h : i < l.length) : (l.set i v).getD j 0 = if i = j then v else l.getD j 0 := by
  simp only [List.getD_eq_getElem?_getD, List.getElem?_set]
  split
  · rename_i e; subst e; simp [h]
  · rfl

theorem sum_nonneg (l : List Int) (h : ∀ x ∈ l, 0 ≤ x) : 0 ≤ l.sum := by
  induction l with
  | nil => simp
  | cons b l ih => simp; have := h b (by simp); have := ih (fun x hx => h x (by simp [hx])); omega

theorem sum_zero_of_nonneg (l : List Int) (h : ∀ x ∈ l, 0 ≤ x) (hs : l.sum = 0) : ∀ x ∈ l, x = 0 := by
  induction l with
  | nil => intro x hx; cases hx
  | cons a l ih =>
    have hl : 0 ≤ l.sum := sum_nonneg l (fun x hx => h x (by simp [hx]))
    have ha := h a (by simp)
    simp at hs
    intro x hx
    rcases List.mem_cons.1 hx with rfl | hx
    · omega
    · exact ih (fun x hx => h x (by simp [hx])) (by omega) x hx

theorem nz_set_zero (l : List Int) (i : Nat) (h : l.getD i 0 ≠ 0) : nz (l.set i 0) + 1 = nz l := by
  induction l generalizing i with
  | nil => simp at h
  | cons a l ih =>
    cases i with
    | zero => simp at h; simp [nz, h]; omega
    | succ i =>
      have := ih i (by simpa using h)
      simp only [nz, List.set_cons_succ]
      omega

theorem nz_set_ne (l : List Int) (i : Nat) (v : Int) (h : l.getD i 0 ≠ 0) (hv : v ≠ 0) : nz (l.set i v) = nz l := by
  induction l generalizing i with
  | nil => simp at h
  | cons a l ih =>
    cases i with
    | zero => simp at h; simp [nz, h, hv]
    | succ i =>
      have := ih i (by simpa using h)
      simp only [nz, List.set_cons_succ]
      omega

theorem nz_set_le (l : List Int) (i : Nat) (v : Int) (h : l.getD i 0 ≠ 0) : nz (l.set i v) ≤ nz l := by
  by_cases hv : v = 0
  · subst hv; have := nz_set_zero l i h; omega
  · rw [nz_set_ne l i v h hv]; exact Nat.le_refl _

theorem mem_getD {l : List Int} {x : Int} (h : x ∈ l) : ∃ i, i < l.length ∧ l.getD i 0 = x := by
  obtain ⟨i, hi⟩ := List.getElem?_of_mem h
  exact ⟨i, (List.getElem?_eq_some_iff.1 hi).1, by rw [List.getD_eq_getElem?_getD, hi]; rfl⟩

/-- Balances that sum to 0 and are not all 0: the least is below 0 and the greatest above it. -/
theorem extremes (l : List Int) (hs : l.sum = 0) (hne : ¬ (l.getD (least l) 0 = 0 ∧ l.getD (most l) 0 = 0)) : 0 < l.length ∧ l.getD (least l) 0 < 0 ∧ 0 < l.getD (most l) 0 := by
  have hlen : 0 < l.length := by
    cases l with
    | nil => exact absurd ⟨rfl, rfl⟩ hne
    | cons => simp
  have h1 := least_le l l.length
  have h2 := most_ge l l.length
  have a1 : l.getD (least l) 0 < 0 := by
    rcases Int.lt_or_le (l.getD (least l) 0) 0 with h | h
    · exact h
    · have hz := sum_zero_of_nonneg l (fun x hx => by obtain ⟨i, hi, rfl⟩ := mem_getD hx; exact Int.le_trans h (h1 i hi)) hs
      refine absurd ⟨?_, ?_⟩ hne
      · exact hz _ (by rw [List.getD_eq_getElem?_getD, List.getElem?_eq_getElem (least_lt l hlen)]; simp)
      · exact hz _ (by rw [List.getD_eq_getElem?_getD, List.getElem?_eq_getElem (most_lt l hlen)]; simp)
  have a2 : 0 < l.getD (most l) 0 := by
    rcases Int.lt_or_le 0 (l.getD (most l) 0) with h | h
    · exact h
    · have hz := sum_zero_of_nonneg (l.map (- ·)) (fun x hx => by
        obtain ⟨y, hy, rfl⟩ := List.mem_map.1 hx
        obtain ⟨i, hi, rfl⟩ := mem_getD hy
        have := Int.le_trans (h2 i hi) h
        omega) (by
          have : ∀ l : List Int, (l.map (- ·)).sum = - l.sum := by intro l; induction l with
            | nil => rfl
            | cons a l ih => simp [ih]; omega
          rw [this, hs]; rfl)
      have := hz (-(l.getD (least l) 0)) (List.mem_map.2 ⟨_, by rw [List.getD_eq_getElem?_getD, List.getElem?_eq_getElem (least_lt l hlen)]; simp, rfl⟩)
      omega
  exact ⟨hlen, a1, a2⟩

theorem toNat_least (l : List Int) : ((nextPay l).fr).toNat = least l := by simp [nextPay]
theorem toNat_most (l : List Int) : ((nextPay l).to_).toNat = most l := by simp [nextPay]

theorem payNext (l : List Int) (hne : least l ≠ most l) : payOne l (nextPay l) = (l.set (least l) (l.getD (least l) 0 + (nextPay l).am)).set (most l) (l.getD (most l) 0 - (nextPay l).am) := by
  simp only [payOne, toNat_least, toNat_most]
  congr 1
  simp only [List.getD_eq_getElem?_getD, List.getElem?_set]
  rw [if_neg hne]

theorem nz_next (l : List Int) (hs : l.sum = 0) (hne : ¬ (l.getD (least l) 0 = 0 ∧ l.getD (most l) 0 = 0)) : nz (payOne l (nextPay l)) < nz l := by
  obtain ⟨hl, a1, a2⟩ := extremes l hs hne
  have hd : least l ≠ most l := by intro e; rw [e] at a1; omega
  rw [payNext l hd]
  have hm : (l.set (least l) (l.getD (least l) 0 + (nextPay l).am)).getD (most l) 0 = l.getD (most l) 0 := by rw [getD_set _ _ _ _ (least_lt l hl), if_neg hd]
  have ha : (nextPay l).am = min (-(l.getD (least l) 0)) (l.getD (most l) 0) := rfl
  rcases Int.le_total (-(l.getD (least l) 0)) (l.getD (most l) 0) with h | h
  · have h0 : l.getD (least l) 0 + (nextPay l).am = 0 := by rw [ha, Int.min_eq_left h]; omega
    rw [h0] at hm ⊢
    have := nz_set_zero l (least l) (by omega)
    have := nz_set_le (l.set (least l) 0) (most l) (l.getD (most l) 0 - (nextPay l).am) (by omega)
    omega
  · have h0 : l.getD (most l) 0 - (nextPay l).am = 0 := by rw [ha, Int.min_eq_right h]; omega
    rw [h0]
    have := nz_set_le l (least l) (l.getD (least l) 0 + (nextPay l).am) (by omega)
    have := nz_set_zero (l.set (least l) (l.getD (least l) 0 + (nextPay l).am)) (most l) (by omega)
    omega

theorem sum_next (l : List Int) (hl : 0 < l.length) : (payOne l (nextPay l)).sum = l.sum :=
  sum_payOne _ _ (by rw [toNat_least]; exact least_lt l hl) (by rw [toNat_most]; exact most_lt l hl)

/-- Each element of the balances stays between its old value and 0. -/
theorem next_between (l : List Int) (hs : l.sum = 0) (hne : ¬ (l.getD (least l) 0 = 0 ∧ l.getD (most l) 0 = 0)) (i : Nat) :
    (l.getD i 0 ≤ (payOne l (nextPay l)).getD i 0 ∧ (payOne l (nextPay l)).getD i 0 ≤ 0) ∨ (0 ≤ (payOne l (nextPay l)).getD i 0 ∧ (payOne l (nextPay l)).getD i 0 ≤ l.getD i 0) := by
  obtain ⟨hl, a1, a2⟩ := extremes l hs hne
  have hd : least l ≠ most l := by intro e; rw [e] at a1; omega
  have ha : (nextPay l).am = min (-(l.getD (least l) 0)) (l.getD (most l) 0) := rfl
  rw [payNext l hd, getD_set _ _ _ _ (by simpa using most_lt l hl), getD_set _ _ _ _ (least_lt l hl)]
  split
  · rename_i e; subst e; right; rw [ha]; omega
  · split
    · rename_i e; subst e; left; rw [ha]; omega
    · omega

/-- More fuel than there are balances to settle gives nothing more. -/
theorem netLoop_zero (l : List Int) (hs : l.sum = 0) (h : nz l = 0) (k : Nat) : netLoop k l = [] := by
  cases k with
  | zero => rfl
  | succ k =>
    unfold netLoop
    by_cases hz : l.getD (least l) 0 = 0 ∧ l.getD (most l) 0 = 0
    · rw [if_pos hz]
    · have := nz_next l hs hz; omega
theorem netLoop_two (k : Nat) : ∀ (k' : Nat) (l : List Int), l.sum = 0 → nz l ≤ k → nz l ≤ k' → netLoop k l = netLoop k' l := by
  induction k with
  | zero => intro k' l hs h _; rw [netLoop_zero l hs (by omega), netLoop_zero l hs (by omega)]
  | succ k ih =>
    intro k' l hs h h'
    cases k' with
    | zero => rw [netLoop_zero l hs (by omega), netLoop_zero l hs (by omega)]
    | succ k' =>
      by_cases hz : l.getD (least l) 0 = 0 ∧ l.getD (most l) 0 = 0
      · rw [netLoop, if_pos hz, netLoop, if_pos hz]
      · have hlt := nz_next l hs hz
        have hl := (extremes l hs hz).1
        rw [netLoop, if_neg hz, netLoop, if_neg hz, ih k' _ ((sum_next l hl).trans hs) (by omega) (by omega)]
theorem netLoop_fuel (k : Nat) (l : List Int) (hs : l.sum = 0) (h : nz l ≤ k) : netLoop (nz l) l = netLoop k l := netLoop_two _ _ l hs (Nat.le_refl _) h

/-- Net and its error. -/
def maxB : Int := 1000000000000
def wrongB (m x : Int) : Bool := decide (x < -m) || decide (m < x)
def netErr (l : List Int) : Int := if 40 < l.length ∨ l.any (wrongB maxB) then 1 else if l.sum ≠ 0 then 380 else 0
def netList (l : List Int) : List Tr := if netErr l = 0 then netLoop (nz l) l else []

end Go.Proofs.Ytkpnbglghindjaa.Math
