/- Plain: the edit distance by scripts. -/
import Derived.Test.YtkbdkkllfaljlaaM1
set_option linter.unusedVariables false
set_option linter.unusedSimpArgs false
namespace Go.Proofs.Ytkbdkkllfaljlaa
open Go.RowKit

/-- A script of n steps leads from one text to another. -/
inductive Ed : List UInt8 → List UInt8 → Nat → Prop
  | nil : Ed [] [] 0
  | keep {a b n} (x : UInt8) : Ed a b n → Ed (x :: a) (x :: b) n
  | repl {a b n} (x y : UInt8) : Ed a b n → Ed (x :: a) (y :: b) (n + 1)
  | del {a b n} (x : UInt8) : Ed a b n → Ed (x :: a) b (n + 1)
  | ins {a b n} (y : UInt8) : Ed a b n → Ed a (y :: b) (n + 1)
theorem Ed.refl : ∀ a, Ed a a 0
  | [] => .nil
  | x :: a => .keep x (Ed.refl a)
theorem Ed.symm {a b : List UInt8} {n : Nat} (h : Ed a b n) : Ed b a n := by
  induction h with
  | nil => exact .nil
  | keep x _ ih => exact .keep x ih
  | repl x y _ ih => exact .repl y x ih
  | del x _ ih => exact .ins x ih
  | ins y _ ih => exact .del y ih
theorem Ed.zero {a b : List UInt8} {n : Nat} (h : Ed a b n) : n = 0 → a = b := by
  induction h with
  | nil => intro _; rfl
  | keep x _ ih => intro e; rw [ih e]
  | repl x y _ ih => intro e; omega
  | del x _ ih => intro e; omega
  | ins y _ ih => intro e; omega
theorem Ed.append {a b c d : List UInt8} {n m : Nat} (h : Ed a b n) (k : Ed c d m) : Ed (a ++ c) (b ++ d) (n + m) := by
  induction h with
  | nil => simpa using k
  | keep x _ ih => exact .keep x ih
  | repl x y _ ih => rw [Nat.add_right_comm]; exact .repl x y ih
  | del x _ ih => rw [Nat.add_right_comm]; exact .del x ih
  | ins y _ ih => rw [Nat.add_right_comm]; exact .ins y ih
theorem Ed.reverse {a b : List UInt8} {n : Nat} (h : Ed a b n) : Ed a.reverse b.reverse n := by
  induction h with
  | nil => exact .nil
  | keep x _ ih => rw [List.reverse_cons, List.reverse_cons]; exact ih.append (.keep x .nil)
  | repl x y _ ih => rw [List.reverse_cons, List.reverse_cons]; exact ih.append (.repl x y .nil)
  | del x _ ih => rw [List.reverse_cons]; simpa using ih.append (.del x .nil)
  | ins y _ ih => rw [List.reverse_cons]; simpa using ih.append (.ins y .nil)
/-- The script of n steps, or of fewer. -/
def EdLe (a b : List UInt8) (n : Nat) : Prop := ∃ m, m ≤ n ∧ Ed a b m
theorem EdLe.keep {a b n} (x : UInt8) (h : EdLe a b n) : EdLe (x :: a) (x :: b) n := by obtain ⟨m, h1, h2⟩ := h; exact ⟨m, h1, .keep x h2⟩
theorem EdLe.repl {a b n} (x y : UInt8) (h : EdLe a b n) : EdLe (x :: a) (y :: b) (n + 1) := by obtain ⟨m, h1, h2⟩ := h; exact ⟨m + 1, by omega, .repl x y h2⟩
theorem EdLe.del {a b n} (x : UInt8) (h : EdLe a b n) : EdLe (x :: a) b (n + 1) := by obtain ⟨m, h1, h2⟩ := h; exact ⟨m + 1, by omega, .del x h2⟩
theorem EdLe.ins {a b n} (x : UInt8) (h : EdLe a b n) : EdLe a (x :: b) (n + 1) := by obtain ⟨m, h1, h2⟩ := h; exact ⟨m + 1, by omega, .ins x h2⟩
theorem EdLe.mono {a b n m} (h : EdLe a b n) (k : n ≤ m) : EdLe a b m := by obtain ⟨i, h1, h2⟩ := h; exact ⟨i, by omega, h2⟩
theorem Ed.trans {b c : List UInt8} {m : Nat} (k : Ed b c m) : ∀ {a n}, Ed a b n → EdLe a c (n + m) := by
  induction k with
  | nil => intro a n h; exact ⟨n, by omega, h⟩
  | @keep b c m x k ih =>
    intro a n h
    generalize hbx : x :: b = bx at h
    induction h with
    | nil => cases hbx
    | @keep a b' n y h _ => injection hbx with h1 h2; subst h1; subst h2; exact (ih h).keep _
    | @repl a b' n y z h _ => injection hbx with h1 h2; subst h1; subst h2; rw [Nat.add_right_comm]; exact (ih h).repl _ _
    | @del a b' n y h ihd => rw [Nat.add_right_comm]; exact (ihd hbx).del _
    | @ins a b' n y h _ => injection hbx with h1 h2; subst h1; subst h2; rw [Nat.add_right_comm]; exact (ih h).ins _
  | @repl b c m x y k ih =>
    intro a n h
    generalize hbx : x :: b = bx at h
    induction h with
    | nil => cases hbx
    | @keep a b' n z h _ => injection hbx with h1 h2; subst h2; exact (ih h).repl _ _
    | @repl a b' n z z' h _ => injection hbx with h1 h2; subst h2; exact ((ih h).repl _ _).mono (by omega)
    | @del a b' n z h ihd => rw [Nat.add_right_comm]; exact (ihd hbx).del _
    | @ins a b' n z h _ => injection hbx with h1 h2; subst h2; exact ((ih h).ins _).mono (by omega)
  | @del b c m x k ih =>
    intro a n h
    generalize hbx : x :: b = bx at h
    induction h with
    | nil => cases hbx
    | @keep a b' n z h _ => injection hbx with h1 h2; subst h2; exact (ih h).del _
    | @repl a b' n z z' h _ => injection hbx with h1 h2; subst h2; exact ((ih h).del _).mono (by omega)
    | @del a b' n z h ihd => rw [Nat.add_right_comm]; exact (ihd hbx).del _
    | @ins a b' n z h _ => injection hbx with h1 h2; subst h2; exact (ih h).mono (by omega)
  | @ins b c m y k ih => intro a n h; exact (ih h).ins _
theorem EdLe.trans {a b c n m} (h : EdLe a b n) (k : EdLe b c m) : EdLe a c (n + m) := by
  obtain ⟨i, h1, h2⟩ := h; obtain ⟨j, k1, k2⟩ := k; exact (k2.trans h2).mono (by omega)
/-- A common beginning is not needed. -/
theorem Ed.tail {a b : List UInt8} {x : UInt8} {n : Nat} (h : Ed (x :: a) (x :: b) n) : EdLe a b n := by
  generalize ha : x :: a = ax at h
  generalize hb : x :: b = bx at h
  cases h with
  | nil => cases ha
  | keep y h => injection ha with _ h2; injection hb with _ h4; subst h2; subst h4; exact ⟨_, Nat.le_refl _, h⟩
  | repl y z h => injection ha with _ h2; injection hb with _ h4; subst h2; subst h4; exact ⟨_, Nat.le_succ _, h⟩
  | del y h =>
    injection ha with _ h2; subst h2; subst hb
    exact (Ed.del x (Ed.refl b)).trans h
  | ins y h =>
    injection hb with _ h2; subst h2; subst ha
    exact (h.trans (Ed.ins x (Ed.refl a))).mono (by omega)
theorem EdLe.tail {a b : List UInt8} {x : UInt8} {n : Nat} (h : EdLe (x :: a) (x :: b) n) : EdLe a b n := by
  obtain ⟨m, h1, h2⟩ := h; exact h2.tail.mono h1
theorem EdLe.tails {a b : List UInt8} {n : Nat} : ∀ (p : List UInt8), EdLe (p ++ a) (p ++ b) n → EdLe a b n
  | [], h => h
  | x :: p, h => EdLe.tails p h.tail
theorem EdLe.reverse {a b n} (h : EdLe a b n) : EdLe a.reverse b.reverse n := by obtain ⟨m, h1, h2⟩ := h; exact ⟨m, h1, h2.reverse⟩
theorem EdLe.around {a b n} (p q : List UInt8) (h : EdLe (p ++ a ++ q) (p ++ b ++ q) n) : EdLe a b n := by
  rw [List.append_assoc, List.append_assoc] at h
  have h2 := (h.tails p).reverse
  rw [List.reverse_append, List.reverse_append] at h2
  simpa using (h2.tails q.reverse).reverse
theorem EdLe.wrap {a b n} (p q : List UInt8) (h : EdLe a b n) : EdLe (p ++ a ++ q) (p ++ b ++ q) n := by
  obtain ⟨m, h1, h2⟩ := h
  exact ⟨m, h1, by simpa using ((Ed.refl p).append h2).append (Ed.refl q)⟩
theorem Ed.len {a b : List UInt8} {n : Nat} (h : Ed a b n) : a.length ≤ b.length + n ∧ b.length ≤ a.length + n := by
  induction h with
  | nil => simp
  | keep x _ ih => simp only [List.length_cons]; omega
  | repl x y _ ih => simp only [List.length_cons]; omega
  | del x _ ih => simp only [List.length_cons]; omega
  | ins y _ ih => simp only [List.length_cons]; omega
theorem EdLe.max : ∀ (a b : List UInt8), EdLe a b (max a.length b.length)
  | [], [] => ⟨0, Nat.zero_le _, .nil⟩
  | x :: a, [] => ((EdLe.max a []).del x).mono (by simp)
  | [], y :: b => ((EdLe.max [] b).ins y).mono (by simp)
  | x :: a, y :: b => ((EdLe.max a b).repl x y).mono (by simp only [List.length_cons]; omega)
theorem take_snoc (a : List UInt8) (i : Nat) (h : i < a.length) : a.take (i + 1) = a.take i ++ [a.getD i 0] := by
  rw [List.take_add_one, List.getD_eq_getElem?_getD, List.getElem?_eq_getElem h]; rfl
/-- A row of the distances is reached by scripts .. -/
theorem rowN_ed (a b : List UInt8) : ∀ i j, i ≤ a.length → j ≤ b.length → Ed (a.take i).reverse (b.take j).reverse (rowN a b i j)
  | 0, 0, _, _ => by rw [rowN_zero]; simpa using Ed.nil
  | 0, j + 1, hi, hj => by
    have h := rowN_ed a b 0 j hi (by omega)
    rw [rowN_zero] at h ⊢
    rw [take_snoc b j (by omega), List.reverse_append]
    exact .ins _ h
  | i + 1, 0, hi, hj => by
    have h := rowN_ed a b i 0 (by omega) hj
    rw [rowN_left] at h ⊢
    rw [take_snoc a i (by omega), List.reverse_append]
    exact .del _ h
  | i + 1, j + 1, hi, hj => by
    have h1 := rowN_ed a b i j (by omega) (by omega)
    have h2 := rowN_ed a b i (j + 1) (by omega) hj
    have h3 := rowN_ed a b (i + 1) j hi (by omega)
    rw [rowN_succ]
    have e1 : (a.take (i + 1)).reverse = a.getD i 0 :: (a.take i).reverse := by rw [take_snoc a i (by omega), List.reverse_append]; rfl
    have e2 : (b.take (j + 1)).reverse = b.getD j 0 :: (b.take j).reverse := by rw [take_snoc b j (by omega), List.reverse_append]; rfl
    generalize rowN a b i j = r1 at *
    generalize rowN a b i (j + 1) = r2 at *
    generalize rowN a b (i + 1) j = r3 at *
    have g2 : Ed (a.take (i + 1)).reverse (b.take (j + 1)).reverse (r2 + 1) := by rw [e1]; exact .del _ h2
    have g3 : Ed (a.take (i + 1)).reverse (b.take (j + 1)).reverse (r3 + 1) := by rw [e2]; exact .ins _ h3
    have g1 : Ed (a.take (i + 1)).reverse (b.take (j + 1)).reverse (r1 + if (a.getD i 0 == b.getD j 0) = true then 0 else 1) := by
      rw [e1, e2]
      by_cases he : a.getD i 0 = b.getD j 0
      · rw [he]; simp only [beq_self_eq_true, if_true, Nat.add_zero]; exact .keep _ h1
      · rw [if_neg (by simpa using he)]; exact .repl _ _ h1
    unfold cellV
    rcases (by omega : min (min (r1 + if (a.getD i 0 == b.getD j 0) = true then 0 else 1) (r2 + 1)) (r3 + 1) = r1 + (if (a.getD i 0 == b.getD j 0) = true then 0 else 1) ∨ min (min (r1 + if (a.getD i 0 == b.getD j 0) = true then 0 else 1) (r2 + 1)) (r3 + 1) = r2 + 1 ∨ min (min (r1 + if (a.getD i 0 == b.getD j 0) = true then 0 else 1) (r2 + 1)) (r3 + 1) = r3 + 1) with h | h | h <;> rw [h] <;> assumption
/-- .. and by none that are shorter. -/
theorem rowN_least (a b : List UInt8) : ∀ i j n, i ≤ a.length → j ≤ b.length → Ed (a.take i).reverse (b.take j).reverse n → rowN a b i j ≤ n
  | 0, j, n, hi, hj, h => by
    have := h.len
    simp only [List.take_zero, List.reverse_nil, List.length_nil, List.length_reverse, List.length_take] at this
    rw [rowN_zero]; omega
  | i + 1, 0, n, hi, hj, h => by
    have := h.len
    simp only [List.take_zero, List.reverse_nil, List.length_nil, List.length_reverse, List.length_take] at this
    rw [rowN_left]; omega
  | i + 1, j + 1, n, hi, hj, h => by
    rw [rowN_succ]
    have e1 : (a.take (i + 1)).reverse = a.getD i 0 :: (a.take i).reverse := by rw [take_snoc a i (by omega), List.reverse_append]; rfl
    have e2 : (b.take (j + 1)).reverse = b.getD j 0 :: (b.take j).reverse := by rw [take_snoc b j (by omega), List.reverse_append]; rfl
    unfold cellV
    generalize hx : (a.take (i + 1)).reverse = X at h
    generalize hy : (b.take (j + 1)).reverse = Y at h
    rw [e1] at hx; rw [e2] at hy
    cases h with
    | nil => cases hx
    | keep z h =>
      injection hx with x1 x2; injection hy with y1 y2
      subst x2; subst y2
      have := rowN_least a b i j _ (by omega) (by omega) h
      rw [x1, y1]; simp only [beq_self_eq_true, if_true]; omega
    | repl z z' h =>
      injection hx with x1 x2; injection hy with y1 y2
      subst x2; subst y2
      have := rowN_least a b i j _ (by omega) (by omega) h
      split <;> omega
    | del z h =>
      injection hx with x1 x2
      subst x2; subst hy
      rw [← e2] at h
      have := rowN_least a b i (j + 1) _ (by omega) hj h
      omega
    | ins z h =>
      injection hy with y1 y2
      subst y2; subst hx
      rw [← e1] at h
      have := rowN_least a b (i + 1) j _ hi (by omega) h
      omega
theorem lev_ed (a b : List UInt8) : Ed a b (lev a b) := by
  have h := (rowN_ed a b a.length b.length (Nat.le_refl _) (Nat.le_refl _)).reverse
  rw [List.reverse_reverse, List.reverse_reverse, List.take_length, List.take_length] at h
  exact h
theorem lev_least {a b : List UInt8} {n : Nat} (h : EdLe a b n) : lev a b ≤ n := by
  obtain ⟨m, h1, h2⟩ := h
  refine Nat.le_trans (rowN_least a b _ _ m (Nat.le_refl _) (Nat.le_refl _) ?_) h1
  simpa [List.take_length] using h2.reverse
theorem lev_edle (a b : List UInt8) : EdLe a b (lev a b) := ⟨_, Nat.le_refl _, lev_ed a b⟩
theorem lev_symm (a b : List UInt8) : lev a b = lev b a :=
  Nat.le_antisymm (lev_least ⟨_, Nat.le_refl _, (lev_ed b a).symm⟩) (lev_least ⟨_, Nat.le_refl _, (lev_ed a b).symm⟩)
theorem lev_zero (a b : List UInt8) : lev a b = 0 ↔ a = b := by
  constructor
  · intro h; exact (lev_ed a b).zero h
  · rintro rfl; have := lev_least ⟨0, Nat.le_refl _, Ed.refl a⟩; omega
theorem lev_tri (a b c : List UInt8) : lev a c ≤ lev a b + lev b c := lev_least ((lev_edle a b).trans (lev_edle b c))
theorem lev_around (a b p q : List UInt8) : lev (p ++ a ++ q) (p ++ b ++ q) = lev a b :=
  Nat.le_antisymm (lev_least ((lev_edle a b).wrap p q)) (lev_least ((lev_edle _ _).around p q))
theorem lev_max (a b : List UInt8) : lev a b ≤ max a.length b.length := lev_least (EdLe.max a b)
theorem lev_min (a b : List UInt8) : max a.length b.length - min a.length b.length ≤ lev a b := by have := (lev_ed a b).len; omega
theorem lev_step {a a' : List UInt8} (b : List UInt8) (h : EdLe a' a 1) : lev a' b ≤ lev a b + 1 ∧ lev a b ≤ lev a' b + 1 := by
  have h1 := lev_tri a' a b
  have h2 := lev_tri a a' b
  have h3 := lev_least h
  have h4 := lev_symm a a'
  omega
/-- The distances row by row, as they are computed. -/
def nextR (c : UInt8) : List UInt8 → Nat → List Nat → List Nat
  | y :: ys, left, p :: q :: r => left :: nextR c ys (cellV (c == y) p q left) (q :: r)
  | _, left, _ => [left]
def rowsR (b : List UInt8) : List UInt8 → Nat → List Nat → List Nat
  | [], _, row => row
  | c :: t, k, row => rowsR b t (k + 1) (nextR c b (k + 1) row)
def levR (a b : List UInt8) : Nat := (rowsR b a 0 (List.range (b.length + 1))).getLastD 0
theorem nextR_row (a b : List UInt8) (i : Nat) : ∀ (d j : Nat), j + d = b.length → nextR (a.getD i 0) (b.drop j) (rowN a b (i + 1) j) ((List.range' j (d + 1)).map (rowN a b i)) = (List.range' j (d + 1)).map (rowN a b (i + 1))
  | 0, j, h => by
    rw [List.drop_of_length_le (by omega)]
    simp [nextR, List.range'_one]
  | d + 1, j, h => by
    have hj : j < b.length := by omega
    rw [List.drop_eq_getElem_cons hj]
    rw [List.range'_succ, List.range'_succ]
    simp only [List.map_cons]
    rw [nextR]
    have e : b[j] = b.getD j 0 := by rw [List.getD_eq_getElem?_getD, List.getElem?_eq_getElem hj]; rfl
    rw [e, ← rowN_succ]
    have := nextR_row a b i d (j + 1) (by omega)
    rw [List.range'_succ, List.map_cons] at this
    rw [this]; rfl
theorem rowsR_row (a b : List UInt8) : ∀ (d i : Nat), i + d = a.length → rowsR b (a.drop i) i ((List.range' 0 (b.length + 1)).map (rowN a b i)) = (List.range' 0 (b.length + 1)).map (rowN a b a.length)
  | 0, i, h => by
    rw [List.drop_of_length_le (by omega), rowsR, show i = a.length by omega]
  | d + 1, i, h => by
    have hi : i < a.length := by omega
    rw [List.drop_eq_getElem_cons hi, rowsR]
    have e : a[i] = a.getD i 0 := by rw [List.getD_eq_getElem?_getD, List.getElem?_eq_getElem hi]; rfl
    have := nextR_row a b i b.length 0 (by omega)
    rw [rowN_left, List.drop_zero] at this
    rw [e, this]
    exact rowsR_row a b d (i + 1) (by omega)
theorem levR_eq (a b : List UInt8) : lev a b = levR a b := by
  have h := rowsR_row a b a.length 0 (by omega)
  unfold levR lev
  rw [List.drop_zero] at h
  have e : (List.range' 0 (b.length + 1)).map (rowN a b 0) = List.range (b.length + 1) := by
    rw [List.range_eq_range']
    have : rowN a b 0 = id := by funext j; exact rowN_zero a b j
    rw [this, List.map_id]
  rw [e] at h
  rw [h, List.range'_concat, List.map_append]
  simp
end Go.Proofs.Ytkbdkkllfaljlaa
