/- Plain: the rows of the edit distance. -/
import Derived.Test.YtkbdkkllfaljlaaBase
set_option linter.unusedVariables false
set_option linter.unusedSimpArgs false
namespace Go.Proofs.Ytkbdkkllfaljlaa
open Go.RowKit

/-- One entry of a row, of those before it and above it. -/
def cellV (c : Bool) (p q r : Nat) : Nat := min (min (p + if c then 0 else 1) (q + 1)) (r + 1)
/-- The i-th row of the distances between the first bytes of a and those of b. -/
def rowN (a b : List UInt8) : Nat → Nat → Nat
  | 0, j => j
  | i + 1, 0 => i + 1
  | i + 1, j + 1 => cellV (a.getD i 0 == b.getD j 0) (rowN a b i j) (rowN a b i (j + 1)) (rowN a b (i + 1) j)
def lev (a b : List UInt8) : Nat := rowN a b a.length b.length
theorem rowN_zero (a b : List UInt8) (j : Nat) : rowN a b 0 j = j := by cases j <;> simp [rowN]
theorem rowN_left (a b : List UInt8) (i : Nat) : rowN a b i 0 = i := by cases i <;> simp [rowN]
theorem rowN_succ (a b : List UInt8) (i j : Nat) : rowN a b (i + 1) (j + 1) = cellV (a.getD i 0 == b.getD j 0) (rowN a b i j) (rowN a b i (j + 1)) (rowN a b (i + 1) j) := by rw [rowN]
theorem rowN_le (a b : List UInt8) : ∀ i j, rowN a b i j ≤ i + j
  | 0, j => by rw [rowN_zero]; omega
  | i + 1, 0 => by rw [rowN_left]; omega
  | i + 1, j + 1 => by
    rw [rowN_succ]
    have := rowN_le a b i (j + 1)
    unfold cellV; omega
def leastL (x : Int) (l : List Int) : Int := l.foldl min x
theorem leastL_snoc (x y : Int) (l : List Int) : leastL x (l ++ [y]) = min (leastL x l) y := by simp [leastL]
end Go.Proofs.Ytkbdkkllfaljlaa
