/- What Net and Pay answer at the balances that the laws make. -/
import Derived.Test.YtkpnbglghindjaaC11
import Derived.Test.YtkpnbglghindjaaC6
import Derived.Test.YtkpnbglghindjaaM2
set_option linter.unusedVariables false
set_option linter.unusedSimpArgs false
namespace Go.Proofs.Ytkpnbglghindjaa
open Go.RowKit Math

def I32 (l : List Int) : Prop := ∀ x ∈ l, -2147483648 ≤ x ∧ x ≤ 2147483647

theorem netList_balL (l : List Int) (h : I32 l) : netList (balL l) = netLoop (nz (balL l)) (balL l) := if_pos (netErr_balL l h)
theorem balL_Bnd (l : List Int) (h : I32 l) : Bnd 83751862272 (balL l) := balL_bd l h
theorem net_dir_balL (l : List Int) (h : I32 l) : ∀ t ∈ netList (balL l), 0 ≤ t.fr ∧ t.fr < (balL l).length ∧ 0 ≤ t.to_ ∧ t.to_ < (balL l).length ∧ 0 < t.am ∧ t.am ≤ 83751862272 ∧ (balL l).getD t.fr.toNat 0 < 0 ∧ 0 < (balL l).getD t.to_.toNat 0 := by
  rw [netList_balL l h]
  exact net_dir _ (by decide) _ (sum_balL l) (balL_Bnd l h)
theorem net_few_balL (l : List Int) (h : I32 l) : (netList (balL l)).length ≤ nz (balL l) - 1 := by
  rw [netList_balL l h]; exact net_few _ (sum_balL l)
theorem few40 (l : List Int) (h : I32 l) : (netList (balL l)).length ≤ 39 := by
  have := net_few_balL l h
  have := nz_le' (balL l)
  have := length_balL l
  omega
where
  nz_le' (l : List Int) : nz l ≤ l.length := by
    induction l with
    | nil => simp [nz]
    | cons a l ih => simp only [nz, List.length_cons]; split <;> omega
theorem bad_of {n : Nat} {t : Tr} (h : 0 ≤ t.fr ∧ t.fr < n ∧ 0 ≤ t.to_ ∧ t.to_ < n ∧ -1000000000000 ≤ t.am ∧ t.am ≤ 1000000000000) : badTr n t = false := by
  unfold badTr wrongB maxB
  simp only [Bool.or_eq_false_iff, decide_eq_false_iff_not]
  omega
theorem payRes_balL (l : List Int) (h : I32 l) : payRes (balL l) (netList (balL l)) = List.replicate (balL l).length 0 := by
  rw [payRes_ok (by have := few40 l h; omega) (wrong_balL l h), netList_balL l h, settle_zero _ (sum_balL l)]
  rw [List.any_eq_false]
  intro t ht
  have := net_dir_balL l h t ht
  rw [bad_of (by omega)]
  simp
end Go.Proofs.Ytkpnbglghindjaa
