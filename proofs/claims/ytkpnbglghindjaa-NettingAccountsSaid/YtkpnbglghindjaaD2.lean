/- Further accounts with the balance 0 change no payment, and with all signs changed each account that paid is paid the same in all, and the other way round. -/
import Derived.Test.YtkpnbglghindjaaL6
set_option linter.unusedVariables false
set_option linter.unusedSimpArgs false
namespace Go.Proofs.Ytkpnbglghindjaa
open Go.ChangeShapes Go.WideShapes Go.ChangeAt Go.RowKit Math

theorem any_wrong_of (b : List Int) (h : Bnd 83751862272 b) : b.any (wrongB maxB) = false := by
  rw [List.any_eq_false]
  intro x hx
  have := h x hx
  unfold wrongB maxB
  simp; omega
theorem netErr_of (b : List Int) (h : Bnd 83751862272 b) (hl : b.length ≤ 40) (hs : b.sum = 0) : netErr b = 0 := by
  unfold netErr; rw [if_neg (by rw [any_wrong_of b h]; simp; omega), if_neg (by simp [hs])]
theorem Bnd_zeros (b : List Int) (h : Bnd 83751862272 b) (j : Nat) : Bnd 83751862272 (b ++ List.replicate j 0) := fun x hx => by
  rcases List.mem_append.1 hx with hx | hx
  · exact h x hx
  · have := List.eq_of_mem_replicate hx; omega
theorem sum_zeros (b : List Int) (j : Nat) : (b ++ List.replicate j 0).sum = b.sum := by
  rw [List.sum_append_int]
  have : ∀ j : Nat, (List.replicate j (0 : Int)).sum = 0 := by intro j; induction j with
    | zero => rfl
    | succ j ih => simp [List.replicate_succ, ih]
  rw [this]; omega
theorem netList_zeros (b : List Int) (h : Bnd 83751862272 b) (j : Nat) (hl : b.length + j ≤ 40) (hs : b.sum = 0) : netList (b ++ List.replicate j 0) = netList b := by
  unfold netList
  rw [netErr_of b h (by omega) hs, netErr_of _ (Bnd_zeros b h j) (by simp; omega) (by rw [sum_zeros, hs]), if_pos rfl, if_pos rfl, nz_zeros, loop_zeros j _ b hs]
def negL (b : List Int) : List Int := b.map (fun x => -x)
theorem getD_neg (b : List Int) (i : Nat) : (negL b).getD i 0 = -(b.getD i 0) := by
  unfold negL
  simp only [List.getD_eq_getElem?_getD, List.getElem?_map]
  cases b[i]? <;> simp
theorem Bnd_neg (b : List Int) (h : Bnd 83751862272 b) : Bnd 83751862272 (negL b) := fun x hx => by
  obtain ⟨y, hy, rfl⟩ := List.mem_map.1 hx
  have := h y hy; omega
theorem sum_neg (b : List Int) : (negL b).sum = -b.sum := by
  unfold negL
  induction b with
  | nil => rfl
  | cons a l ih => simp [ih]; omega
theorem length_neg (b : List Int) : (negL b).length = b.length := by simp [negL]

/-- What an account has paid less what it was paid. -/
def flow (ts : List Tr) (i : Nat) : Int := paidBy i ts - gotBy i ts
def flowL (m : Nat) (us ts : List Tr) : List Int := (List.range m).map fun i => flow us i + flow ts i
theorem flow_nil (i : Nat) : flow [] i = 0 := rfl
theorem flow_snoc (ts : List Tr) (t : Tr) (i : Nat) : flow (ts ++ [t]) i = flow ts i + (if t.fr.toNat = i then t.am else 0) - (if t.to_.toNat = i then t.am else 0) := by
  unfold flow; rw [paidBy_snoc, gotBy_snoc]; omega
theorem flowL_snoc (m : Nat) (us ts : List Tr) (t : Tr) (h1 : t.fr.toNat < m) (h2 : t.to_.toNat < m) : flowL m us (ts ++ [t]) = payOne (flowL m us ts) t := by
  apply ext_getD
  · simp [flowL, length_payOne]
  · intro i hi
    have him : i < m := by simpa [flowL] using hi
    rw [getD_payOne _ _ (by simpa [flowL] using h1) (by simpa [flowL] using h2)]
    unfold flowL
    rw [getD_range m _ i him, getD_range m _ i him, flow_snoc]
    omega
theorem flowL_bd (m : Nat) (us ts : List Tr) (k : Nat) (hu : us.length ≤ 40) (h : ∀ t ∈ us, 0 < t.am ∧ t.am ≤ 83751862272) (h' : ∀ t ∈ ts, 0 < t.am ∧ t.am ≤ 83751862272) (hk : k ≤ 40) (i : Nat) :
    -10000000000000 ≤ flow us i + flow (ts.take k) i ∧ flow us i + flow (ts.take k) i ≤ 10000000000000 := by
  have h1 := paid_bd us i us.length h
  rw [List.take_length] at h1
  have h2 := paid_bd ts i k h'
  unfold flow
  omega
theorem flow_zero (b : List Int) (hs : b.sum = 0) (i : Nat) : flow (netLoop (nz b) b) i + flow (netLoop (nz (negL b)) (negL b)) i = 0 := by
  have h1 := net_all b hs i
  have h2 := net_all (negL b) (by rw [sum_neg, hs]; rfl) i
  rw [getD_neg] at h2
  unfold flow
  omega

end Go.Proofs.Ytkpnbglghindjaa
