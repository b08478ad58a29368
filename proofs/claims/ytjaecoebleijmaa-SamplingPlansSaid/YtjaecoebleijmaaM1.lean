import Derived.Test.YtjaecoebleijmaaC6
set_option linter.unusedVariables false
set_option linter.unusedSimpArgs false
namespace Go.Proofs.Ytjaecoebleijmaa
open Go.RowKit

theorem bd_wrong {m : Int} {l : List Int} (h : Bd m l) : l.any (wrongB m) = false := by
  rw [List.any_eq_false]
  intro x hx
  have := h x hx
  simp [wrongB]
  omega
theorem estOk_mk {n step first most : Int} {l : List Int} (hv : validB n step first = true) (h0 : 0 ≤ most) (h1 : most ≤ 1000000) (hl : l.length = cnt n step first) (hb : Bd most l) : estOk n step first most l = true := by
  unfold estOk
  rw [hv, decide_eq_true h0, decide_eq_true h1, decide_eq_true hl, bd_wrong hb]; rfl
theorem validB_mk {n step first : Int} (h1 : 1 ≤ n) (h2 : n ≤ 1000000) (h3 : 1 ≤ step) (h4 : step ≤ n) (h5 : 0 ≤ first) (h6 : first < step) : validB n step first = true := by
  unfold validB; simp; omega
theorem cnt_one (n : Nat) (h : 1 ≤ n) : cnt n 1 0 = n := by
  have h1 := cnt_iff (n := n) (step := 1) (first := 0) (by omega) (by omega) n
  have h2 := cnt_iff (n := n) (step := 1) (first := 0) (by omega) (by omega) (n - 1)
  omega

/-- A sublist's sum. -/
theorem sub_sum {M : Int} (hM : 0 ≤ M) {a b : List Int} (h : a.Sublist b) : Bd M b → a.sum ≤ b.sum ∧ b.sum + M * (a.length : Int) ≤ a.sum + M * (b.length : Int) := by
  induction h with
  | slnil => intro _; simp
  | cons x h ih =>
    intro hb
    have h1 := ih (fun y hy => hb y (by simp [hy]))
    have h2 := hb x (by simp)
    rw [List.sum_cons, List.length_cons, Int.natCast_add, Int.mul_add]
    simp
    omega
  | cons_cons x h ih =>
    intro hb
    have h1 := ih (fun y hy => hb y (by simp [hy]))
    rw [List.sum_cons, List.sum_cons, List.length_cons, List.length_cons, Int.natCast_add, Int.natCast_add, Int.mul_add, Int.mul_add]
    simp
    omega

theorem steps_sub (f s c B : Nat) (hs : 1 ≤ s) (h : ∀ k, k < c → f + k * s < B) : ((List.range c).map fun k => f + k * s).Sublist (List.range B) := by
  induction c generalizing B with
  | zero => simp
  | succ c ih =>
    rw [List.range_succ, List.map_append, List.map_singleton]
    have h1 := ih (f + c * s) (fun k hk => by
      have : (k + 1) * s ≤ c * s := Nat.mul_le_mul_right _ hk
      rw [Nat.add_mul] at this; omega)
    have h2 : (((List.range c).map fun k => f + k * s) ++ [f + c * s]).Sublist (List.range (f + c * s) ++ [f + c * s]) := List.Sublist.append h1 (List.Sublist.refl _)
    rw [← List.range_succ] at h2
    exact h2.trans (List.range_sublist.2 (h c (by omega)))

theorem chosen_vals {n : Nat} {step first : Int} (hv : validB n step first = true) (most : Int) (b : List Int) :
    pickL (valL n most b) (sq n step first) = ((List.range (cnt n step first)).map fun k => first.toNat + k * step.toNat).map (valAt most b) ∧ (pickL (valL n most b) (sq n step first)).length = cnt n step first ∧
    (pickL (valL n most b) (sq n step first)).Sublist (valL n most b) := by
  obtain ⟨v1, v2, v3, v4, v5, v6⟩ := valid_true hv
  have hidx : ∀ k, k < cnt n step first → first.toNat + k * step.toNat < n := fun k hk => by
    have h1 := (cnt_iff (by omega) (by omega) k).1 hk
    have h2 : ((first.toNat + k * step.toNat : Nat) : Int) = first + (k : Int) * step := by
      rw [Int.natCast_add, Int.natCast_mul, Int.toNat_of_nonneg v5, Int.toNat_of_nonneg (by omega)]
    omega
  have e : pickL (valL n most b) (sq n step first) = ((List.range (cnt n step first)).map fun k => first.toNat + k * step.toNat).map (valAt most b) := by
    unfold pickL sq
    rw [List.flatMap_map, List.map_map, ← List.flatMap_singleton' ((List.range (cnt n step first)).map _), List.flatMap_map]
    rw [List.flatMap_def, List.flatMap_def]
    congr 1
    apply List.map_congr_left
    intro k hk
    have hk' : k < cnt n step first := by simpa using hk
    have h1 := hidx k hk'
    have h2 : first + (k : Int) * step = ((first.toNat + k * step.toNat : Nat) : Int) := by
      rw [Int.natCast_add, Int.natCast_mul, Int.toNat_of_nonneg v5, Int.toNat_of_nonneg (by omega)]
    rw [h2, if_pos (by rw [valL_len]; omega)]
    simp only [Int.toNat_natCast]
    unfold valL
    rw [List.getD_eq_getElem?_getD, List.getElem?_map, List.getElem?_range h1]
    rfl
  refine ⟨e, by rw [e]; simp, ?_⟩
  rw [e]
  exact (steps_sub _ _ _ _ (by omega) hidx).map _

theorem est_ge {n step first : Int} (hv : validB n step first = true) {l : List Int} (h : 0 ≤ l.sum) : 1000 * l.sum ≤ est n step first l := by
  have c0 := cnt_pos hv
  have c1 := cnt_le hv
  unfold est
  rw [Int.le_ediv_iff_mul_le (by omega)]
  exact Int.mul_le_mul_of_nonneg_left c1 (by omega)
end Go.Proofs.Ytjaecoebleijmaa
