/- Plain: what entries do to the balances; what settling does. -/
import Derived.Test.YtajnoocjjkjfmaaP2
import Derived.Test.YtajnoocjjkjfmaaP3
import Derived.Test.YtajnoocjjkjfmaaP4
set_option linter.unusedVariables false
set_option linter.unusedSimpArgs false
namespace Go.Proofs.Ytajnoocjjkjfmaa
open Go.RowKit

theorem netF_cons (e : Ent) (l : List Ent) (i : Int) : netF (e :: l) i = ent1 e i + netF l i := by simp [netF]
theorem netF_append (l m : List Ent) (i : Int) : netF (l ++ m) i = netF l i + netF m i := by simp [netF]
theorem netF_reverse (l : List Ent) (i : Int) : netF l.reverse i = netF l i := by
  induction l with
  | nil => rfl
  | cons e l ih => rw [List.reverse_cons, netF_append, ih, netF_cons]; simp [netF]; omega
theorem sum_single (n : Nat) (k : Int) (a : Int) (h0 : 0 ≤ k) (h1 : k < n) : ((List.range n).map fun (i : Nat) => if k = (i : Int) then a else 0).sum = a := by
  obtain ⟨m, rfl⟩ := Int.eq_ofNat_of_zero_le h0
  induction n with
  | zero => omega
  | succ n ih =>
    rw [List.range_succ, List.map_append, List.sum_append_int]
    rcases Nat.lt_or_ge m n with h | h
    · rw [ih (by omega)]
      simp only [List.map_cons, List.map_nil, List.sum_cons, List.sum_nil]
      rw [if_neg (by omega)]; omega
    · have hz : ((List.range n).map fun (i : Nat) => if (m : Int) = (i : Int) then a else 0) = (List.range n).map fun _ => (0 : Int) := List.map_congr_left fun i hi => by
        have : i < n := by simpa using hi
        rw [if_neg (by omega)]
      rw [hz, sum_const]
      simp only [List.map_cons, List.map_nil, List.sum_cons, List.sum_nil]
      rw [if_pos (by omega)]; omega
theorem net_sum (n : Nat) (l : List Ent) (h : l.all (validE n) = true) : ((List.range n).map fun (i : Nat) => netF l (i : Int)).sum = 0 := by
  induction l with
  | nil => simp only [netF, List.map_nil, List.sum_nil]; rw [sum_const]; omega
  | cons e l ih =>
    rw [List.all_cons, Bool.and_eq_true] at h
    have h1 := ih h.2
    obtain ⟨_, v2, v3, _, _, _⟩ := validE_true h.1
    have hf := inB_true v2; have ht := inB_true v3
    have e1 : (List.range n).map (fun (i : Nat) => netF (e :: l) (i : Int)) = (List.range n).map fun (i : Nat) => ((if e.to_ = (i : Int) then e.am else 0) + -(if e.fr = (i : Int) then e.am else 0)) + netF l (i : Int) := List.map_congr_left fun i _ => by
      rw [netF_cons]; unfold ent1; omega
    rw [e1, sum_map_add (fun (i : Nat) => (if e.to_ = (i : Int) then e.am else 0) + -(if e.fr = (i : Int) then e.am else 0)) (fun (i : Nat) => netF l (i : Int)), h1,
      sum_map_add (fun (i : Nat) => if e.to_ = (i : Int) then e.am else 0) (fun (i : Nat) => -(if e.fr = (i : Int) then e.am else 0)), sum_single n e.to_ e.am ht.1 (by omega)]
    have e2 : (List.range n).map (fun (i : Nat) => -(if e.fr = (i : Int) then e.am else 0)) = (List.range n).map fun (i : Nat) => (-1) * (if e.fr = (i : Int) then e.am else 0) := List.map_congr_left fun i _ => by omega
    rw [e2, sum_map_mul (-1) (fun (i : Nat) => if e.fr = (i : Int) then e.am else 0), sum_single n e.fr e.am hf.1 (by omega)]
    omega
theorem balE_le {n : Int} {l : List Ent} (hl : l.length ≤ 1000) : (balOk n l = true ∧ balE n l = 0) ∨ (balOk n l = false ∧ balE n l = 1 ∧ balL n l = []) := by
  cases h : balOk n l with
  | true => left; unfold balE; rw [if_pos h, if_neg (by omega)]; exact ⟨rfl, rfl⟩
  | false =>
    right
    have e : balE n l = 1 := by unfold balE; rw [if_neg (by rw [h]; decide)]
    refine ⟨rfl, e, ?_⟩
    unfold balL; rw [if_neg (by rw [e]; decide)]
theorem balL_ok {n : Int} {l : List Ent} (h : balE n l = 0) : balL n l = (List.range n.toNat).map fun (i : Nat) => netF l (i : Int) := if_pos h
theorem balOk_append {n : Int} {l m : List Ent} (h : balOk n l = true) (k : balOk n m = true) : balOk n (l ++ m) = true := by
  unfold balOk at *
  rw [Bool.and_eq_true] at *
  refine ⟨h.1, ?_⟩
  rw [List.all_append, h.2, k.2]; rfl
theorem balOk_reverse {n : Int} {l : List Ent} (h : balOk n l = true) : balOk n l.reverse = true := by
  unfold balOk at *
  rw [List.all_reverse]; exact h

theorem zero_max : ∀ l : List Int, (∀ x ∈ l, x = 0) → (l.map fun x => max x 0).sum = 0 := by
  intro l
  induction l with
  | nil => intro _; rfl
  | cons x l ih => intro h; simp only [List.map_cons, List.sum_cons]; rw [h x (by simp), ih (fun y hy => h y (by simp [hy]))]; rfl
/-- What holds of the entries that settle differences. -/
theorem settle_props (ref : ByteArray) (M : Int) : ∀ (k : Nat) (d : List Int), nz d ≤ k → d.sum = 0 → (∀ t, -M ≤ d.getD t 0 ∧ d.getD t 0 ≤ M) →
    (∀ e ∈ settleL ref d, 0 ≤ e.fr ∧ e.fr < d.length ∧ 0 ≤ e.to_ ∧ e.to_ < d.length ∧ e.fr ≠ e.to_ ∧ 1 ≤ e.am ∧ e.am ≤ M ∧ d.getD e.fr.toNat 0 < 0 ∧ 0 < d.getD e.to_.toNat 0 ∧ e.ref = ref) ∧
    (∀ i : Nat, netF (settleL ref d) i = d.getD i 0) ∧ ((settleL ref d).length = 0 ∨ (settleL ref d).length + 1 ≤ nz d) ∧ ((settleL ref d).map Ent.am).sum = (d.map fun x => max x 0).sum := by
  intro k
  induction k with
  | zero =>
    intro d hz hs hb
    have hh : halt d = true := by
      cases h : halt d with
      | true => rfl
      | false => have := nxt_nz h; omega
    rw [settleL_halt hh]
    have h0 := zero_of_halt hs hh
    refine ⟨by simp, fun i => by rw [h0]; rfl, .inl rfl, ?_⟩
    rw [zero_max d (fun x hx => by obtain ⟨i, hi⟩ := List.getElem?_of_mem hx; have := h0 i; rw [getD_of hi] at this; exact this)]
    rfl
  | succ k ih =>
    intro d hz hs hb
    cases hh : halt d with
    | true =>
      rw [settleL_halt hh]
      have h0 := zero_of_halt hs hh
      refine ⟨by simp, fun i => by rw [h0]; rfl, .inl rfl, ?_⟩
      have : ∀ l : List Int, (∀ x ∈ l, x = 0) → (l.map fun x => max x 0).sum = 0 := by
        intro l
        induction l with
        | nil => intro _; rfl
        | cons x l ih => intro h; simp only [List.map_cons, List.sum_cons]; rw [h x (by simp), ih (fun y hy => h y (by simp [hy]))]; rfl
      rw [this d (fun x hx => by obtain ⟨i, hi⟩ := List.getElem?_of_mem hx; have := h0 i; rw [getD_of hi] at this; exact this)]
      rfl
    | false =>
      have h1 := nxt_nz hh
      obtain ⟨i1, i2, i3, i4⟩ := ih (nxt d) (by omega) (by rw [sum_nxt hh]; exact hs) (bd_nxt hh hb)
      obtain ⟨g1, g2, g3, g4⟩ := halt_false hh
      have hn := negI_at d g1; have hp := posI_at d g2
      have bn := hb (negI d); have bp := hb (posI d)
      rw [settleL_step hh]
      refine ⟨fun e he => ?_, fun i => ?_, .inr ?_, ?_⟩
      · rcases List.mem_cons.1 he with rfl | he
        · refine ⟨by simp [nextE], by simp [nextE]; omega, by simp [nextE], by simp [nextE]; omega, by simp [nextE]; omega, by simp [nextE]; omega, ?_, by simpa [nextE] using hn, by simpa [nextE] using hp, rfl⟩
          show amt d ≤ M
          unfold amt; omega
        · obtain ⟨j1, j2, j3, j4, j5, j6, j7, j8, j9, j10⟩ := i1 e he
          rw [nxt_len] at j2 j4
          refine ⟨j1, j2, j3, j4, j5, j6, j7, ?_, ?_, j10⟩
          · rw [nxt_getD hh] at j8
            split at j8
            · unfold amt at j8; omega
            · split at j8
              · rename_i h; rw [h]; exact hn
              · exact j8
          · rw [nxt_getD hh] at j9
            split at j9
            · rename_i h; rw [h]; exact hp
            · split at j9
              · unfold amt at j9; omega
              · exact j9
      · rw [netF_cons, i2, nxt_getD hh]
        unfold ent1 nextE
        simp only
        by_cases e1 : i = posI d
        · subst e1; rw [if_pos rfl, if_pos rfl, if_neg (by omega)]; omega
        · rw [if_neg e1, if_neg (show ¬ (posI d : Int) = (i : Int) by omega)]
          by_cases e2 : i = negI d
          · subst e2; rw [if_pos rfl, if_pos rfl]; omega
          · rw [if_neg e2, if_neg (show ¬ (negI d : Int) = (i : Int) by omega)]; omega
      · rw [List.length_cons]
        rcases i3 with h | h
        · rw [h]
          have : 2 ≤ nz d := by
            have a1 := nz_set_zero d (negI d) (by omega)
            have a2 : (d.set (negI d) 0).getD (posI d) 0 ≠ 0 := by rw [getD_set _ _ _ _ g1, if_neg g3]; omega
            have a3 := nz_set_zero (d.set (negI d) 0) (posI d) a2
            omega
          omega
        · omega
      · rw [List.map_cons, List.sum_cons, i4]
        have e1 : (d.map fun x => max x 0).sum = ((nxt d).map fun x => max x 0).sum + amt d := by
          unfold nxt
          rw [List.map_set, sum_set _ _ _ (by simpa using g2), List.map_set, sum_set _ _ _ (by simpa using g1), getD_set _ _ _ _ (by simpa using g1), if_neg g3]
          have m1 : (d.map fun x => max x 0).getD (negI d) 0 = max (d.getD (negI d) 0) 0 := by
            rw [List.getD_eq_getElem?_getD, List.getD_eq_getElem?_getD, List.getElem?_map, List.getElem?_eq_getElem g1]; rfl
          have m2 : (d.map fun x => max x 0).getD (posI d) 0 = max (d.getD (posI d) 0) 0 := by
            rw [List.getD_eq_getElem?_getD, List.getD_eq_getElem?_getD, List.getElem?_map, List.getElem?_eq_getElem g2]; rfl
          rw [m1, m2]
          have : amt d ≤ -(d.getD (negI d) 0) ∧ amt d ≤ d.getD (posI d) 0 := by unfold amt; omega
          omega
        rw [e1]
        show amt d + _ = _
        omega
end Go.Proofs.Ytajnoocjjkjfmaa
