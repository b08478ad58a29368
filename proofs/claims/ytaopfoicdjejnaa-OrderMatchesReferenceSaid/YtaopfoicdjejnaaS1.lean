import Derived.Test.YtaopfoicdjejnaaChecked
import Derived.Test.YtaopfoicdjejnaaSrt
import Derived.Shelf.SlSortCmp.QuietGrown
import Derived.BigRegion
import Derived.IntWalk
set_option linter.unusedVariables false
set_option linter.unusedSimpArgs false
namespace Go.Proofs.Ytaopfoicdjejnaa
open Go.RowKit Go.Sort

section
variable {α : Type} {c0 : α → Value}
/-- One exchange in a list, spelled by its parts. -/
theorem swap_parts {β : Type} (P Q S : List β) (x y : β) : ((P ++ x :: Q ++ y :: S).set P.length y).set (P.length + 1 + Q.length) x = P ++ y :: Q ++ x :: S := by
  rw [List.append_assoc, List.set_append_right _ _ (Nat.le_refl _), Nat.sub_self]
  simp only [List.cons_append, List.set_cons_zero]
  rw [List.set_append_right _ _ (by omega), show P.length + 1 + Q.length - P.length = Q.length + 1 by omega, List.set_cons_succ, List.set_append_right _ _ (Nat.le_refl _), Nat.sub_self]
  simp
theorem at_parts {β : Type} (P Q S : List β) (x y : β) : (P ++ x :: Q ++ y :: S)[P.length]? = some x ∧ (P ++ x :: Q ++ y :: S)[P.length + 1 + Q.length]? = some y := by
  constructor
  · rw [List.append_assoc, List.getElem?_append_right (Nat.le_refl _)]; simp
  · rw [List.append_assoc, List.getElem?_append_right (by omega), show P.length + 1 + Q.length - P.length = Q.length + 1 by omega, List.cons_append, List.getElem?_cons_succ, List.getElem?_append_right (Nat.le_refl _)]; simp

set_option maxHeartbeats 4000000 in
set_option maxRecDepth 100000 in
theorem swapRange_c (h0 : ∀ x, Ifc (c0 x)) (g n cap base : Nat) (fv : Value) (A U M V B : List α) (a b m : Nat) (w0 w : World) (R) (hn : n ≤ 1000000)
    (S : St 57 1 (fun x => [c0 x]) w0 g n cap base (A ++ U ++ M ++ V ++ B) w) (ha : A.length = a) (hb : (A ++ U ++ M).length = b) (hu : U.length = m) (hv : V.length = m)
    (hR : ∀ w', St 57 1 (fun x => [c0 x]) w0 g n cap base (A ++ V ++ M ++ U ++ B) w' → R (.returned (.tuple #[])) w') :
    Calls Try.prog 53 #[.slice (some ⟨g, 0, none⟩) n cap, .int .i64 a, .int .i64 b, .int .i64 m, fv] w R := by
  have HR := hide hR; have HS := hide S; have HA := hide ha; have HB := hide hb; have HU := hide hu; have HV := hide hv
  have hlen := S.len
  have hbb : a + m ≤ b ∧ b + m ≤ n := by simp at hlen hb; omega
  clear hR S ha hb hu hv hlen
  go_enter Try.func53, Try.ntmps53
  go_wp2
  go_loopw [10] (fun i wr => ∃ U1 U2 V1 V2 : List α, Hid (U = U1 ++ U2 ∧ V = V1 ++ V2 ∧ U1.length = V1.length ∧ V1.length ≤ m) ∧ i = .int .i64 (V1.length : Int) ∧ Hid (St 57 1 (fun x => [c0 x]) w0 g n cap base (A ++ V1 ++ U2 ++ M ++ U1 ++ V2 ++ B) wr)) (fun i _ => m - (intOf i).toNat)
  case atStart => exact ⟨[], U, [], V, hide ⟨rfl, rfl, rfl, Nat.zero_le _⟩, rfl, hide (by simpa using HS.out)⟩
  case round =>
    clear HS
    obtain ⟨U1, U2, V1, V2, hp, rfl, HS⟩ := hrel
    by_cases hlt : V1.length < m
    · obtain ⟨x, U3, rfl⟩ : ∃ x U3, U2 = x :: U3 := by
        cases U2 with
        | nil => have := hp.out.1; have := HU.out; have := hp.out.2.2.1; simp_all
        | cons x U3 => exact ⟨x, U3, rfl⟩
      obtain ⟨y, V3, rfl⟩ : ∃ y V3, V2 = y :: V3 := by
        cases V2 with
        | nil => have := hp.out.2.1; have := HV.out; simp_all
        | cons y V3 => exact ⟨y, V3, rfl⟩
      have hl1 : (A ++ V1).length = a + V1.length := by have := HA.out; simp; omega
      have hl2 : (A ++ V1).length + 1 + (U3 ++ M ++ U1).length = b + V1.length := by
        have e1 := HA.out; have e2 := HB.out; have e3 := hp.out; have e4 := HU.out
        rw [e3.1] at e4 e2
        simp at e2 e4 ⊢
        omega
      have S1 := HS.out
      rw [show A ++ V1 ++ x :: U3 ++ M ++ U1 ++ y :: V3 ++ B = (A ++ V1) ++ x :: (U3 ++ M ++ U1) ++ y :: (V3 ++ B) by simp] at S1
      obtain ⟨p1, p2⟩ := at_parts (A ++ V1) (U3 ++ M ++ U1) (V3 ++ B) x y
      have hs := swap_parts (A ++ V1) (U3 ++ M ++ U1) (V3 ++ B) x y
      rw [hl2] at p2 hs
      rw [hl1] at p1 hs
      have hk : ∀ x : α, [c0 x].length = 1 := fun _ => rfl
      have S2 := ((S1.put hk (a + V1.length) y (by omega)).put hk (b + V1.length) x (by omega)).drew
      simp only [setW, Nat.mul_one] at S2
      rw [hs] at S2
      have f0 := S1.cell hk p1 0 rfl
      have f1 := S1.cell hk p2 0 rfl
      have fz := fun j => S1.own.frozenAt j
      have S3 := hide S2
      have Hh0 := hide h0
      have i_x := h0 x; have i_y := h0 y; have z0 := st_run (P := Try.prog) (h0 x).one; have z1 := st_run (P := Try.prog) (h0 y).one
      clear S1 S2 hs p1 p2 HS hl1 hl2 h0
      obtain ⟨i, hi⟩ : ∃ i, i = V1.length := ⟨_, rfl⟩
      rw [← hi] at f0 f1 hlt ⊢
      have Hi := hide hi
      clear hi
      generalize c0 x = x0 at *
      obtain ⟨_, _, rfl⟩ := i_x
      generalize c0 y = y0 at *
      obtain ⟨_, _, rfl⟩ := i_y
      simp only [Nat.add_zero, Nat.mul_one] at f0 f1
      go_wp2
      go_region
      all_goals go_wp2
      clear z0 z1 f0 f1 fz
      go_roundw
      case rel =>
        refine ⟨U1 ++ [x], U3, V1 ++ [y], V3, hide ?_, ?_, hide ?_⟩
        · have := hp.out
          have h2 := Hi.out
          refine ⟨by rw [this.1]; simp, by rw [this.2.1]; simp, by simp; omega, by simp; omega⟩
        · rw [List.length_append]; have := Hi.out; simp; omega
        · have h3 := S3.out
          rw [← Hi.out] at h3
          rw [show A ++ (V1 ++ [y]) ++ U3 ++ M ++ (U1 ++ [x]) ++ V3 ++ B = (A ++ V1) ++ y :: (U3 ++ M ++ U1) ++ x :: (V3 ++ B) by simp]
          exact h3
      case measure => simp [intOf]; omega
    · have hj : V1.length = m := by have := hp.out; omega
      have e2 : U2 = [] := by
        have := hp.out; have := HU.out; rw [hp.out.1] at this; simp at this
        exact List.eq_nil_of_length_eq_zero (by omega)
      have e3 : V2 = [] := by
        have := HV.out; rw [hp.out.2.1] at this; simp at this
        exact List.eq_nil_of_length_eq_zero (by omega)
      subst e2; subst e3
      have S1 := HS.out
      rw [← (show U = U1 by rw [hp.out.1]; simp), ← (show V = V1 by rw [hp.out.2.1]; simp)] at S1
      have S2 := hide (show St 57 1 (fun x => [c0 x]) w0 g n cap base (A ++ V ++ M ++ U ++ B) wr by simpa using S1)
      clear S1 HS
      have Hj := hide hj
      have hj2 : ¬ ((V1.length : Int) < (m : Int)) := by omega
      go_wp2
      go_end0
      exact HR.out _ S2.out
end
end Go.Proofs.Ytaopfoicdjejnaa
