import Derived.Test.YtaopfoicdjejnaaS1
set_option linter.unusedVariables false
set_option linter.unusedSimpArgs false
namespace Go.Proofs.Ytaopfoicdjejnaa
open Go.RowKit Go.Sort

section
variable {α : Type} {c0 : α → Value}
set_option maxHeartbeats 4000000 in
set_option maxRecDepth 100000 in
theorem rotate_c (h0 : ∀ x, Ifc (c0 x)) (g n cap base : Nat) (fv : Value) (A X Y B : List α) (a m b : Nat) (w0 w : World) (R) (hn : n ≤ 1000000)
    (S : St 57 1 (fun x => [c0 x]) w0 g n cap base (A ++ X ++ Y ++ B) w) (ha : A.length = a) (hm : a + X.length = m) (hb : m + Y.length = b) (hx : 0 < X.length) (hy : 0 < Y.length)
    (hR : ∀ w', St 57 1 (fun x => [c0 x]) w0 g n cap base (A ++ Y ++ X ++ B) w' → R (.returned (.tuple #[])) w') :
    Calls Try.prog 52 #[.slice (some ⟨g, 0, none⟩) n cap, .int .i64 a, .int .i64 m, .int .i64 b, fv] w R := by
  have HR := hide hR; have HS := hide S
  have hlen := S.len
  have hbn : b ≤ n := by simp at hlen; omega
  have q1 : (m : Int) - (a : Int) = (X.length : Int) := by omega
  have q2 : (b : Int) - (m : Int) = (Y.length : Int) := by omega
  have hxb : X.length ≤ n := by omega
  have hyb : Y.length ≤ n := by omega
  have Ha := hide ha; have Hm := hide hm; have Hb := hide hb
  clear hR S hlen ha hm hb
  go_enter Try.func52, Try.ntmps52
  go_wp2
  go_loopw [10, 11] (fun i j wr => ∃ A' U V B' : List α, i = .int .i64 (U.length : Int) ∧ j = .int .i64 (V.length : Int) ∧ Hid (0 < U.length ∧ 0 < V.length ∧ A'.length + U.length = m ∧ A' ++ V ++ U ++ B' = A ++ Y ++ X ++ B) ∧
      Hid (St 57 1 (fun x => [c0 x]) w0 g n cap base (A' ++ U ++ V ++ B') wr)) (fun i j _ => (intOf i).toNat + (intOf j).toNat)
  case atStart => exact ⟨A, X, Y, B, rfl, rfl, hide ⟨hx, hy, by have := Ha.out; have := Hm.out; omega, rfl⟩, HS⟩
  case round =>
    clear HS q1 q2
    obtain ⟨A', U, V, B', rfl, rfl, hp, HS⟩ := hrel
    have hlen := HS.out.len
    have hp2 := hp.out
    have hL : A'.length + U.length + V.length + B'.length = n := by simp at hlen; omega
    obtain ⟨u, hu⟩ : ∃ u, u = U.length := ⟨_, rfl⟩
    obtain ⟨v, hv⟩ : ∃ v, v = V.length := ⟨_, rfl⟩
    rw [← hu] at hp2 hL ⊢
    rw [← hv] at hp2 hL ⊢
    obtain ⟨k1, k2, k3, k4⟩ := hp2
    have HL := hide hL
    have hub : u ≤ n := by omega
    have hvb : v ≤ n := by omega
    have hum : u ≤ m := by omega
    have hmb : m + v ≤ n := by omega
    have Hu := hide hu; have Hv := hide hv; have K3 := hide k3; have K4 := hide k4
    clear hu hv hlen hL k3 k4
    rcases Nat.lt_trichotomy u v with hlt | heq | hgt
    · have h3 : ((u : Int) != (v : Int)) = true := by simp; omega
      have h4 : ¬ (v : Int) < (u : Int) := by omega
      go_wp2_with (go_at_call 53; refine Stop.out ?_)
      rw [show (m : Int) - (u : Int) = (A'.length : Int) by have := K3.out; omega, show (m : Int) + (v : Int) - (u : Int) = ((m + v - u : Nat) : Int) by omega]
      have e : V = V.take (v - u) ++ V.drop (v - u) := (List.take_append_drop _ _).symm
      have l1 : (V.take (v - u)).length = v - u := by rw [List.length_take]; have := Hv.out; omega
      have l2 : (V.drop (v - u)).length = u := by rw [List.length_drop]; have := Hv.out; omega
      refine Stop.go (swapRange_c h0 g n cap base _ A' U (V.take (v - u)) (V.drop (v - u)) B' _ _ u w0 _ _ hn ?_ rfl ?_ Hu.out.symm l2 ?_)
      · have := HS.out; rw [e] at this; simpa using this
      · have := K3.out; have := Hu.out; simp only [List.length_append, l1]; omega
      intro w' S'
      have HS' := hide S'
      have Hl := hide (And.intro l1 l2)
      have He := hide e
      clear S' l1 l2 e
      have h5 : (v : Int) - (u : Int) = ((v - u : Nat) : Int) := by omega
      have h6 : 0 < v - u := by omega
      go_wp2
      go_roundw
      case rel =>
        refine ⟨A', V.drop (v - u), V.take (v - u), U ++ B', by rw [Hl.out.2], by rw [Hl.out.1], hide ⟨by rw [Hl.out.2]; exact k1, by rw [Hl.out.1]; exact h6, by rw [Hl.out.2]; exact K3.out, ?_⟩, hide ?_⟩
        · rw [← K4.out]; conv => rhs; rw [He.out]
          simp
        · simpa using HS'.out
      case measure => simp [intOf]; omega
    · subst heq
      have h3 : ((u : Int) != (u : Int)) = false := by simp
      go_wp2_with (go_at_call 53; refine Stop.out ?_)
      rw [show (m : Int) - (u : Int) = (A'.length : Int) by have := K3.out; omega]
      refine Stop.go (swapRange_c h0 g n cap base _ A' U [] V B' _ _ u w0 _ _ hn ?_ rfl ?_ Hu.out.symm Hv.out.symm ?_)
      · simpa using HS.out
      · have := K3.out; have := Hu.out; simp; omega
      intro w' S'
      have HS' := hide (show St 57 1 (fun x => [c0 x]) w0 g n cap base (A ++ Y ++ X ++ B) w' by rw [← K4.out]; simpa using S')
      clear S'
      go_wp2
      go_end0
      exact HR.out _ HS'.out
    · have h3 : ((u : Int) != (v : Int)) = true := by simp; omega
      have h4 : (v : Int) < (u : Int) := by omega
      go_wp2_with (go_at_call 53; refine Stop.out ?_)
      rw [show (m : Int) - (u : Int) = (A'.length : Int) by have := K3.out; omega]
      have e : U = U.take v ++ U.drop v := (List.take_append_drop _ _).symm
      have l1 : (U.take v).length = v := by rw [List.length_take]; have := Hu.out; omega
      have l2 : (U.drop v).length = u - v := by rw [List.length_drop]; have := Hu.out; omega
      refine Stop.go (swapRange_c h0 g n cap base _ A' (U.take v) (U.drop v) V B' _ _ v w0 _ _ hn ?_ rfl ?_ l1 Hv.out.symm ?_)
      · have := HS.out; rw [e] at this; simpa using this
      · have := K3.out; have := Hu.out; simp; omega
      intro w' S'
      have HS' := hide S'
      have Hl := hide (And.intro l1 l2)
      have He := hide e
      clear S' l1 l2 e
      have h5 : (u : Int) - (v : Int) = ((u - v : Nat) : Int) := by omega
      have h6 : 0 < u - v := by omega
      go_wp2
      go_roundw
      case rel =>
        refine ⟨A' ++ V, U.drop v, U.take v, B', by rw [Hl.out.2], by rw [Hl.out.1], hide ⟨by rw [Hl.out.2]; exact h6, by rw [Hl.out.1]; exact k2, by rw [Hl.out.2, List.length_append]; have := K3.out; have := Hv.out; omega, ?_⟩, hide ?_⟩
        · rw [← K4.out]; conv => rhs; rw [He.out]
          simp
        · simpa using HS'.out
      case measure => simp [intOf]; omega
end
end Go.Proofs.Ytaopfoicdjejnaa
