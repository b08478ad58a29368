import Derived.Test.YtaopfoicdjejnaaS2
set_option linter.unusedVariables false
set_option linter.unusedSimpArgs false
namespace Go.Proofs.Ytaopfoicdjejnaa
open Go.RowKit Go.Sort

section
variable {α : Type} {c0 : α → Value} {key : α → Int} {tag : α → Nat}

/-- A comparison of two structs: what it answers, and that it lays new blocks at most. -/
structure CmpC (f : Nat) (caps : Array Value) (c0 : α → Value) (cf : α → α → Int) (w0 : World) (g : Nat) : Prop where
  enters : ∀ args w, (callFunc f args).run Try.prog w = .ok (.enter f args) w
  calls : ∀ W, w0.grownBy W (some g) → ∀ x y, Calls Try.prog f (#[c0 x, c0 y] ++ caps) W fun e w' => e = .returned (.int .i64 (cf x y)) ∧ ∃ q os, w' = grow (W.drewN q) os

theorem mixed : Try.prog.follows .mixedOrders = true := by kernel_rfl

set_option maxHeartbeats 4000000 in
set_option maxRecDepth 100000 in
theorem insertion_c (h0 : ∀ x, Ifc (c0 x)) (f : Nat) (caps : Array Value) (cf : α → α → Int) (hcf : ∀ x y, cf x y < 0 ↔ key x < key y) (g n cap base : Nat) (A X B : List α) (a b : Nat) (w0 w : World) (R) (hn : n ≤ 1000000)
    (hC : CmpC f caps c0 cf w0 g) (S : St 57 1 (fun x => [c0 x]) w0 g n cap base (A ++ X ++ B) w) (ha : A.length = a) (hb : a + X.length = b) (hX : X.Pairwise (fun x y => tag x < tag y))
    (hR : ∀ w' X', X'.Perm X → Srt key tag X' → St 57 1 (fun x => [c0 x]) w0 g n cap base (A ++ X' ++ B) w' → R (.returned (.tuple #[])) w') :
    Calls Try.prog 50 #[.slice (some ⟨g, 0, none⟩) n cap, .int .i64 a, .int .i64 b, .func (.func f) #[] caps] w R := by
  have mx := mixed
  have HR := hide hR; have HS := hide S
  have hlen := S.len
  have hbn : b ≤ n := by simp at hlen; omega
  have hab0 : a ≤ b := by omega
  have Ha := hide ha; have Hb := hide hb; have HX := hide hX; have HC := hide hC; have Hcf := hide hcf
  cases X with
  | nil =>
    have hab : ¬ (a : Int) + 1 < (b : Int) := by have := Hb.out; simp at this; omega
    clear hR S hlen ha hb hX hC hcf
    go_enter Try.func50, Try.ntmps50
    go_wp2
    go_loop [8] (fun i => i = .int .i64 ((a : Int) + 1)) (fun _ => 0)
    case atStart => rfl
    case round =>
      subst hrel
      go_wp2
      go_end0
      exact HR.out _ [] (List.Perm.refl _) List.Pairwise.nil HS.out
  | cons x0 X0 =>
    clear hR S hlen ha hb hX hC hcf
    go_enter Try.func50, Try.ntmps50
    go_wp2
    go_loopw [8] (fun i wr => ∃ Y Z : List α, i = .int .i64 ((a : Int) + (Y.length : Int)) ∧ Hid (∃ X1, x0 :: X0 = X1 ++ Z ∧ Y.Perm X1 ∧ Srt key tag Y ∧ 0 < Y.length) ∧
        Hid (St 57 1 (fun x => [c0 x]) w0 g n cap base (A ++ Y ++ Z ++ B) wr)) (fun i _ => n - (intOf i).toNat)
    case atStart => exact ⟨[x0], X0, by simp, hide ⟨[x0], rfl, List.Perm.refl _, by simp [Srt], by simp⟩, hide (by simpa using HS.out)⟩
    case round =>
      clear HS
      obtain ⟨Y, Z, rfl, hp, HS⟩ := hrel
      have hlen := HS.out.len
      obtain ⟨X1, e1, pm, sy, y0⟩ := hp.out
      have hyz : Y.length + Z.length = (x0 :: X0).length := by rw [e1, List.length_append, pm.length_eq]
      have hYb : a + Y.length + Z.length = b := by have := Hb.out; omega
      cases Z with
      | nil =>
        have hnl : ¬ (a : Int) + (Y.length : Int) < (b : Int) := by simp at hYb; omega
        have hYn : a + Y.length ≤ 1000000 := by omega
        have HS2 := hide (show St 57 1 (fun x => [c0 x]) w0 g n cap base (A ++ Y ++ B) wr by simpa using HS.out)
        have Hpm := hide (show Y.Perm (x0 :: X0) by rw [e1]; simpa using pm)
        have Hsy := hide sy
        clear hlen e1 pm sy hyz hYb HS hp
        go_wp2
        go_end0
        exact HR.out _ Y Hpm.out Hsy.out HS2.out
      | cons x Z =>
        have hYb2 : a + Y.length < b := by simp at hYb; omega
        have Htag := hide (show ∀ y ∈ Y, tag y < tag x by
          intro y hy
          have h1 := HX.out
          rw [e1, List.pairwise_append] at h1
          exact h1.2.2 y (pm.mem_iff.1 hy) x (by simp))
        obtain ⟨i, hi⟩ : ∃ i, i = a + Y.length := ⟨_, rfl⟩
        have Hi := hide hi
        have hiz : (a : Int) + (Y.length : Int) = (i : Int) := by omega
        have Hy0 := hide y0
        have Hyb := hide hYb
        have Hsy := hide sy
        rw [hiz]
        rw [← hi] at hYb2
        have Hiz := hide hiz
        clear hlen e1 pm sy hyz hYb y0 hi hiz
        go_wp2
        go_loopw [9] (fun j wr => ∃ P S : List α, j = .int .i64 ((a : Int) + (P.length : Int)) ∧ Hid (Y = P ++ S ∧ (∀ s ∈ S, LtT key tag x s)) ∧
            Hid (St 57 1 (fun x => [c0 x]) w0 g n cap base (A ++ P ++ x :: (S ++ Z ++ B)) wr)) (fun j _ => (intOf j).toNat)
        case atStart => exact ⟨Y, [], by rw [Hiz.out], hide ⟨by simp, by simp⟩, hide (by simpa using HS.out)⟩
        case round =>
          clear HS
          obtain ⟨P, S, rfl, hq, HS⟩ := hrel
          have hPY : P.length ≤ Y.length := by rw [hq.out.1]; simp
          have hPi : a + P.length ≤ i := by have := Hi.out; omega
          have Hend : Hid (∀ w', (∀ p ∈ P, LtT key tag p x) → St 57 1 (fun x => [c0 x]) w0 g n cap base (A ++ P ++ x :: (S ++ Z ++ B)) w' →
              ∃ Y' Z', (i : Int) + 1 = (a : Int) + (Y'.length : Int) ∧ Hid (∃ X1, x0 :: X0 = X1 ++ Z' ∧ Y'.Perm X1 ∧ Srt key tag Y' ∧ 0 < Y'.length) ∧ Hid (St 57 1 (fun x => [c0 x]) w0 g n cap base (A ++ Y' ++ Z' ++ B) w')) := fun w' hP hS => by
            obtain ⟨X1, e1, pm, sy, y0⟩ := hp.out
            refine ⟨P ++ x :: S, Z, ?_, hide ⟨X1 ++ [x], by rw [e1]; simp, ?_, ?_, by simp; omega⟩, hide (by simpa using hS)⟩
            · have := Hi.out; rw [hq.out.1] at this; simp at this ⊢; omega
            · rw [hq.out.1] at pm
              exact (List.perm_middle.trans ((pm.cons x).trans (List.perm_append_singleton x X1).symm))
            · rw [hq.out.1] at sy
              exact sy.insert hP hq.out.2
          by_cases hP0 : P = []
          · subst hP0
            have hz : (a : Int) + (([] : List α).length : Int) = (a : Int) := by simp
            rw [hz]
            have hjaz : decide ((a : Int) > (a : Int)) = false := by simp
            have hS := hide (show St 57 1 (fun x => [c0 x]) w0 g n cap base (A ++ [] ++ x :: (S ++ Z ++ B)) (wr.drewN 1) from HS.out.drew)
            clear hz
            go_wp2_with fail
            go_quiet (fail)
            go_wp2
            go_roundw
            case rel =>
              obtain ⟨Y', Z', e1, e2, e3⟩ := Hend.out _ (by simp) (HS.out.drewN _)
              exact ⟨Y', Z', by rw [e1], e2, e3⟩
            case measure => simp [intOf]; omega
          · obtain ⟨P', p, rfl⟩ : ∃ P' p, P = P' ++ [p] := ⟨P.dropLast, P.getLast hP0, (List.dropLast_concat_getLast hP0).symm⟩
            obtain ⟨jp, hjp⟩ : ∃ jp, jp = a + P'.length := ⟨_, rfl⟩
            have hjz : (a : Int) + ((P' ++ [p]).length : Int) = (jp : Int) + 1 := by simp; omega
            rw [hjz]
            have hle : jp + 1 ≤ i := by simp at hPi; omega
            have hk : ∀ x : α, [c0 x].length = 1 := fun _ => rfl
            have S1 := HS.out
            rw [show A ++ (P' ++ [p]) ++ x :: (S ++ Z ++ B) = (A ++ P') ++ p :: [] ++ x :: (S ++ Z ++ B) by simp] at S1
            obtain ⟨p1, p2⟩ := at_parts (A ++ P') [] (S ++ Z ++ B) p x
            have hs := swap_parts (A ++ P') [] (S ++ Z ++ B) p x
            have hl1 : (A ++ P').length = jp := by have := Ha.out; simp; omega
            simp only [List.length_nil, Nat.add_zero] at p2 hs
            rw [hl1] at p1 p2 hs
            have f0 := fun q os => S1.cell_g hk p1 0 rfl q os
            have f1 := fun q os => S1.cell_g hk p2 0 rfl q os
            simp only [Nat.add_zero, Nat.mul_one] at f0 f1
            have hcg : ∀ q os, Calls Try.prog f (#[c0 x, c0 p] ++ caps) (grow (wr.drewN q) os) fun e w' => e = .returned (.int .i64 (cf x p)) ∧ ∃ q' os', w' = grow ((grow (wr.drewN q) os).drewN q') os' :=
              fun q os => HC.out.calls _ (grownBy_grow S1.grown q os) x p
            have he := HC.out.enters
            have hwp : IntKind.i64.wrap (jp : Int) = (jp : Int) := IntWalk.i64_in _ (by omega)
            have hwq : IntKind.i64.wrap ((jp : Int) + 1 - 1) = (jp : Int) := by rw [show (jp : Int) + 1 - 1 = (jp : Int) by omega]; exact IntWalk.i64_in _ (by omega)
            have jz : (jp : Int) + 1 < (n : Int) := by omega
            have jz1 : (jp : Int) < (n : Int) := by omega
            have hjaz : (a : Int) < (jp : Int) + 1 := by omega
            have p0 : (0 : Int) ≤ (jp : Int) + 1 := by omega
            have e0 : ((jp : Int) + 1).toNat = jp + 1 := by omega
            have S1' := hide S1
            have Hs := hide hs
            clear S1 hs p1 p2 HS hl1 hjz
            have Hjp := hide hjp
            clear hjp
            by_cases hlv : cf x p < 0
            · have Hlt := hide (LtT.of_key (tag := tag) ((Hcf.out x p).1 hlv))
              go_wp2_with fail
              go_quiet_grown (first | (go_at_fn f; refine Calls.grown_of (hcg _ _)))
              go_wp2_with fail
              have S2 := S1'.out.grow nq osq
              clear f0 f1 hcg
              generalize grow (wr.drewN nq) osq = w2 at S2 ⊢
              obtain ⟨p1, p2⟩ := at_parts (A ++ P') [] (S ++ Z ++ B) p x
              have hl1 : (A ++ P').length = jp := by have := Ha.out; have := Hjp.out; simp; omega
              simp only [List.length_nil, Nat.add_zero] at p2
              rw [hl1] at p1 p2
              have f0 := S2.cell hk p1 0 rfl
              have f1 := S2.cell hk p2 0 rfl
              simp only [Nat.add_zero, Nat.mul_one] at f0 f1
              have fz := fun j => S2.own.frozenAt j
              have hs := Hs.out
              rw [List.set_comm _ _ (by omega)] at hs
              have S3 := ((S2.put hk (jp + 1) p (by omega)).put hk jp x (by omega)).drew
              simp only [setW, Nat.mul_one] at S3
              rw [hs] at S3
              have HS3 := hide S3
              have i_x := h0 x; have i_p := h0 p; have z0 := st_run (P := Try.prog) (h0 x).one; have z1 := st_run (P := Try.prog) (h0 p).one
              have Hh0 := hide h0
              clear hs S2 S3 p1 p2 hl1 hlv he h0
              generalize c0 x = x0' at *
              obtain ⟨_, _, rfl⟩ := i_x
              generalize c0 p = p0' at *
              obtain ⟨_, _, rfl⟩ := i_p
              go_region
              all_goals go_wp2
              clear z0 z1 f0 f1 fz
              go_roundw
              case rel =>
                refine ⟨P', p :: S, ?_, hide ⟨?_, ?_⟩, hide ?_⟩
                · have := Hjp.out; apply congrArg (Value.int .i64); omega
                · rw [hq.out.1]; simp
                · intro s hs
                  rcases List.mem_cons.1 hs with rfl | hs
                  · exact Hlt.out
                  · exact hq.out.2 s hs
                · rw [show A ++ P' ++ x :: (p :: S ++ Z ++ B) = A ++ P' ++ x :: [] ++ p :: (S ++ Z ++ B) by simp]
                  exact HS3.out
              case measure => simp [intOf]; try omega
            · have Hlt := hide (LtT.of_tag (key := key) (tag := tag) (x := p) (y := x) (fun h => hlv ((Hcf.out x p).2 h)) (Htag.out p (by rw [hq.out.1]; simp)))
              go_wp2_with fail
              go_quiet_grown (first | (go_at_fn f; refine Calls.grown_of (hcg _ _)))
              go_wp2_with fail
              have S2 := S1'.out.grow nq osq
              clear f0 f1 hcg
              generalize grow (wr.drewN nq) osq = w2 at S2 ⊢
              go_roundw
              case rel =>
                have sy := Hsy.out
                rw [hq.out.1] at sy
                obtain ⟨Y', Z', e1, e2, e3⟩ := Hend.out w2 (sy.below_last Hlt.out) (by simpa using S2)
                exact ⟨Y', Z', by rw [e1], e2, e3⟩
              case measure => simp [intOf]; omega
end
end Go.Proofs.Ytaopfoicdjejnaa
