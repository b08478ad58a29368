/-  -/
import Derived.Test.YtkabghifdedmfaaGreatDoorB11
set_option linter.unusedVariables false
set_option linter.unusedSimpArgs false
namespace Go.Proofs.YtkabghifdedmfaaGreatDoor
open Go.RowKit Go.Sort

section
variable {α : Type} {c0 c1 c2 c3 c4 c5 : α → Value} {key : α → Int} {tag : α → Nat}

/-- A comparison of two structs: what it answers, and that it lays new blocks at most. -/
structure CmpC (f : Nat) (caps : Array Value) (c0 c1 c2 c3 c4 c5 : α → Value) (cf : α → α → Int) (w0 : World) (g : Nat) : Prop where
  enters : ∀ args w, (callFunc f args).run Tryz.prog w = .ok (.enter f args) w
  calls : ∀ W, w0.grownBy W (some g) → ∀ x y, Calls Tryz.prog f (#[.agg #[c0 x, c1 x, c2 x, c3 x, c4 x, c5 x], .agg #[c0 y, c1 y, c2 y, c3 y, c4 y, c5 y]] ++ caps) W fun e w' => e = .returned (.int .i64 (cf x y)) ∧ ∃ q os, w' = grow (W.drewN q) os

theorem mixed : Tryz.prog.follows .mixedOrders = true := by kernel_rfl

set_option maxHeartbeats 4000000 in
set_option maxRecDepth 100000 in
theorem insertion_c (h0 : ∀ x, (c0 x).oneCell' = true) (h1 : ∀ x, (c1 x).oneCell' = true) (hcell2 : ∀ x, (c2 x).oneCell' = true) (hcell3 : ∀ x, (c3 x).oneCell' = true) (hcell4 : ∀ x, (c4 x).oneCell' = true) (hcell5 : ∀ x, (c5 x).oneCell' = true) (f : Nat) (caps : Array Value) (cf : α → α → Int) (hcf : ∀ x y, cf x y < 0 ↔ key x < key y) (g n cap base : Nat) (A X B : List α) (a b : Nat) (w0 w : World) (R) (hn : n ≤ 1000000)
    (hC : CmpC f caps c0 c1 c2 c3 c4 c5 cf w0 g) (S : St 32 6 (fun x => [c0 x, c1 x, c2 x, c3 x, c4 x, c5 x]) w0 g n cap base (A ++ X ++ B) w) (ha : A.length = a) (hb : a + X.length = b) (hX : X.Pairwise (fun x y => tag x < tag y))
    (hR : ∀ w' X', X'.Perm X → Srt key tag X' → St 32 6 (fun x => [c0 x, c1 x, c2 x, c3 x, c4 x, c5 x]) w0 g n cap base (A ++ X' ++ B) w' → R (.returned (.tuple #[])) w') :
    Calls Tryz.prog 103 #[.slice (some ⟨g, 0, none⟩) n cap, .int .i64 a, .int .i64 b, .func (.func f) #[] caps] w R := by
  have mx := mixed
  have HR := hide hR; have HS := hide S
  have hlen := S.len
  have hbn : b ≤ n := by simp at hlen; omega
  have hab0 : a ≤ b := by omega
  have Ha := hide ha; have Hb := hide hb; have HX := hide hX; have HC := hide hC; have Hcf := hide hcf
  cases X with
  | nil =>
    have hab : ¬ (a : Int) + 1 < (b : Int) := by have := Hb.out; simp at this; omega
    clear hR S hlen ha hb hX hC hcf
    go_enter Tryz.func103, Tryz.ntmps103
    go_wp2
    go_loop [8] (fun i => i = .int .i64 ((a : Int) + 1)) (fun _ => 0)
    case atStart => rfl
    case round =>
      subst hrel
      go_wp2
      go_end0
      exact HR.out _ [] (List.Perm.refl _) List.Pairwise.nil HS.out
  | cons x0 X0 =>
    clear hR S hlen ha hb hX hC hcf
    go_enter Tryz.func103, Tryz.ntmps103
    go_wp2
    go_loopw [8] (fun i wr => ∃ Y Z : List α, i = .int .i64 ((a : Int) + (Y.length : Int)) ∧ Hid (∃ X1, x0 :: X0 = X1 ++ Z ∧ Y.Perm X1 ∧ Srt key tag Y ∧ 0 < Y.length) ∧
        Hid (St 32 6 (fun x => [c0 x, c1 x, c2 x, c3 x, c4 x, c5 x]) w0 g n cap base (A ++ Y ++ Z ++ B) wr)) (fun i _ => n - (intOf i).toNat)
    case atStart => exact ⟨[x0], X0, by simp, hide ⟨[x0], rfl, List.Perm.refl _, by simp [Srt], by simp⟩, hide (by simpa using HS.out)⟩
    case round =>
      clear HS
      obtain ⟨Y, Z, rfl, hp, HS⟩ := hrel
      have hlen := HS.out.len
      obtain ⟨X1, e1, pm, sy, y0⟩ := hp.out
      have hyz : Y.length + Z.length = (x0 :: X0).length := by rw [e1, List.length_append, pm.length_eq]
      have hYb : a + Y.length + Z.length = b := by have := Hb.out; omega
      cases Z with
      | nil =>
        have hnl : ¬ (a : Int) + (Y.length : Int) < (b : Int) := by simp at hYb; omega
        have hYn : a + Y.length ≤ 1000000 := by omega
        have HS2 := hide (show St 32 6 (fun x => [c0 x, c1 x, c2 x, c3 x, c4 x, c5 x]) w0 g n cap base (A ++ Y ++ B) wr by simpa using HS.out)
        have Hpm := hide (show Y.Perm (x0 :: X0) by rw [e1]; simpa using pm)
        have Hsy := hide sy
        clear hlen e1 pm sy hyz hYb HS hp
        go_wp2
        go_end0
        exact HR.out _ Y Hpm.out Hsy.out HS2.out
      | cons x Z =>
        have hYb2 : a + Y.length < b := by simp at hYb; omega
        have Htag := hide (show ∀ y ∈ Y, tag y < tag x by
          intro y hy
          have h1 := HX.out
          rw [e1, List.pairwise_append] at h1
          exact h1.2.2 y (pm.mem_iff.1 hy) x (by simp))
        obtain ⟨i, hi⟩ : ∃ i, i = a + Y.length := ⟨_, rfl⟩
        have Hi := hide hi
        have hiz : (a : Int) + (Y.length : Int) = (i : Int) := by omega
        have Hy0 := hide y0
        have Hyb := hide hYb
        have Hsy := hide sy
        rw [hiz]
        rw [← hi] at hYb2
        have Hiz := hide hiz
        clear hlen e1 pm sy hyz hYb y0 hi hiz
        go_wp2
        go_loopw [9] (fun j wr => ∃ P S : List α, j = .int .i64 ((a : Int) + (P.length : Int)) ∧ Hid (Y = P ++ S ∧ (∀ s ∈ S, LtT key tag x s)) ∧
            Hid (St 32 6 (fun x => [c0 x, c1 x, c2 x, c3 x, c4 x, c5 x]) w0 g n cap base (A ++ P ++ x :: (S ++ Z ++ B)) wr)) (fun j _ => (intOf j).toNat)
        case atStart => exact ⟨Y, [], by rw [Hiz.out], hide ⟨by simp, by simp⟩, hide (by simpa using HS.out)⟩
        case round =>
          clear HS
          obtain ⟨P, S, rfl, hq, HS⟩ := hrel
          have hPY : P.length ≤ Y.length := by rw [hq.out.1]; simp
          have hPi : a + P.length ≤ i := by have := Hi.out; omega
          have Hend : Hid (∀ w', (∀ p ∈ P, LtT key tag p x) → St 32 6 (fun x => [c0 x, c1 x, c2 x, c3 x, c4 x, c5 x]) w0 g n cap base (A ++ P ++ x :: (S ++ Z ++ B)) w' →
              ∃ Y' Z', (i : Int) + 1 = (a : Int) + (Y'.length : Int) ∧ Hid (∃ X1, x0 :: X0 = X1 ++ Z' ∧ Y'.Perm X1 ∧ Srt key tag Y' ∧ 0 < Y'.length) ∧ Hid (St 32 6 (fun x => [c0 x, c1 x, c2 x, c3 x, c4 x, c5 x]) w0 g n cap base (A ++ Y' ++ Z' ++ B) w')) := fun w' hP hS => by
            obtain ⟨X1, e1, pm, sy, y0⟩ := hp.out
            refine ⟨P ++ x :: S, Z, ?_, hide ⟨X1 ++ [x], by rw [e1]; simp, ?_, ?_, by simp; omega⟩, hide (by simpa using hS)⟩
            · have := Hi.out; rw [hq.out.1] at this; simp at this ⊢; omega
            · rw [hq.out.1] at pm
              exact (List.perm_middle.trans ((pm.cons x).trans (List.perm_append_singleton x X1).symm))
            · rw [hq.out.1] at sy
              exact sy.insert hP hq.out.2
          by_cases hP0 : P = []
          · subst hP0
            have hz : (a : Int) + (([] : List α).length : Int) = (a : Int) := by simp
            rw [hz]
            have hjaz : decide ((a : Int) > (a : Int)) = false := by simp
            have hS := hide (show St 32 6 (fun x => [c0 x, c1 x, c2 x, c3 x, c4 x, c5 x]) w0 g n cap base (A ++ [] ++ x :: (S ++ Z ++ B)) (wr.drewN 1) from HS.out.drew)
            clear hz
            go_wp2_with fail
            go_quiet (fail)
            go_wp2
            go_roundw
            case rel =>
              obtain ⟨Y', Z', e1, e2, e3⟩ := Hend.out _ (by simp) (HS.out.drewN _)
              exact ⟨Y', Z', by rw [e1], e2, e3⟩
            case measure => simp [intOf]; omega
          · obtain ⟨P', p, rfl⟩ : ∃ P' p, P = P' ++ [p] := ⟨P.dropLast, P.getLast hP0, (List.dropLast_concat_getLast hP0).symm⟩
            obtain ⟨jp, hjp⟩ : ∃ jp, jp = a + P'.length := ⟨_, rfl⟩
            have hjz : (a : Int) + ((P' ++ [p]).length : Int) = (jp : Int) + 1 := by simp; omega
            rw [hjz]
            have hle : jp + 1 ≤ i := by simp at hPi; omega
            have hk : ∀ x : α, [c0 x, c1 x, c2 x, c3 x, c4 x, c5 x].length = 6 := fun _ => rfl
            have S1 := HS.out
            rw [show A ++ (P' ++ [p]) ++ x :: (S ++ Z ++ B) = (A ++ P') ++ p :: [] ++ x :: (S ++ Z ++ B) by simp] at S1
            obtain ⟨p1, p2⟩ := at_parts (A ++ P') [] (S ++ Z ++ B) p x
            have hs := swap_parts (A ++ P') [] (S ++ Z ++ B) p x
            have hl1 : (A ++ P').length = jp := by have := Ha.out; simp; omega
            simp only [List.length_nil, Nat.add_zero] at p2 hs
            rw [hl1] at p1 p2 hs
            have f0 := fun q os => S1.cell_g hk p1 0 rfl q os
            have f1 := fun q os => S1.cell_g hk p1 1 rfl q os
            have f2 := fun q os => S1.cell_g hk p1 2 rfl q os
            have f3 := fun q os => S1.cell_g hk p1 3 rfl q os
            have f4 := fun q os => S1.cell_g hk p1 4 rfl q os
            have f5 := fun q os => S1.cell_g hk p1 5 rfl q os
            have f6 := fun q os => S1.cell_g hk p2 0 rfl q os
            have f7 := fun q os => S1.cell_g hk p2 1 rfl q os
            have f8 := fun q os => S1.cell_g hk p2 2 rfl q os
            have f9 := fun q os => S1.cell_g hk p2 3 rfl q os
            have f10 := fun q os => S1.cell_g hk p2 4 rfl q os
            have f11 := fun q os => S1.cell_g hk p2 5 rfl q os
            simp only [Nat.add_zero] at f0 f6
            have hcg : ∀ q os, Calls Tryz.prog f (#[.agg #[c0 x, c1 x, c2 x, c3 x, c4 x, c5 x], .agg #[c0 p, c1 p, c2 p, c3 p, c4 p, c5 p]] ++ caps) (grow (wr.drewN q) os) fun e w' => e = .returned (.int .i64 (cf x p)) ∧ ∃ q' os', w' = grow ((grow (wr.drewN q) os).drewN q') os' :=
              fun q os => HC.out.calls _ (grownBy_grow S1.grown q os) x p
            have he := HC.out.enters
            have hwp : IntKind.i64.wrap (jp : Int) = (jp : Int) := IntWalk.i64_in _ (by omega)
            have hwq : IntKind.i64.wrap ((jp : Int) + 1 - 1) = (jp : Int) := by rw [show (jp : Int) + 1 - 1 = (jp : Int) by omega]; exact IntWalk.i64_in _ (by omega)
            have jz : (jp : Int) + 1 < (n : Int) := by omega
            have jz1 : (jp : Int) < (n : Int) := by omega
            have hjaz : (a : Int) < (jp : Int) + 1 := by omega
            have p0 : (0 : Int) ≤ (jp : Int) + 1 := by omega
            have e0 : ((jp : Int) + 1).toNat = jp + 1 := by omega
            have S1' := hide S1
            have Hs := hide hs
            clear S1 hs p1 p2 HS hl1 hjz
            have Hjp := hide hjp
            clear hjp
            by_cases hlv : cf x p < 0
            · have Hlt := hide (LtT.of_key (tag := tag) ((Hcf.out x p).1 hlv))
              go_wp2_with fail
              go_quiet_grown (first | (go_at_fn f; refine Calls.grown_of (hcg _ _)))
              go_wp2_with fail
              have S2 := S1'.out.grow nq osq
              clear f0 f1 f2 f3 f4 f5 f6 f7 f8 f9 f10 f11 hcg
              generalize grow (wr.drewN nq) osq = w2 at S2 ⊢
              obtain ⟨p1, p2⟩ := at_parts (A ++ P') [] (S ++ Z ++ B) p x
              have hl1 : (A ++ P').length = jp := by have := Ha.out; have := Hjp.out; simp; omega
              simp only [List.length_nil, Nat.add_zero] at p2
              rw [hl1] at p1 p2
              have f0 := S2.cell hk p1 0 rfl
              have f1 := S2.cell hk p1 1 rfl
              have f2 := S2.cell hk p1 2 rfl
              have f3 := S2.cell hk p1 3 rfl
              have f4 := S2.cell hk p1 4 rfl
              have f5 := S2.cell hk p1 5 rfl
              have f6 := S2.cell hk p2 0 rfl
              have f7 := S2.cell hk p2 1 rfl
              have f8 := S2.cell hk p2 2 rfl
              have f9 := S2.cell hk p2 3 rfl
              have f10 := S2.cell hk p2 4 rfl
              have f11 := S2.cell hk p2 5 rfl
              simp only [Nat.add_zero] at f0 f6
              have fz := fun j => S2.own.frozenAt j
              have hs := Hs.out
              rw [List.set_comm _ _ (by omega)] at hs
              have S3 := ((S2.put hk (jp + 1) p (by omega)).put hk jp x (by omega)).drew
              rw [hs] at S3
              have HS3 := hide S3
              have z0 := st_run (P := Tryz.prog) (h0 x); have z1 := st_run (P := Tryz.prog) (h1 x); have z2 := st_run (P := Tryz.prog) (hcell2 x); have z3 := st_run (P := Tryz.prog) (hcell3 x); have z4 := st_run (P := Tryz.prog) (hcell4 x); have z5 := st_run (P := Tryz.prog) (hcell5 x); have z6 := st_run (P := Tryz.prog) (h0 p); have z7 := st_run (P := Tryz.prog) (h1 p); have z8 := st_run (P := Tryz.prog) (hcell2 p); have z9 := st_run (P := Tryz.prog) (hcell3 p); have z10 := st_run (P := Tryz.prog) (hcell4 p); have z11 := st_run (P := Tryz.prog) (hcell5 p)
              have Hh0 := hide h0
              have Hh1 := hide h1
              have Hh2 := hide hcell2
              have Hh3 := hide hcell3
              have Hh4 := hide hcell4
              have Hh5 := hide hcell5
              clear hs S2 S3 p1 p2 hl1 hlv he h0 h1 hcell2 hcell3 hcell4 hcell5
              generalize c0 x = x0' at *
              generalize c1 x = x1' at *
              generalize c2 x = x2' at *
              generalize c3 x = x3' at *
              generalize c4 x = x4' at *
              generalize c5 x = x5' at *
              generalize c0 p = p0' at *
              generalize c1 p = p1' at *
              generalize c2 p = p2' at *
              generalize c3 p = p3' at *
              generalize c4 p = p4' at *
              generalize c5 p = p5' at *
              go_region
              all_goals go_wp2
              clear z0 z1 z2 z3 z4 z5 z6 z7 z8 z9 z10 z11 f0 f1 f2 f3 f4 f5 f6 f7 f8 f9 f10 f11 fz
              go_roundw
              case rel =>
                refine ⟨P', p :: S, ?_, hide ⟨?_, ?_⟩, hide ?_⟩
                · have := Hjp.out; apply congrArg (Value.int .i64); omega
                · rw [hq.out.1]; simp
                · intro s hs
                  rcases List.mem_cons.1 hs with rfl | hs
                  · exact Hlt.out
                  · exact hq.out.2 s hs
                · rw [show A ++ P' ++ x :: (p :: S ++ Z ++ B) = A ++ P' ++ x :: [] ++ p :: (S ++ Z ++ B) by simp]
                  exact HS3.out
              case measure => simp [intOf]; try omega
            · have Hlt := hide (LtT.of_tag (key := key) (tag := tag) (x := p) (y := x) (fun h => hlv ((Hcf.out x p).2 h)) (Htag.out p (by rw [hq.out.1]; simp)))
              go_wp2_with fail
              go_quiet_grown (first | (go_at_fn f; refine Calls.grown_of (hcg _ _)))
              go_wp2_with fail
              have S2 := S1'.out.grow nq osq
              clear f0 f1 f2 f3 f4 f5 f6 f7 f8 f9 f10 f11 hcg
              generalize grow (wr.drewN nq) osq = w2 at S2 ⊢
              go_roundw
              case rel =>
                have sy := Hsy.out
                rw [hq.out.1] at sy
                obtain ⟨Y', Z', e1, e2, e3⟩ := Hend.out w2 (sy.below_last Hlt.out) (by simpa using S2)
                exact ⟨Y', Z', by rw [e1], e2, e3⟩
              case measure => simp [intOf]; omega
end
end Go.Proofs.YtkabghifdedmfaaGreatDoor

namespace Go.Proofs.YtkabghifdedmfaaGreatDoor
open Go.RowKit Go.Sort

section
variable {α : Type} {c0 c1 c2 c3 c4 c5 : α → Value} {key : α → Int} {tag : α → Nat}

set_option maxHeartbeats 4000000 in
set_option maxRecDepth 100000 in
theorem symMerge_one (h0 : ∀ x, (c0 x).oneCell' = true) (h1 : ∀ x, (c1 x).oneCell' = true) (hcell2 : ∀ x, (c2 x).oneCell' = true) (hcell3 : ∀ x, (c3 x).oneCell' = true) (hcell4 : ∀ x, (c4 x).oneCell' = true) (hcell5 : ∀ x, (c5 x).oneCell' = true) (f : Nat) (caps : Array Value) (cf : α → α → Int) (hcf : ∀ x y, cf x y < 0 ↔ key x < key y) (g n cap base : Nat) (A Y B : List α) (x : α) (a m b : Nat) (w0 w : World) (R) (hn : n ≤ 1000000)
    (hC : CmpC f caps c0 c1 c2 c3 c4 c5 cf w0 g) (S : St 32 6 (fun x => [c0 x, c1 x, c2 x, c3 x, c4 x, c5 x]) w0 g n cap base (A ++ [x] ++ Y ++ B) w) (ha : A.length = a) (hm : a + 1 = m) (hb : m + Y.length = b) (sY : Srt key tag Y) (hT : ∀ y ∈ Y, tag x < tag y)
    (hR : ∀ w' M, M.Perm ([x] ++ Y) → Srt key tag M → St 32 6 (fun x => [c0 x, c1 x, c2 x, c3 x, c4 x, c5 x]) w0 g n cap base (A ++ M ++ B) w' → R (.returned (.tuple #[])) w') :
    Calls Tryz.prog 104 #[.slice (some ⟨g, 0, none⟩) n cap, .int .i64 a, .int .i64 m, .int .i64 b, .func (.func f) #[] caps] w R := by
  have mx := mixed
  have HR := hide hR; have HS := hide S
  have hlen := S.len
  have hbn : b ≤ n := by simp at hlen; omega
  have Ha := hide ha; have Hb := hide hb; have HC := hide hC; have Hcf := hide hcf; have HsY := hide sY; have HT := hide hT
  have hma : (m : Int) - (a : Int) = 1 := by omega
  have hmb : m ≤ b := by omega
  have Hm := hide hm
  have hk : ∀ x : α, [c0 x, c1 x, c2 x, c3 x, c4 x, c5 x].length = 6 := fun _ => rfl
  clear hR S hlen ha hb hC hcf sY hT hm
  go_enter Tryz.func104, Tryz.ntmps104
  go_wp2
  go_loopw [10, 11] (fun si sj wr => ∃ i j : Nat, si = .int .i64 i ∧ sj = .int .i64 j ∧ m ≤ i ∧ i ≤ j ∧ j ≤ b ∧ Hid (∀ t y, Y[t]? = some y → m + t < i → key y < key x) ∧ Hid (∀ t y, Y[t]? = some y → j ≤ m + t → key x ≤ key y) ∧
      Hid (St 32 6 (fun x => [c0 x, c1 x, c2 x, c3 x, c4 x, c5 x]) w0 g n cap base (A ++ [x] ++ Y ++ B) wr)) (fun si sj _ => (intOf sj).toNat - (intOf si).toNat)
  case atStart => exact ⟨m, b, rfl, rfl, Nat.le_refl _, hmb, Nat.le_refl _, hide (fun t y _ h => by omega), hide (fun t y h1 h2 => by have := (List.getElem?_eq_some_iff.1 h1).1; have := Hb.out; omega), HS⟩
  case round =>
    clear HS
    obtain ⟨i, j, rfl, rfl, hmi, hij, hjb, hlo, hhi, HS⟩ := hrel
    by_cases hlt : i < j
    · obtain ⟨h, hh⟩ : ∃ h : Nat, h = (i + j) / 2 := ⟨_, rfl⟩
      have hhz : ((i : Int) + (j : Int)) / 2 = (h : Int) := by omega
      have hb1 : i ≤ h ∧ h < j := by omega
      clear hh
      go_wp2
      clear hhz
      obtain ⟨y, hy⟩ : ∃ y, Y[h - m]? = some y := by
        have := Hb.out
        exact ⟨_, List.getElem?_eq_getElem (show h - m < Y.length by omega)⟩
      have S1 := HS.out
      have p1 : (A ++ [x] ++ Y ++ B)[a]? = some x := by
        have := at_left A [x] Y B 0 (by simp)
        rw [Ha.out] at this; simpa using this
      have p2 : (A ++ [x] ++ Y ++ B)[h]? = some y := by
        have := at_right A [x] Y B (h - m) (List.getElem?_eq_some_iff.1 hy).1
        rw [Ha.out, show a + [x].length + (h - m) = h by have := Hm.out; simp; omega, hy] at this
        exact this
      have f0 := fun q os => S1.cell_g hk p1 0 rfl q os
      have f1 := fun q os => S1.cell_g hk p1 1 rfl q os
      have f2 := fun q os => S1.cell_g hk p1 2 rfl q os
      have f3 := fun q os => S1.cell_g hk p1 3 rfl q os
      have f4 := fun q os => S1.cell_g hk p1 4 rfl q os
      have f5 := fun q os => S1.cell_g hk p1 5 rfl q os
      have f6 := fun q os => S1.cell_g hk p2 0 rfl q os
      have f7 := fun q os => S1.cell_g hk p2 1 rfl q os
      have f8 := fun q os => S1.cell_g hk p2 2 rfl q os
      have f9 := fun q os => S1.cell_g hk p2 3 rfl q os
      have f10 := fun q os => S1.cell_g hk p2 4 rfl q os
      have f11 := fun q os => S1.cell_g hk p2 5 rfl q os
      simp only [Nat.add_zero] at f0 f6
      have hcg : ∀ q os, Calls Tryz.prog f (#[.agg #[c0 y, c1 y, c2 y, c3 y, c4 y, c5 y], .agg #[c0 x, c1 x, c2 x, c3 x, c4 x, c5 x]] ++ caps) (grow (wr.drewN q) os) fun e w' => e = .returned (.int .i64 (cf y x)) ∧ ∃ q' os', w' = grow ((grow (wr.drewN q) os).drewN q') os' :=
        fun q os => HC.out.calls _ (grownBy_grow S1.grown q os) y x
      have he := HC.out.enters
      have jz : (h : Int) < (n : Int) := by omega
      have jz1 : (a : Int) < (n : Int) := by omega
      have Hy := hide hy
      clear p1 p2 hy
      have Hcases : Hid ((cf y x < 0 → ∀ t z, Y[t]? = some z → m + t < h + 1 → key z < key x) ∧ (¬ cf y x < 0 → ∀ t z, Y[t]? = some z → h ≤ m + t → key x ≤ key z)) := by
        refine hide ⟨fun hc t z hz ht => ?_, fun hc t z hz ht => ?_⟩
        · have h3 := HsY.out.key_le hz Hy.out (by omega)
          have h4 := (Hcf.out y x).1 hc
          omega
        · have h3 := HsY.out.key_le Hy.out hz (by omega)
          have h4 : ¬ key y < key x := fun h => hc ((Hcf.out y x).2 h)
          omega
      by_cases hlv : cf y x < 0
      · go_quiet_grown (first | (go_at_fn f; refine Calls.grown_of (hcg _ _)))
        go_wp2_with fail
        go_roundw
        case rel => exact ⟨h + 1, j, by go_num, rfl, by omega, by omega, hjb, hide (Hcases.out.1 hlv), hhi, hide (S1.grow _ _)⟩
        case measure => simp [intOf]; omega
      · go_quiet_grown (first | (go_at_fn f; refine Calls.grown_of (hcg _ _)))
        go_wp2_with fail
        go_roundw
        case rel => exact ⟨i, h, rfl, rfl, by omega, by omega, by omega, hlo, hide (Hcases.out.2 hlv), hide (S1.grow _ _)⟩
        case measure => simp [intOf]; omega
    · have hje : i = j := by omega
      subst hje
      obtain ⟨Y1, Y2, hY, hl1⟩ : ∃ Y1 Y2, Y = Y1 ++ Y2 ∧ Y1.length = i - m := ⟨Y.take (i - m), Y.drop (i - m), (List.take_append_drop _ _).symm, by rw [List.length_take]; have := Hb.out; omega⟩
      have k1 : ∀ y ∈ Y1, key y < key x := fun y hy => by
        obtain ⟨t, ht⟩ := List.getElem?_of_mem hy
        have htl := (List.getElem?_eq_some_iff.1 ht).1
        exact hlo.out t y (by rw [hY, List.getElem?_append_left htl]; exact ht) (by omega)
      have k2 : ∀ y ∈ Y2, key x ≤ key y := fun y hy => by
        obtain ⟨t, ht⟩ := List.getElem?_of_mem hy
        have := hhi.out (Y1.length + t) y (by rw [hY, List.getElem?_append_right (by omega), Nat.add_sub_cancel_left]; exact ht) (by omega)
        exact this
      have Hfin : Hid (Srt key tag (Y1 ++ x :: Y2) ∧ (Y1 ++ x :: Y2).Perm ([x] ++ Y)) := by
        have sY := HsY.out
        rw [hY] at sY
        refine hide ⟨sY.insert (fun p hp => LtT.of_key (k1 p hp)) (fun s hs => LtT.of_tag (by have := k2 s hs; omega) (HT.out s (by rw [hY]; simp [hs]))), ?_⟩
        rw [hY]; exact List.perm_middle
      have HY := hide hY
      have Hl1 := hide hl1
      have HS2 := hide (show St 32 6 (fun x => [c0 x, c1 x, c2 x, c3 x, c4 x, c5 x]) w0 g n cap base (A ++ x :: (Y1 ++ Y2 ++ B)) wr by have := HS.out; rw [hY] at this; simpa using this)
      clear hlo hhi HS k1 k2 hY hl1 hma
      have hnl : ¬ (i : Int) < (i : Int) := by omega
      have him : 1 ≤ i := by have := Hm.out; omega
      go_wp2
      go_loopw [13] (fun sk wr => ∃ P S : List α, sk = .int .i64 ((a : Int) + (P.length : Int)) ∧ Hid (Y1 = P ++ S) ∧ Hid (St 32 6 (fun x => [c0 x, c1 x, c2 x, c3 x, c4 x, c5 x]) w0 g n cap base (A ++ P ++ x :: (S ++ Y2 ++ B)) wr)) (fun sk _ => i - (intOf sk).toNat)
      case atStart => exact ⟨[], Y1, by simp, hide rfl, hide (by simpa using HS2.out)⟩
      case round =>
        clear HS2
        obtain ⟨P, S, rfl, hp, HS⟩ := hrel
        have hPl : a + P.length + S.length + 1 = i := by have h5 := Hm.out; have h4 := Hl1.out; rw [hp.out] at h4; simp at h4; omega
        obtain ⟨q, hq⟩ : ∃ q : Nat, q = a + P.length := ⟨_, rfl⟩
        have hqz : (a : Int) + (P.length : Int) = (q : Int) := by omega
        rw [hqz]
        have Hq := hide hq
        cases S with
        | nil =>
          have hnl2 : ¬ (q : Int) < (i : Int) - 1 := by simp at hPl; omega
          have HS3 := hide (show St 32 6 (fun x => [c0 x, c1 x, c2 x, c3 x, c4 x, c5 x]) w0 g n cap base (A ++ (Y1 ++ x :: Y2) ++ B) wr by have := HS.out; have h5 := hp.out; rw [h5]; simpa using this)
          clear HS hPl hq hqz
          go_wp2
          go_end0
          exact HR.out _ _ Hfin.out.2 Hfin.out.1 HS3.out
        | cons y S =>
          have hq1 : (q : Int) < (i : Int) - 1 := by simp at hPl; omega
          have hq2 : q + 1 < n := by omega
          obtain ⟨p1, p2⟩ := at_parts (A ++ P) [] (S ++ Y2 ++ B) x y
          have hs := swap_parts (A ++ P) [] (S ++ Y2 ++ B) x y
          have hl : (A ++ P).length = q := by have := Ha.out; simp; omega
          simp only [List.length_nil, Nat.add_zero] at p2 hs
          rw [hl] at p1 p2 hs
          have S1 := HS.out
          rw [show A ++ P ++ x :: (y :: S ++ Y2 ++ B) = A ++ P ++ x :: [] ++ y :: (S ++ Y2 ++ B) by simp] at S1
          have f0 := S1.cell hk p1 0 rfl
          have f1 := S1.cell hk p1 1 rfl
          have f2 := S1.cell hk p1 2 rfl
          have f3 := S1.cell hk p1 3 rfl
          have f4 := S1.cell hk p1 4 rfl
          have f5 := S1.cell hk p1 5 rfl
          have f6 := S1.cell hk p2 0 rfl
          have f7 := S1.cell hk p2 1 rfl
          have f8 := S1.cell hk p2 2 rfl
          have f9 := S1.cell hk p2 3 rfl
          have f10 := S1.cell hk p2 4 rfl
          have f11 := S1.cell hk p2 5 rfl
          simp only [Nat.add_zero] at f0 f6
          have fz := fun j => S1.own.frozenAt j
          have S3 := ((S1.put hk q y (by omega)).put hk (q + 1) x (by omega)).drew
          rw [hs] at S3
          have HS3 := hide S3
          have z0 := st_run (P := Tryz.prog) (h0 x); have z1 := st_run (P := Tryz.prog) (h1 x); have z2 := st_run (P := Tryz.prog) (hcell2 x); have z3 := st_run (P := Tryz.prog) (hcell3 x); have z4 := st_run (P := Tryz.prog) (hcell4 x); have z5 := st_run (P := Tryz.prog) (hcell5 x); have z6 := st_run (P := Tryz.prog) (h0 y); have z7 := st_run (P := Tryz.prog) (h1 y); have z8 := st_run (P := Tryz.prog) (hcell2 y); have z9 := st_run (P := Tryz.prog) (hcell3 y); have z10 := st_run (P := Tryz.prog) (hcell4 y); have z11 := st_run (P := Tryz.prog) (hcell5 y)
          have Hh0 := hide h0
          have Hh1 := hide h1
          have Hh2 := hide hcell2
          have Hh3 := hide hcell3
          have Hh4 := hide hcell4
          have Hh5 := hide hcell5
          clear hs S3 S1 p1 p2 hl h0 h1 hcell2 hcell3 hcell4 hcell5 HS hPl hq hqz
          generalize c0 x = x0' at *
          generalize c1 x = x1' at *
          generalize c2 x = x2' at *
          generalize c3 x = x3' at *
          generalize c4 x = x4' at *
          generalize c5 x = x5' at *
          generalize c0 y = y0' at *
          generalize c1 y = y1' at *
          generalize c2 y = y2' at *
          generalize c3 y = y3' at *
          generalize c4 y = y4' at *
          generalize c5 y = y5' at *
          go_wp2
          go_region
          all_goals go_wp2
          clear z0 z1 z2 z3 z4 z5 z6 z7 z8 z9 z10 z11 f0 f1 f2 f3 f4 f5 f6 f7 f8 f9 f10 f11 fz
          go_roundw
          case rel =>
            refine ⟨P ++ [y], S, ?_, hide ?_, hide ?_⟩
            · have := Hq.out; apply congrArg (Value.int .i64); rw [List.length_append]; simp; omega
            · rw [hp.out]; simp
            · rw [show A ++ (P ++ [y]) ++ x :: (S ++ Y2 ++ B) = A ++ P ++ y :: [] ++ x :: (S ++ Y2 ++ B) by simp]
              exact HS3.out
          case measure => simp [intOf]; try omega
end
end Go.Proofs.YtkabghifdedmfaaGreatDoor
