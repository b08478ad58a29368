/-  -/
import Derived.Test.YtkabghifdedmfaaGreatDoorB12
set_option linter.unusedVariables false
set_option linter.unusedSimpArgs false
namespace Go.Proofs.YtkabghifdedmfaaGreatDoor
open Go.RowKit Go.Sort

section
variable {α : Type} {c0 c1 c2 c3 c4 c5 : α → Value} {key : α → Int} {tag : α → Nat}

set_option maxHeartbeats 4000000 in
set_option maxRecDepth 100000 in
theorem symMerge_last (h0 : ∀ x, (c0 x).oneCell' = true) (h1 : ∀ x, (c1 x).oneCell' = true) (hcell2 : ∀ x, (c2 x).oneCell' = true) (hcell3 : ∀ x, (c3 x).oneCell' = true) (hcell4 : ∀ x, (c4 x).oneCell' = true) (hcell5 : ∀ x, (c5 x).oneCell' = true) (f : Nat) (caps : Array Value) (cf : α → α → Int) (hcf : ∀ x y, cf x y < 0 ↔ key x < key y) (g n cap base : Nat) (A X B : List α) (y : α) (a m b : Nat) (w0 w : World) (R) (hn : n ≤ 1000000)
    (hC : CmpC f caps c0 c1 c2 c3 c4 c5 cf w0 g) (S : St 32 6 (fun x => [c0 x, c1 x, c2 x, c3 x, c4 x, c5 x]) w0 g n cap base (A ++ X ++ [y] ++ B) w) (ha : A.length = a) (hm : a + X.length = m) (hb : m + 1 = b) (hX2 : 2 ≤ X.length) (sX : Srt key tag X) (hT : ∀ x ∈ X, tag x < tag y)
    (hR : ∀ w' M, M.Perm (X ++ [y]) → Srt key tag M → St 32 6 (fun x => [c0 x, c1 x, c2 x, c3 x, c4 x, c5 x]) w0 g n cap base (A ++ M ++ B) w' → R (.returned (.tuple #[])) w') :
    Calls Tryz.prog 104 #[.slice (some ⟨g, 0, none⟩) n cap, .int .i64 a, .int .i64 m, .int .i64 b, .func (.func f) #[] caps] w R := by
  have mx := mixed
  have HR := hide hR; have HS := hide S
  have hlen := S.len
  have hbn : b ≤ n := by simp at hlen; omega
  have Ha := hide ha; have Hm := hide hm; have HC := hide hC; have Hcf := hide hcf; have HsX := hide sX; have HT := hide hT
  have hma : ((m : Int) - (a : Int) == 1) = false := by simp; omega
  have hbm : (b : Int) - (m : Int) = 1 := by omega
  have ham : a ≤ m := by omega
  have Hb := hide hb
  have hk : ∀ x : α, [c0 x, c1 x, c2 x, c3 x, c4 x, c5 x].length = 6 := fun _ => rfl
  clear hR S hlen ha hb hC hcf sX hT hm
  go_enter Tryz.func104, Tryz.ntmps104
  go_wp2
  clear hma
  go_loopw [14, 15] (fun si sj wr => ∃ i j : Nat, si = .int .i64 i ∧ sj = .int .i64 j ∧ a ≤ i ∧ i ≤ j ∧ j ≤ m ∧ Hid (∀ t x, X[t]? = some x → a + t < i → key x ≤ key y) ∧ Hid (∀ t x, X[t]? = some x → j ≤ a + t → key y < key x) ∧
      Hid (St 32 6 (fun x => [c0 x, c1 x, c2 x, c3 x, c4 x, c5 x]) w0 g n cap base (A ++ X ++ [y] ++ B) wr)) (fun si sj _ => (intOf sj).toNat - (intOf si).toNat)
  case atStart => exact ⟨a, m, rfl, rfl, Nat.le_refl _, ham, Nat.le_refl _, hide (fun t y _ h => by omega), hide (fun t y h1 h2 => by have := (List.getElem?_eq_some_iff.1 h1).1; have := Hm.out; omega), HS⟩
  case round =>
    clear HS
    obtain ⟨i, j, rfl, rfl, hai, hij, hjm, hlo, hhi, HS⟩ := hrel
    by_cases hlt : i < j
    · obtain ⟨h, hh⟩ : ∃ h : Nat, h = (i + j) / 2 := ⟨_, rfl⟩
      have hhz : ((i : Int) + (j : Int)) / 2 = (h : Int) := by omega
      have hb1 : i ≤ h ∧ h < j := by omega
      clear hh
      go_wp2
      clear hhz
      obtain ⟨x, hx⟩ : ∃ x, X[h - a]? = some x := by
        have := Hm.out
        exact ⟨_, List.getElem?_eq_getElem (show h - a < X.length by omega)⟩
      have S1 := HS.out
      have p1 : (A ++ X ++ [y] ++ B)[m]? = some y := by
        have := at_right A X [y] B 0 (by simp)
        rw [Ha.out, Nat.add_zero, Hm.out] at this; simpa using this
      have p2 : (A ++ X ++ [y] ++ B)[h]? = some x := by
        have := at_left A X [y] B (h - a) (List.getElem?_eq_some_iff.1 hx).1
        rw [Ha.out, show a + (h - a) = h by omega, hx] at this
        exact this
      have f0 := fun q os => S1.cell_g hk p1 0 rfl q os
      have f1 := fun q os => S1.cell_g hk p1 1 rfl q os
      have f2 := fun q os => S1.cell_g hk p1 2 rfl q os
      have f3 := fun q os => S1.cell_g hk p1 3 rfl q os
      have f4 := fun q os => S1.cell_g hk p1 4 rfl q os
      have f5 := fun q os => S1.cell_g hk p1 5 rfl q os
      have f6 := fun q os => S1.cell_g hk p2 0 rfl q os
      have f7 := fun q os => S1.cell_g hk p2 1 rfl q os
      have f8 := fun q os => S1.cell_g hk p2 2 rfl q os
      have f9 := fun q os => S1.cell_g hk p2 3 rfl q os
      have f10 := fun q os => S1.cell_g hk p2 4 rfl q os
      have f11 := fun q os => S1.cell_g hk p2 5 rfl q os
      simp only [Nat.add_zero] at f0 f6
      have hcg : ∀ q os, Calls Tryz.prog f (#[.agg #[c0 y, c1 y, c2 y, c3 y, c4 y, c5 y], .agg #[c0 x, c1 x, c2 x, c3 x, c4 x, c5 x]] ++ caps) (grow (wr.drewN q) os) fun e w' => e = .returned (.int .i64 (cf y x)) ∧ ∃ q' os', w' = grow ((grow (wr.drewN q) os).drewN q') os' :=
        fun q os => HC.out.calls _ (grownBy_grow S1.grown q os) y x
      have he := HC.out.enters
      have jz : (h : Int) < (n : Int) := by omega
      have jz1 : (m : Int) < (n : Int) := by omega
      have Hx := hide hx
      clear p1 p2 hx
      have Hcases : Hid ((¬ cf y x < 0 → ∀ t z, X[t]? = some z → a + t < h + 1 → key z ≤ key y) ∧ (cf y x < 0 → ∀ t z, X[t]? = some z → h ≤ a + t → key y < key z)) := by
        refine hide ⟨fun hc t z hz ht => ?_, fun hc t z hz ht => ?_⟩
        · have h3 := HsX.out.key_le hz Hx.out (by omega)
          have h4 : ¬ key y < key x := fun h => hc ((Hcf.out y x).2 h)
          omega
        · have h3 := HsX.out.key_le Hx.out hz (by omega)
          have h4 := (Hcf.out y x).1 hc
          omega
      by_cases hlv : cf y x < 0
      · go_quiet_grown (first | (go_at_fn f; refine Calls.grown_of (hcg _ _)))
        go_wp2_with fail
        go_roundw
        case rel => exact ⟨i, h, rfl, rfl, by omega, by omega, by omega, hlo, hide (Hcases.out.2 hlv), hide (S1.grow _ _)⟩
        case measure => simp [intOf]; omega
      · go_quiet_grown (first | (go_at_fn f; refine Calls.grown_of (hcg _ _)))
        go_wp2_with fail
        go_roundw
        case rel => exact ⟨h + 1, j, by go_num, rfl, by omega, by omega, hjm, hide (Hcases.out.1 hlv), hhi, hide (S1.grow _ _)⟩
        case measure => simp [intOf]; omega
    · have hje : i = j := by omega
      subst hje
      obtain ⟨X1, X2, hX, hl1⟩ : ∃ X1 X2, X = X1 ++ X2 ∧ X1.length = i - a := ⟨X.take (i - a), X.drop (i - a), (List.take_append_drop _ _).symm, by rw [List.length_take]; have := Hm.out; omega⟩
      have k1 : ∀ x ∈ X1, key x ≤ key y := fun x hx => by
        obtain ⟨t, ht⟩ := List.getElem?_of_mem hx
        have htl := (List.getElem?_eq_some_iff.1 ht).1
        exact hlo.out t x (by rw [hX, List.getElem?_append_left htl]; exact ht) (by omega)
      have k2 : ∀ x ∈ X2, key y < key x := fun x hx => by
        obtain ⟨t, ht⟩ := List.getElem?_of_mem hx
        have := hhi.out (X1.length + t) x (by rw [hX, List.getElem?_append_right (by omega), Nat.add_sub_cancel_left]; exact ht) (by omega)
        exact this
      have Hfin : Hid (Srt key tag (X1 ++ y :: X2) ∧ (X1 ++ y :: X2).Perm (X ++ [y])) := by
        have sX := HsX.out
        rw [hX] at sX
        refine hide ⟨sX.insert (fun p hp => LtT.of_tag (by have := k1 p hp; omega) (HT.out p (by rw [hX]; simp [hp]))) (fun s hs => LtT.of_key (k2 s hs)), ?_⟩
        rw [hX]
        exact List.perm_middle.trans (List.perm_append_singleton y (X1 ++ X2)).symm
      have HX := hide hX
      have Hl1 := hide hl1
      have Hai := hide hai
      have HS2 := hide (show St 32 6 (fun x => [c0 x, c1 x, c2 x, c3 x, c4 x, c5 x]) w0 g n cap base (A ++ X1 ++ X2 ++ y :: ([] ++ B)) wr by have := HS.out; rw [hX] at this; simpa using this)
      have Hl2 := hide (show i + X2.length = m by have := Hm.out; rw [hX] at this; simp at this; omega)
      clear hlo hhi HS k1 k2 hX hl1 hbm
      have hnl : ¬ (i : Int) < (i : Int) := by omega
      go_wp2
      go_loopw [17] (fun sk wr => ∃ P S : List α, sk = .int .i64 ((i : Int) + (P.length : Int)) ∧ Hid (X2 = P ++ S) ∧ Hid (St 32 6 (fun x => [c0 x, c1 x, c2 x, c3 x, c4 x, c5 x]) w0 g n cap base (A ++ X1 ++ P ++ y :: (S ++ B)) wr)) (fun sk _ => (intOf sk).toNat)
      case atStart => exact ⟨X2, [], by apply congrArg (Value.int .i64); have := Hl2.out; omega, hide (by simp), HS2⟩
      case round =>
        clear HS2
        obtain ⟨P, S, rfl, hp, HS⟩ := hrel
        have hPl : i + P.length + S.length = m := by have h4 := Hl2.out; rw [hp.out] at h4; simp at h4; omega
        by_cases hP0 : P = []
        · subst hP0
          have hz : (i : Int) + (([] : List α).length : Int) = (i : Int) := by simp
          rw [hz]
          have HS3 := hide (show St 32 6 (fun x => [c0 x, c1 x, c2 x, c3 x, c4 x, c5 x]) w0 g n cap base (A ++ (X1 ++ y :: X2) ++ B) wr by have := HS.out; have h5 := hp.out; rw [h5]; simpa using this)
          clear HS hPl hz
          go_wp2
          go_end0
          exact HR.out _ _ Hfin.out.2 Hfin.out.1 HS3.out
        · obtain ⟨P', x, rfl⟩ : ∃ P' x, P = P' ++ [x] := ⟨P.dropLast, P.getLast hP0, (List.dropLast_concat_getLast hP0).symm⟩
          obtain ⟨q, hq⟩ : ∃ q : Nat, q = i + P'.length := ⟨_, rfl⟩
          have hqz : (i : Int) + ((P' ++ [x]).length : Int) = (q : Int) + 1 := by simp; omega
          rw [hqz]
          have Hq := hide hq
          have hq1 : (i : Int) < (q : Int) + 1 := by omega
          have hq2 : q + 1 < n := by have h7 := Hb.out; simp only [List.length_append, List.length_cons, List.length_nil] at hPl; omega
          have e0 : ((q : Int) + 1).toNat = q + 1 := by omega
          have p0 : (0 : Int) ≤ (q : Int) + 1 := by omega
          obtain ⟨p1, p2⟩ := at_parts (A ++ X1 ++ P') [] (S ++ B) x y
          have hs := swap_parts (A ++ X1 ++ P') [] (S ++ B) x y
          have hl : (A ++ X1 ++ P').length = q := by have h1 := Ha.out; have h2 := Hl1.out; have h3 := Hai.out; rw [List.length_append, List.length_append, h1, h2, hq]; omega
          simp only [List.length_nil, Nat.add_zero] at p2 hs
          rw [hl] at p1 p2 hs
          have S1 := HS.out
          rw [show A ++ X1 ++ (P' ++ [x]) ++ y :: (S ++ B) = A ++ X1 ++ P' ++ x :: [] ++ y :: (S ++ B) by simp] at S1
          have f0 := S1.cell hk p1 0 rfl
          have f1 := S1.cell hk p1 1 rfl
          have f2 := S1.cell hk p1 2 rfl
          have f3 := S1.cell hk p1 3 rfl
          have f4 := S1.cell hk p1 4 rfl
          have f5 := S1.cell hk p1 5 rfl
          have f6 := S1.cell hk p2 0 rfl
          have f7 := S1.cell hk p2 1 rfl
          have f8 := S1.cell hk p2 2 rfl
          have f9 := S1.cell hk p2 3 rfl
          have f10 := S1.cell hk p2 4 rfl
          have f11 := S1.cell hk p2 5 rfl
          simp only [Nat.add_zero] at f0 f6
          have fz := fun j => S1.own.frozenAt j
          rw [List.set_comm _ _ (by omega)] at hs
          have S3 := ((S1.put hk (q + 1) x (by omega)).put hk q y (by omega)).drew
          rw [hs] at S3
          have HS3 := hide S3
          have z0 := st_run (P := Tryz.prog) (h0 x); have z1 := st_run (P := Tryz.prog) (h1 x); have z2 := st_run (P := Tryz.prog) (hcell2 x); have z3 := st_run (P := Tryz.prog) (hcell3 x); have z4 := st_run (P := Tryz.prog) (hcell4 x); have z5 := st_run (P := Tryz.prog) (hcell5 x); have z6 := st_run (P := Tryz.prog) (h0 y); have z7 := st_run (P := Tryz.prog) (h1 y); have z8 := st_run (P := Tryz.prog) (hcell2 y); have z9 := st_run (P := Tryz.prog) (hcell3 y); have z10 := st_run (P := Tryz.prog) (hcell4 y); have z11 := st_run (P := Tryz.prog) (hcell5 y)
          have Hh0 := hide h0
          have Hh1 := hide h1
          have Hh2 := hide hcell2
          have Hh3 := hide hcell3
          have Hh4 := hide hcell4
          have Hh5 := hide hcell5
          clear hs S3 S1 p1 p2 hl h0 h1 hcell2 hcell3 hcell4 hcell5 HS hPl hq hqz hP0
          generalize c0 x = x0' at *
          generalize c1 x = x1' at *
          generalize c2 x = x2' at *
          generalize c3 x = x3' at *
          generalize c4 x = x4' at *
          generalize c5 x = x5' at *
          generalize c0 y = y0' at *
          generalize c1 y = y1' at *
          generalize c2 y = y2' at *
          generalize c3 y = y3' at *
          generalize c4 y = y4' at *
          generalize c5 y = y5' at *
          go_wp2
          go_region
          all_goals go_wp2
          clear z0 z1 z2 z3 z4 z5 z6 z7 z8 z9 z10 z11 f0 f1 f2 f3 f4 f5 f6 f7 f8 f9 f10 f11 fz
          go_roundw
          case rel =>
            refine ⟨P', x :: S, ?_, hide ?_, hide ?_⟩
            · have := Hq.out; apply congrArg (Value.int .i64); omega
            · rw [hp.out]; simp
            · rw [show A ++ X1 ++ P' ++ y :: (x :: S ++ B) = A ++ X1 ++ P' ++ y :: [] ++ x :: (S ++ B) by simp]
              exact HS3.out
          case measure => simp [intOf]; try omega
end
end Go.Proofs.YtkabghifdedmfaaGreatDoor
