import Derived.Test.YtaopfoicdjejnaaS3
set_option linter.unusedVariables false
set_option linter.unusedSimpArgs false
namespace Go.Proofs.Ytaopfoicdjejnaa
open Go.RowKit Go.Sort

section
variable {α : Type} {c0 : α → Value} {key : α → Int} {tag : α → Nat}

set_option maxHeartbeats 4000000 in
set_option maxRecDepth 100000 in
theorem symMerge_one (h0 : ∀ x, Ifc (c0 x)) (f : Nat) (caps : Array Value) (cf : α → α → Int) (hcf : ∀ x y, cf x y < 0 ↔ key x < key y) (g n cap base : Nat) (A Y B : List α) (x : α) (a m b : Nat) (w0 w : World) (R) (hn : n ≤ 1000000)
    (hC : CmpC f caps c0 cf w0 g) (S : St 57 1 (fun x => [c0 x]) w0 g n cap base (A ++ [x] ++ Y ++ B) w) (ha : A.length = a) (hm : a + 1 = m) (hb : m + Y.length = b) (sY : Srt key tag Y) (hT : ∀ y ∈ Y, tag x < tag y)
    (hR : ∀ w' M, M.Perm ([x] ++ Y) → Srt key tag M → St 57 1 (fun x => [c0 x]) w0 g n cap base (A ++ M ++ B) w' → R (.returned (.tuple #[])) w') :
    Calls Try.prog 51 #[.slice (some ⟨g, 0, none⟩) n cap, .int .i64 a, .int .i64 m, .int .i64 b, .func (.func f) #[] caps] w R := by
  have mx := mixed
  have HR := hide hR; have HS := hide S
  have hlen := S.len
  have hbn : b ≤ n := by simp at hlen; omega
  have Ha := hide ha; have Hb := hide hb; have HC := hide hC; have Hcf := hide hcf; have HsY := hide sY; have HT := hide hT
  have hma : (m : Int) - (a : Int) = 1 := by omega
  have hmb : m ≤ b := by omega
  have Hm := hide hm
  have hk : ∀ x : α, [c0 x].length = 1 := fun _ => rfl
  clear hR S hlen ha hb hC hcf sY hT hm
  go_enter Try.func51, Try.ntmps51
  go_wp2
  go_loopw [10, 11] (fun si sj wr => ∃ i j : Nat, si = .int .i64 i ∧ sj = .int .i64 j ∧ m ≤ i ∧ i ≤ j ∧ j ≤ b ∧ Hid (∀ t y, Y[t]? = some y → m + t < i → key y < key x) ∧ Hid (∀ t y, Y[t]? = some y → j ≤ m + t → key x ≤ key y) ∧
      Hid (St 57 1 (fun x => [c0 x]) w0 g n cap base (A ++ [x] ++ Y ++ B) wr)) (fun si sj _ => (intOf sj).toNat - (intOf si).toNat)
  case atStart => exact ⟨m, b, rfl, rfl, Nat.le_refl _, hmb, Nat.le_refl _, hide (fun t y _ h => by omega), hide (fun t y h1 h2 => by have := (List.getElem?_eq_some_iff.1 h1).1; have := Hb.out; omega), HS⟩
  case round =>
    clear HS
    obtain ⟨i, j, rfl, rfl, hmi, hij, hjb, hlo, hhi, HS⟩ := hrel
    by_cases hlt : i < j
    · obtain ⟨h, hh⟩ : ∃ h : Nat, h = (i + j) / 2 := ⟨_, rfl⟩
      have hhz : ((i : Int) + (j : Int)) / 2 = (h : Int) := by omega
      have hb1 : i ≤ h ∧ h < j := by omega
      clear hh
      go_wp2
      clear hhz
      obtain ⟨y, hy⟩ : ∃ y, Y[h - m]? = some y := by
        have := Hb.out
        exact ⟨_, List.getElem?_eq_getElem (show h - m < Y.length by omega)⟩
      have S1 := HS.out
      have p1 : (A ++ [x] ++ Y ++ B)[a]? = some x := by
        have := at_left A [x] Y B 0 (by simp)
        rw [Ha.out] at this; simpa using this
      have p2 : (A ++ [x] ++ Y ++ B)[h]? = some y := by
        have := at_right A [x] Y B (h - m) (List.getElem?_eq_some_iff.1 hy).1
        rw [Ha.out, show a + [x].length + (h - m) = h by have := Hm.out; simp; omega, hy] at this
        exact this
      have f0 := fun q os => S1.cell_g hk p1 0 rfl q os
      have f1 := fun q os => S1.cell_g hk p2 0 rfl q os
      simp only [Nat.add_zero, Nat.mul_one] at f0 f1
      have hcg : ∀ q os, Calls Try.prog f (#[c0 y, c0 x] ++ caps) (grow (wr.drewN q) os) fun e w' => e = .returned (.int .i64 (cf y x)) ∧ ∃ q' os', w' = grow ((grow (wr.drewN q) os).drewN q') os' :=
        fun q os => HC.out.calls _ (grownBy_grow S1.grown q os) y x
      have he := HC.out.enters
      have jz : (h : Int) < (n : Int) := by omega
      have jz1 : (a : Int) < (n : Int) := by omega
      have Hy := hide hy
      clear p1 p2 hy
      have Hcases : Hid ((cf y x < 0 → ∀ t z, Y[t]? = some z → m + t < h + 1 → key z < key x) ∧ (¬ cf y x < 0 → ∀ t z, Y[t]? = some z → h ≤ m + t → key x ≤ key z)) := by
        refine hide ⟨fun hc t z hz ht => ?_, fun hc t z hz ht => ?_⟩
        · have h3 := HsY.out.key_le hz Hy.out (by omega)
          have h4 := (Hcf.out y x).1 hc
          omega
        · have h3 := HsY.out.key_le Hy.out hz (by omega)
          have h4 : ¬ key y < key x := fun h => hc ((Hcf.out y x).2 h)
          omega
      by_cases hlv : cf y x < 0
      · go_quiet_grown (first | (go_at_fn f; refine Calls.grown_of (hcg _ _)))
        go_wp2_with fail
        go_roundw
        case rel => exact ⟨h + 1, j, by go_num, rfl, by omega, by omega, hjb, hide (Hcases.out.1 hlv), hhi, hide (S1.grow _ _)⟩
        case measure => simp [intOf]; omega
      · go_quiet_grown (first | (go_at_fn f; refine Calls.grown_of (hcg _ _)))
        go_wp2_with fail
        go_roundw
        case rel => exact ⟨i, h, rfl, rfl, by omega, by omega, by omega, hlo, hide (Hcases.out.2 hlv), hide (S1.grow _ _)⟩
        case measure => simp [intOf]; omega
    · have hje : i = j := by omega
      subst hje
      obtain ⟨Y1, Y2, hY, hl1⟩ : ∃ Y1 Y2, Y = Y1 ++ Y2 ∧ Y1.length = i - m := ⟨Y.take (i - m), Y.drop (i - m), (List.take_append_drop _ _).symm, by rw [List.length_take]; have := Hb.out; omega⟩
      have k1 : ∀ y ∈ Y1, key y < key x := fun y hy => by
        obtain ⟨t, ht⟩ := List.getElem?_of_mem hy
        have htl := (List.getElem?_eq_some_iff.1 ht).1
        exact hlo.out t y (by rw [hY, List.getElem?_append_left htl]; exact ht) (by omega)
      have k2 : ∀ y ∈ Y2, key x ≤ key y := fun y hy => by
        obtain ⟨t, ht⟩ := List.getElem?_of_mem hy
        have := hhi.out (Y1.length + t) y (by rw [hY, List.getElem?_append_right (by omega), Nat.add_sub_cancel_left]; exact ht) (by omega)
        exact this
      have Hfin : Hid (Srt key tag (Y1 ++ x :: Y2) ∧ (Y1 ++ x :: Y2).Perm ([x] ++ Y)) := by
        have sY := HsY.out
        rw [hY] at sY
        refine hide ⟨sY.insert (fun p hp => LtT.of_key (k1 p hp)) (fun s hs => LtT.of_tag (by have := k2 s hs; omega) (HT.out s (by rw [hY]; simp [hs]))), ?_⟩
        rw [hY]; exact List.perm_middle
      have HY := hide hY
      have Hl1 := hide hl1
      have HS2 := hide (show St 57 1 (fun x => [c0 x]) w0 g n cap base (A ++ x :: (Y1 ++ Y2 ++ B)) wr by have := HS.out; rw [hY] at this; simpa using this)
      clear hlo hhi HS k1 k2 hY hl1 hma
      have hnl : ¬ (i : Int) < (i : Int) := by omega
      have him : 1 ≤ i := by have := Hm.out; omega
      go_wp2
      go_loopw [13] (fun sk wr => ∃ P S : List α, sk = .int .i64 ((a : Int) + (P.length : Int)) ∧ Hid (Y1 = P ++ S) ∧ Hid (St 57 1 (fun x => [c0 x]) w0 g n cap base (A ++ P ++ x :: (S ++ Y2 ++ B)) wr)) (fun sk _ => i - (intOf sk).toNat)
      case atStart => exact ⟨[], Y1, by simp, hide rfl, hide (by simpa using HS2.out)⟩
      case round =>
        clear HS2
        obtain ⟨P, S, rfl, hp, HS⟩ := hrel
        have hPl : a + P.length + S.length + 1 = i := by have h5 := Hm.out; have h4 := Hl1.out; rw [hp.out] at h4; simp at h4; omega
        obtain ⟨q, hq⟩ : ∃ q : Nat, q = a + P.length := ⟨_, rfl⟩
        have hqz : (a : Int) + (P.length : Int) = (q : Int) := by omega
        rw [hqz]
        have Hq := hide hq
        cases S with
        | nil =>
          have hnl2 : ¬ (q : Int) < (i : Int) - 1 := by simp at hPl; omega
          have HS3 := hide (show St 57 1 (fun x => [c0 x]) w0 g n cap base (A ++ (Y1 ++ x :: Y2) ++ B) wr by have := HS.out; have h5 := hp.out; rw [h5]; simpa using this)
          clear HS hPl hq hqz
          go_wp2
          go_end0
          exact HR.out _ _ Hfin.out.2 Hfin.out.1 HS3.out
        | cons y S =>
          have hq1 : (q : Int) < (i : Int) - 1 := by simp at hPl; omega
          have hq2 : q + 1 < n := by omega
          obtain ⟨p1, p2⟩ := at_parts (A ++ P) [] (S ++ Y2 ++ B) x y
          have hs := swap_parts (A ++ P) [] (S ++ Y2 ++ B) x y
          have hl : (A ++ P).length = q := by have := Ha.out; simp; omega
          simp only [List.length_nil, Nat.add_zero] at p2 hs
          rw [hl] at p1 p2 hs
          have S1 := HS.out
          rw [show A ++ P ++ x :: (y :: S ++ Y2 ++ B) = A ++ P ++ x :: [] ++ y :: (S ++ Y2 ++ B) by simp] at S1
          have f0 := S1.cell hk p1 0 rfl
          have f1 := S1.cell hk p2 0 rfl
          simp only [Nat.add_zero, Nat.mul_one] at f0 f1
          have fz := fun j => S1.own.frozenAt j
          have S3 := ((S1.put hk q y (by omega)).put hk (q + 1) x (by omega)).drew
          simp only [setW, Nat.mul_one] at S3
          rw [hs] at S3
          have HS3 := hide S3
          have i_x := h0 x; have i_y := h0 y; have z0 := st_run (P := Try.prog) (h0 x).one; have z1 := st_run (P := Try.prog) (h0 y).one
          have Hh0 := hide h0
          clear hs S3 S1 p1 p2 hl h0 HS hPl hq hqz
          generalize c0 x = x0' at *
          obtain ⟨_, _, rfl⟩ := i_x
          generalize c0 y = y0' at *
          obtain ⟨_, _, rfl⟩ := i_y
          go_wp2
          go_region
          all_goals go_wp2
          clear z0 z1 f0 f1 fz
          go_roundw
          case rel =>
            refine ⟨P ++ [y], S, ?_, hide ?_, hide ?_⟩
            · have := Hq.out; apply congrArg (Value.int .i64); rw [List.length_append]; simp; omega
            · rw [hp.out]; simp
            · rw [show A ++ (P ++ [y]) ++ x :: (S ++ Y2 ++ B) = A ++ P ++ y :: [] ++ x :: (S ++ Y2 ++ B) by simp]
              exact HS3.out
          case measure => simp [intOf]; try omega
end
end Go.Proofs.Ytaopfoicdjejnaa
