/-  -/
import Derived.Test.YtkabghifdedmfaaGreatDoorB12
import Derived.Test.YtkabghifdedmfaaGreatDoorB13
set_option linter.unusedVariables false
set_option linter.unusedSimpArgs false
namespace Go.Proofs.YtkabghifdedmfaaGreatDoor
open Go.RowKit Go.Sort

section
variable {α : Type} {c0 c1 c2 c3 c4 c5 : α → Value} {key : α → Int} {tag : α → Nat}

theorem cross {X Y : List α} (sX : Srt key tag X) (sY : Srt key tag Y) (hT : ∀ x ∈ X, ∀ y ∈ Y, tag x < tag y) (a m b mid s0 r0 s : Nat) (hX : a + X.length = m) (hY : m + Y.length = b)
    (hmid : 2 * mid ≤ a + b ∧ a + b ≤ 2 * mid + 1) (hsr : (s0 = a ∧ r0 = m ∧ m ≤ mid) ∨ (s0 + b = mid + m ∧ r0 = mid ∧ mid < m)) (h1 : s0 ≤ s) (h2 : s ≤ r0)
    (lo : ∀ c x y, s0 ≤ c → c < s → X[c - a]? = some x → Y[mid + m - 1 - c - m]? = some y → key x ≤ key y)
    (hi : ∀ c x y, s ≤ c → c < r0 → X[c - a]? = some x → Y[mid + m - 1 - c - m]? = some y → key y < key x) :
    (∀ x ∈ X.take (s - a), ∀ y ∈ Y.drop (mid + m - s - m), LtT key tag x y) ∧ (∀ y ∈ Y.take (mid + m - s - m), ∀ x ∈ X.drop (s - a), LtT key tag y x) := by
  have hs : a ≤ s ∧ s ≤ m ∧ s ≤ mid ∧ mid + m - s ≤ b ∧ m ≤ mid + m - s := by omega
  constructor
  · intro x hx y hy
    have hxm := List.mem_of_mem_take hx
    have hym := List.mem_of_mem_drop hy
    obtain ⟨t, ht⟩ := List.getElem?_of_mem hx
    obtain ⟨u, hu⟩ := List.getElem?_of_mem hy
    rw [List.getElem?_take] at ht
    split at ht
    · rename_i htl
      rw [List.getElem?_drop] at hu
      have hul := (List.getElem?_eq_some_iff.1 hu).1
      obtain ⟨x', hx'⟩ : ∃ x', X[s - 1 - a]? = some x' := ⟨_, List.getElem?_eq_getElem (show s - 1 - a < X.length by omega)⟩
      obtain ⟨y', hy'⟩ : ∃ y', Y[mid + m - 1 - (s - 1) - m]? = some y' := ⟨_, List.getElem?_eq_getElem (show mid + m - 1 - (s - 1) - m < Y.length by omega)⟩
      have k1 := sX.key_le ht hx' (by omega)
      have k2 := lo (s - 1) x' y' (by omega) (by omega) hx' hy'
      have k3 := sY.key_le hy' hu (by omega)
      exact LtT.of_tag (by omega) (hT x hxm y hym)
    · cases ht
  · intro y hy x hx
    obtain ⟨t, ht⟩ := List.getElem?_of_mem hy
    obtain ⟨u, hu⟩ := List.getElem?_of_mem hx
    rw [List.getElem?_take] at ht
    split at ht
    · rename_i htl
      rw [List.getElem?_drop] at hu
      have hul := (List.getElem?_eq_some_iff.1 hu).1
      have htl2 := (List.getElem?_eq_some_iff.1 ht).1
      obtain ⟨x', hx'⟩ : ∃ x', X[s - a]? = some x' := ⟨_, List.getElem?_eq_getElem (show s - a < X.length by omega)⟩
      obtain ⟨y', hy'⟩ : ∃ y', Y[mid + m - 1 - s - m]? = some y' := ⟨_, List.getElem?_eq_getElem (show mid + m - 1 - s - m < Y.length by omega)⟩
      have k1 := sY.key_le ht hy' (by omega)
      have k2 := hi s x' y' (by omega) (by omega) hx' hy'
      have k3 := sX.key_le hx' hu (by omega)
      exact LtT.of_key (by omega)
    · cases ht

set_option maxHeartbeats 8000000 in
set_option maxRecDepth 100000 in
theorem symMerge_c (h0 : ∀ x, (c0 x).oneCell' = true) (h1 : ∀ x, (c1 x).oneCell' = true) (hcell2 : ∀ x, (c2 x).oneCell' = true) (hcell3 : ∀ x, (c3 x).oneCell' = true) (hcell4 : ∀ x, (c4 x).oneCell' = true) (hcell5 : ∀ x, (c5 x).oneCell' = true) (f : Nat) (caps : Array Value) (cf : α → α → Int) (hcf : ∀ x y, cf x y < 0 ↔ key x < key y) (g n cap base : Nat) (w0 : World) (hn : n ≤ 1000000)
    (hC : CmpC f caps c0 c1 c2 c3 c4 c5 cf w0 g) (N : Nat) : ∀ (A X Y B : List α) (a m b : Nat) (w : World) (R), X.length + Y.length ≤ N →
    St 32 6 (fun x => [c0 x, c1 x, c2 x, c3 x, c4 x, c5 x]) w0 g n cap base (A ++ X ++ Y ++ B) w → A.length = a → a + X.length = m → m + Y.length = b → 0 < X.length → 0 < Y.length → Srt key tag X → Srt key tag Y → (∀ x ∈ X, ∀ y ∈ Y, tag x < tag y) →
    (∀ w' M, M.Perm (X ++ Y) → Srt key tag M → St 32 6 (fun x => [c0 x, c1 x, c2 x, c3 x, c4 x, c5 x]) w0 g n cap base (A ++ M ++ B) w' → R (.returned (.tuple #[])) w') →
    Calls Tryz.prog 104 #[.slice (some ⟨g, 0, none⟩) n cap, .int .i64 a, .int .i64 m, .int .i64 b, .func (.func f) #[] caps] w R := by
  induction N with
  | zero => intro A X Y B a m b w R hN _ _ _ _ hx0; omega
  | succ N ih =>
    intro A X Y B a m b w R hN S ha hm hb hx0 hy0 sX sY hT hR
    by_cases hx1 : X.length = 1
    · obtain ⟨x, rfl⟩ : ∃ x, X = [x] := List.length_eq_one_iff.1 hx1
      exact symMerge_one h0 h1 hcell2 hcell3 hcell4 hcell5 f caps cf hcf g n cap base A Y B x a m b w0 w R hn hC S ha (by simpa using hm) hb sY (fun y hy => hT x (by simp) y hy) hR
    · by_cases hy1 : Y.length = 1
      · obtain ⟨y, rfl⟩ : ∃ y, Y = [y] := List.length_eq_one_iff.1 hy1
        exact symMerge_last h0 h1 hcell2 hcell3 hcell4 hcell5 f caps cf hcf g n cap base A X B y a m b w0 w R hn hC S ha hm (by simpa using hb) (by omega) sX (fun x hx => hT x hx y (by simp)) hR
      · have mx := mixed
        have HR := hide hR; have HS := hide S
        have hlen := S.len
        have hbn : b ≤ n := by simp at hlen; omega
        have hk : ∀ x : α, [c0 x, c1 x, c2 x, c3 x, c4 x, c5 x].length = 6 := fun _ => rfl
        have hma : ((m : Int) - (a : Int) == 1) = false := by simp; omega
        have hbm : ((b : Int) - (m : Int) == 1) = false := by simp; omega
        obtain ⟨mid, hmid⟩ : ∃ mid : Nat, mid = (a + b) / 2 := ⟨_, rfl⟩
        have hmz : ((a : Int) + (b : Int)) / 2 = (mid : Int) := by omega
        have hm1 : 2 * mid ≤ a + b ∧ a + b ≤ 2 * mid + 1 := by omega
        have hab : a + 4 ≤ b ∧ a + 2 ≤ m ∧ m + 2 ≤ b := by omega
        have Ha := hide ha; have Hm := hide hm; have Hb := hide hb; have HC := hide hC; have Hcf := hide hcf; have HsX := hide sX; have HsY := hide sY; have HT := hide hT
        have Hih := hide ih
        have HN := hide hN
        clear hR S hlen ha hm hb hC hcf sX sY hT ih hN hmid hx0 hy0 hx1 hy1
        obtain ⟨s0, r0, hsr⟩ : ∃ s0 r0 : Nat, (s0 = a ∧ r0 = m ∧ m ≤ mid) ∨ (s0 + b = mid + m ∧ r0 = mid ∧ mid < m) := by
          by_cases h : m ≤ mid
          · exact ⟨a, m, .inl ⟨rfl, rfl, h⟩⟩
          · exact ⟨mid + m - b, mid, .inr ⟨by omega, rfl, by omega⟩⟩
        have Hsr := hide hsr
        have hso : a ≤ s0 ∧ s0 ≤ r0 ∧ r0 ≤ mid ∧ r0 ≤ m := by omega
        have hw : w = w := rfl
        have hstart : (¬ ((mid : Int) < (m : Int)) ∧ Hid (s0 = a ∧ r0 = m)) ∨ (((mid : Int) < (m : Int)) ∧ Hid (s0 + b = mid + m ∧ r0 = mid)) := by
          rcases hsr with ⟨e1, e2, hc⟩ | ⟨e1, e2, hc⟩
          · exact .inl ⟨by omega, hide ⟨e1, e2⟩⟩
          · exact .inr ⟨by omega, hide ⟨e1, e2⟩⟩
        clear hsr hw
        rcases hstart with ⟨hc, hst⟩ | ⟨hc, hst⟩
        all_goals
          go_enter Tryz.func104, Tryz.ntmps104
          go_wp2
          clear hma hbm hmz
          go_loopw [20, 21] (fun ss sr wr => ∃ s r : Nat, ss = .int .i64 s ∧ sr = .int .i64 r ∧ s0 ≤ s ∧ s ≤ r ∧ r ≤ r0 ∧
              Hid (∀ c x y, s0 ≤ c → c < s → X[c - a]? = some x → Y[mid + m - 1 - c - m]? = some y → key x ≤ key y) ∧
              Hid (∀ c x y, r ≤ c → c < r0 → X[c - a]? = some x → Y[mid + m - 1 - c - m]? = some y → key y < key x) ∧
              Hid (St 32 6 (fun x => [c0 x, c1 x, c2 x, c3 x, c4 x, c5 x]) w0 g n cap base (A ++ X ++ Y ++ B) wr)) (fun ss sr _ => (intOf sr).toNat - (intOf ss).toNat)
          case atStart =>
            have := hst.out
            exact ⟨s0, r0, by apply congrArg (Value.int .i64); omega, by apply congrArg (Value.int .i64); omega, Nat.le_refl _, hso.2.1, Nat.le_refl _, hide (fun c x y h1 h2 => by omega), hide (fun c x y h1 h2 => by omega), HS⟩
          case round =>
            clear HS
            obtain ⟨s, r, rfl, rfl, hs1, hs2, hs3, hlo, hhi, HS⟩ := hrel
            by_cases hlt : s < r
            · obtain ⟨c, hcc⟩ : ∃ c : Nat, c = (s + r) / 2 := ⟨_, rfl⟩
              have hcz : ((s : Int) + (r : Int)) / 2 = (c : Int) := by omega
              have hb1 : s ≤ c ∧ c < r := by omega
              clear hcc
              obtain ⟨pc, hpc⟩ : ∃ pc : Nat, pc = mid + m - 1 - c := ⟨_, rfl⟩
              have hpcb : m ≤ pc ∧ pc < b := by have h7 := Hsr.out; omega
              have hpz : (mid : Int) + (m : Int) - 1 - (c : Int) = (pc : Int) := by omega
              have hpw : IntKind.i64.wrap (pc : Int) = (pc : Int) := IntWalk.i64_in _ (by omega)
              obtain ⟨x, hx⟩ : ∃ x, X[c - a]? = some x := by
                have := Hm.out
                exact ⟨_, List.getElem?_eq_getElem (show c - a < X.length by omega)⟩
              obtain ⟨y, hy⟩ : ∃ y, Y[pc - m]? = some y := by
                have := Hb.out
                exact ⟨_, List.getElem?_eq_getElem (show pc - m < Y.length by omega)⟩
              have S1 := HS.out
              have p1 : (A ++ X ++ Y ++ B)[c]? = some x := by
                have := at_left A X Y B (c - a) (List.getElem?_eq_some_iff.1 hx).1
                rw [Ha.out, show a + (c - a) = c by omega, hx] at this
                exact this
              have p2 : (A ++ X ++ Y ++ B)[pc]? = some y := by
                have := at_right A X Y B (pc - m) (List.getElem?_eq_some_iff.1 hy).1
                rw [Ha.out, Hm.out, show m + (pc - m) = pc by omega, hy] at this
                exact this
              have f0 := fun q os => S1.cell_g hk p1 0 rfl q os
              have f1 := fun q os => S1.cell_g hk p1 1 rfl q os
              have f2 := fun q os => S1.cell_g hk p1 2 rfl q os
              have f3 := fun q os => S1.cell_g hk p1 3 rfl q os
              have f4 := fun q os => S1.cell_g hk p1 4 rfl q os
              have f5 := fun q os => S1.cell_g hk p1 5 rfl q os
              have f6 := fun q os => S1.cell_g hk p2 0 rfl q os
              have f7 := fun q os => S1.cell_g hk p2 1 rfl q os
              have f8 := fun q os => S1.cell_g hk p2 2 rfl q os
              have f9 := fun q os => S1.cell_g hk p2 3 rfl q os
              have f10 := fun q os => S1.cell_g hk p2 4 rfl q os
              have f11 := fun q os => S1.cell_g hk p2 5 rfl q os
              simp only [Nat.add_zero] at f0 f6
              have hcg : ∀ q os, Calls Tryz.prog f (#[.agg #[c0 y, c1 y, c2 y, c3 y, c4 y, c5 y], .agg #[c0 x, c1 x, c2 x, c3 x, c4 x, c5 x]] ++ caps) (grow (wr.drewN q) os) fun e w' => e = .returned (.int .i64 (cf y x)) ∧ ∃ q' os', w' = grow ((grow (wr.drewN q) os).drewN q') os' :=
                fun q os => HC.out.calls _ (grownBy_grow S1.grown q os) y x
              have he := HC.out.enters
              have jz : (c : Int) < (n : Int) := by omega
              have jz1 : (pc : Int) < (n : Int) := by omega
              have Hcases : Hid ((¬ cf y x < 0 → ∀ d x y, s0 ≤ d → d < c + 1 → X[d - a]? = some x → Y[mid + m - 1 - d - m]? = some y → key x ≤ key y) ∧
                  (cf y x < 0 → ∀ d x y, c ≤ d → d < r0 → X[d - a]? = some x → Y[mid + m - 1 - d - m]? = some y → key y < key x)) := by
                have h9 := Hsr.out
                refine hide ⟨fun hcf' d x' y' h1 h2 h3 h4 => ?_, fun hcf' d x' y' h1 h2 h3 h4 => ?_⟩
                · have e1 := HsX.out.key_le h3 hx (by omega)
                  have e2 := HsY.out.key_le hy h4 (by omega)
                  have e3 : ¬ key y < key x := fun h => hcf' ((Hcf.out y x).2 h)
                  omega
                · have e1 := HsX.out.key_le hx h3 (by omega)
                  have e2 := HsY.out.key_le h4 hy (by omega)
                  have e3 := (Hcf.out y x).1 hcf'
                  omega
              clear p1 p2 hx hy hpc
              go_wp2
              clear hcz
              by_cases hlv : cf y x < 0
              · go_quiet_grown (first | (go_at_fn f; refine Calls.grown_of (hcg _ _)))
                go_wp2_with fail
                go_roundw
                case rel => exact ⟨s, c, rfl, rfl, by omega, by omega, by omega, hlo, hide (Hcases.out.2 hlv), hide (S1.grow _ _)⟩
                case measure => simp [intOf]; omega
              · go_quiet_grown (first | (go_at_fn f; refine Calls.grown_of (hcg _ _)))
                go_wp2_with fail
                go_roundw
                case rel => exact ⟨c + 1, r, by go_num, rfl, by omega, by omega, by omega, hide (Hcases.out.1 (by omega)), hhi, hide (S1.grow _ _)⟩
                case measure => simp [intOf]; omega
            · have hje : s = r := by omega
              subst hje
              have h9 := Hsr.out
              obtain ⟨e, he0⟩ : ∃ e : Nat, e = mid + m - s := ⟨_, rfl⟩
              have hes : a ≤ s ∧ s ≤ m ∧ s ≤ mid ∧ mid ≤ e ∧ e ≤ b ∧ m ≤ e ∧ e + s = mid + m := by omega
              have hez : (mid : Int) + (m : Int) - (s : Int) = (e : Int) := by omega
              obtain ⟨F1, F2⟩ := cross HsX.out HsY.out HT.out a m b mid s0 r0 s Hm.out Hb.out hm1 h9 hs1 hs3 hlo.out hhi.out
              rw [← he0] at F1 F2
              have l1 : (X.take (s - a)).length = s - a := by rw [List.length_take]; have := Hm.out; omega
              have l2 : (X.drop (s - a)).length = m - s := by rw [List.length_drop]; have := Hm.out; omega
              have l3 : (Y.take (e - m)).length = e - m := by rw [List.length_take]; have := Hb.out; omega
              have l4 : (Y.drop (e - m)).length = b - e := by rw [List.length_drop]; have := Hb.out; omega
              have eX : X = X.take (s - a) ++ X.drop (s - a) := (List.take_append_drop _ _).symm
              have eY : Y = Y.take (e - m) ++ Y.drop (e - m) := (List.take_append_drop _ _).symm
              generalize X.take (s - a) = X1 at *
              generalize X.drop (s - a) = X2 at *
              generalize Y.take (e - m) = Y1 at *
              generalize Y.drop (e - m) = Y2 at *
              have sX := HsX.out
              have sY := HsY.out
              rw [eX, Srt, List.pairwise_append] at sX
              rw [eY, Srt, List.pairwise_append] at sY
              have hTT := HT.out
              have Hall := hide (show Srt key tag X1 ∧ Srt key tag Y1 ∧ (∀ x ∈ X1, ∀ y ∈ Y1, tag x < tag y) ∧ Srt key tag X2 ∧ Srt key tag Y2 ∧ (∀ x ∈ X2, ∀ y ∈ Y2, tag x < tag y) ∧ True from
                ⟨sX.1, sY.1, fun x hx y hy => hTT x (by rw [eX]; simp [hx]) y (by rw [eY]; simp [hy]), sX.2.1, sY.2.1, fun x hx y hy => hTT x (by rw [eX]; simp [hx]) y (by rw [eY]; simp [hy]), trivial⟩)
              have Fin : Hid (∀ w' M1 M2, M1.Perm (X1 ++ Y1) → Srt key tag M1 → M2.Perm (X2 ++ Y2) → Srt key tag M2 → St 32 6 (fun x => [c0 x, c1 x, c2 x, c3 x, c4 x, c5 x]) w0 g n cap base (A ++ M1 ++ M2 ++ B) w' → R (.returned (.tuple #[])) w') := hide (fun w' M1 M2 p1 s1 p2 s2 hS => by
                refine HR.out w' (M1 ++ M2) ?_ ?_ (by simpa using hS)
                · refine (p1.append p2).trans ?_
                  rw [eX, eY]
                  have q1 : (X1 ++ Y1 ++ (X2 ++ Y2)).Perm (X1 ++ (Y1 ++ X2 ++ Y2)) := by rw [List.append_assoc, List.append_assoc]
                  refine q1.trans ?_
                  have q2 : (X1 ++ X2 ++ (Y1 ++ Y2)) = X1 ++ (X2 ++ Y1 ++ Y2) := by simp
                  rw [q2]
                  exact List.Perm.append_left _ (List.Perm.append_right _ List.perm_append_comm)
                · unfold Srt at *
                  rw [List.pairwise_append]
                  refine ⟨s1, s2, fun u hu v hv => ?_⟩
                  rcases List.mem_append.1 (p1.mem_iff.1 hu) with hu | hu
                  · rcases List.mem_append.1 (p2.mem_iff.1 hv) with hv | hv
                    · exact sX.2.2 u hu v hv
                    · exact F1 u hu v hv
                  · rcases List.mem_append.1 (p2.mem_iff.1 hv) with hv | hv
                    · exact F2 u hu v hv
                    · exact sY.2.2 u hu v hv)
              have Hl := hide (And.intro l1 (And.intro l2 (And.intro l3 l4)))
              have He := hide (And.intro eX eY)
              have HS2 := hide (show St 32 6 (fun x => [c0 x, c1 x, c2 x, c3 x, c4 x, c5 x]) w0 g n cap base (A ++ X1 ++ X2 ++ Y1 ++ (Y2 ++ B)) wr by have := HS.out; rw [eX, eY] at this; simpa using this)
              have hN2 := HN.out
              have hXl := Hm.out
              have hYl := Hb.out
              clear F1 F2 sX sY hTT l1 l2 l3 l4 eX eY HS hlo hhi he0 h9
              by_cases hx2 : m ≤ s
              · by_cases hy1 : e ≤ m
                · first
                  | (exfalso; omega)
                  | (have hx2 : X2 = [] := List.eq_nil_of_length_eq_zero (by rw [Hl.out.2.1]; omega)
                     have HS3 := hide (show St 32 6 (fun x => [c0 x, c1 x, c2 x, c3 x, c4 x, c5 x]) w0 g n cap base (A ++ X1 ++ Y1 ++ (X2 ++ Y2 ++ B)) wr by have := HS2.out; rw [hx2] at this ⊢; simpa using this)
                     have i1 : ¬ (s : Int) < (m : Int) := by omega
                     clear hx2
                     have hz : Y1 = [] := List.eq_nil_of_length_eq_zero (by rw [Hl.out.2.2.1]; omega)
                     have HM1 := hide (show (X1 ++ Y1).Perm (X1 ++ Y1) ∧ Srt key tag (X1 ++ Y1) from ⟨List.Perm.refl _, by rw [hz]; simpa using Hall.out.1⟩)
                     have i3 : (a : Int) < (s : Int) := by omega
                     have i4 : ¬ (s : Int) < (mid : Int) := by omega
                     have HS4 := hide (show St 32 6 (fun x => [c0 x, c1 x, c2 x, c3 x, c4 x, c5 x]) w0 g n cap base (A ++ (X1 ++ Y1) ++ X2 ++ Y2 ++ B) _ by simpa using HS3.out)
                     clear hz
                     generalize hM1 : X1 ++ Y1 = M1 at HS4
                     have HM1' := hide (show M1.Perm (X1 ++ Y1) ∧ Srt key tag M1 by rw [← hM1]; exact HM1.out)
                     clear hM1 HM1
                     have HM1 := HM1'
                     clear HM1'
                     have hz : X2 = [] := List.eq_nil_of_length_eq_zero (by rw [Hl.out.2.1]; omega)
                     have HM2 := hide (show Srt key tag (X2 ++ Y2) by rw [hz]; simpa using Hall.out.2.2.2.2.1)
                     have i5 : ¬ (mid : Int) < (e : Int) := by omega
                     have HS5 := hide (show St 32 6 (fun x => [c0 x, c1 x, c2 x, c3 x, c4 x, c5 x]) w0 g n cap base (A ++ M1 ++ (X2 ++ Y2) ++ B) _ by simpa using HS4.out)
                     clear hz
                     go_wp2
                     go_end0
                     exact Fin.out _ M1 (X2 ++ Y2) HM1.out.1 HM1.out.2 (List.Perm.refl _) HM2.out HS5.out)

                · first
                  | (exfalso; omega)
                  | (have hx2 : X2 = [] := List.eq_nil_of_length_eq_zero (by rw [Hl.out.2.1]; omega)
                     have HS3 := hide (show St 32 6 (fun x => [c0 x, c1 x, c2 x, c3 x, c4 x, c5 x]) w0 g n cap base (A ++ X1 ++ Y1 ++ (X2 ++ Y2 ++ B)) wr by have := HS2.out; rw [hx2] at this ⊢; simpa using this)
                     have i1 : ¬ (s : Int) < (m : Int) := by omega
                     clear hx2
                     have i3 : (a : Int) < (s : Int) := by omega
                     have i4 : (s : Int) < (mid : Int) := by omega
                     go_wp2_with (go_at_call 104; refine Stop.out ?_)
                     refine Stop.go (Hih.out A X1 Y1 (X2 ++ Y2 ++ B) a s mid _ _ (by rw [Hl.out.1, Hl.out.2.2.1]; omega) HS3.out Ha.out (by rw [Hl.out.1]; omega) (by rw [Hl.out.2.2.1]; omega) (by rw [Hl.out.1]; omega) (by rw [Hl.out.2.2.1]; omega) Hall.out.1 Hall.out.2.1 Hall.out.2.2.1 ?_)
                     intro w3 M1 pm1 so1 S3
                     have HM1 := hide (And.intro pm1 so1)
                     have HS4 := hide (show St 32 6 (fun x => [c0 x, c1 x, c2 x, c3 x, c4 x, c5 x]) w0 g n cap base (A ++ M1 ++ X2 ++ Y2 ++ B) w3 by simpa using S3)
                     clear pm1 so1 S3
                     have hz : X2 = [] := List.eq_nil_of_length_eq_zero (by rw [Hl.out.2.1]; omega)
                     have HM2 := hide (show Srt key tag (X2 ++ Y2) by rw [hz]; simpa using Hall.out.2.2.2.2.1)
                     have i5 : ¬ (mid : Int) < (e : Int) := by omega
                     have HS5 := hide (show St 32 6 (fun x => [c0 x, c1 x, c2 x, c3 x, c4 x, c5 x]) w0 g n cap base (A ++ M1 ++ (X2 ++ Y2) ++ B) _ by simpa using HS4.out)
                     clear hz
                     go_wp2
                     go_end0
                     exact Fin.out _ M1 (X2 ++ Y2) HM1.out.1 HM1.out.2 (List.Perm.refl _) HM2.out HS5.out)

              · by_cases hy1 : e ≤ m
                · first
                  | (exfalso; omega)
                  | (have hy1 : Y1 = [] := List.eq_nil_of_length_eq_zero (by rw [Hl.out.2.2.1]; omega)
                     have HS3 := hide (show St 32 6 (fun x => [c0 x, c1 x, c2 x, c3 x, c4 x, c5 x]) w0 g n cap base (A ++ X1 ++ Y1 ++ (X2 ++ Y2 ++ B)) wr by have := HS2.out; rw [hy1] at this ⊢; simpa using this)
                     have i1 : (s : Int) < (m : Int) := by omega
                     have i2 : ¬ (m : Int) < (e : Int) := by omega
                     clear hy1
                     have hz : Y1 = [] := List.eq_nil_of_length_eq_zero (by rw [Hl.out.2.2.1]; omega)
                     have HM1 := hide (show (X1 ++ Y1).Perm (X1 ++ Y1) ∧ Srt key tag (X1 ++ Y1) from ⟨List.Perm.refl _, by rw [hz]; simpa using Hall.out.1⟩)
                     have i3 : (a : Int) < (s : Int) := by omega
                     have i4 : ¬ (s : Int) < (mid : Int) := by omega
                     have HS4 := hide (show St 32 6 (fun x => [c0 x, c1 x, c2 x, c3 x, c4 x, c5 x]) w0 g n cap base (A ++ (X1 ++ Y1) ++ X2 ++ Y2 ++ B) _ by simpa using HS3.out)
                     clear hz
                     generalize hM1 : X1 ++ Y1 = M1 at HS4
                     have HM1' := hide (show M1.Perm (X1 ++ Y1) ∧ Srt key tag M1 by rw [← hM1]; exact HM1.out)
                     clear hM1 HM1
                     have HM1 := HM1'
                     clear HM1'
                     have i5 : (mid : Int) < (e : Int) := by omega
                     have i6 : (e : Int) < (b : Int) := by omega
                     go_wp2_with (go_at_call 104; refine Stop.out ?_)
                     refine Stop.go (Hih.out (A ++ M1) X2 Y2 B mid e b _ _ (by rw [Hl.out.2.1, Hl.out.2.2.2]; omega) HS4.out (by rw [List.length_append, Ha.out, HM1.out.1.length_eq, List.length_append, Hl.out.1, Hl.out.2.2.1]; omega) (by rw [Hl.out.2.1]; omega) (by rw [Hl.out.2.2.2]; omega) (by rw [Hl.out.2.1]; omega) (by rw [Hl.out.2.2.2]; omega) Hall.out.2.2.2.1 Hall.out.2.2.2.2.1 Hall.out.2.2.2.2.2.1 ?_)
                     intro w4 M2 pm2 so2 S4
                     have HM2 := hide (And.intro pm2 so2)
                     have HS5 := hide S4
                     clear pm2 so2 S4
                     go_wp2
                     go_end0
                     exact Fin.out _ M1 M2 HM1.out.1 HM1.out.2 HM2.out.1 HM2.out.2 HS5.out)

                · by_cases hx1 : s ≤ a
                  · by_cases hy2 : b ≤ e
                    · first
                      | (exfalso; omega)
                      | (have i1 : (s : Int) < (m : Int) := by omega
                         have i2 : (m : Int) < (e : Int) := by omega
                         go_wp2_with (go_at_call 130; refine Stop.out ?_)
                         refine Stop.go (rotate_c h0 h1 hcell2 hcell3 hcell4 hcell5 g n cap base _ (A ++ X1) X2 Y1 (Y2 ++ B) s m e w0 _ _ hn HS2.out (by rw [List.length_append, Ha.out, Hl.out.1]; omega) (by rw [Hl.out.2.1]; omega) (by rw [Hl.out.2.2.1]; omega) (by rw [Hl.out.2.1]; omega) (by rw [Hl.out.2.2.1]; omega) ?_)
                         intro w2 S2
                         have HS3 := hide (show St 32 6 (fun x => [c0 x, c1 x, c2 x, c3 x, c4 x, c5 x]) w0 g n cap base (A ++ X1 ++ Y1 ++ (X2 ++ Y2 ++ B)) w2 by simpa using S2)
                         clear S2
                         have hz : X1 = [] := List.eq_nil_of_length_eq_zero (by rw [Hl.out.1]; omega)
                         have HM1 := hide (show (X1 ++ Y1).Perm (X1 ++ Y1) ∧ Srt key tag (X1 ++ Y1) from ⟨List.Perm.refl _, by rw [hz]; simpa using Hall.out.2.1⟩)
                         have i3 : ¬ (a : Int) < (s : Int) := by omega
                         have HS4 := hide (show St 32 6 (fun x => [c0 x, c1 x, c2 x, c3 x, c4 x, c5 x]) w0 g n cap base (A ++ (X1 ++ Y1) ++ X2 ++ Y2 ++ B) _ by simpa using HS3.out)
                         clear hz
                         generalize hM1 : X1 ++ Y1 = M1 at HS4
                         have HM1' := hide (show M1.Perm (X1 ++ Y1) ∧ Srt key tag M1 by rw [← hM1]; exact HM1.out)
                         clear hM1 HM1
                         have HM1 := HM1'
                         clear HM1'
                         have hz : Y2 = [] := List.eq_nil_of_length_eq_zero (by rw [Hl.out.2.2.2]; omega)
                         have HM2 := hide (show Srt key tag (X2 ++ Y2) by rw [hz]; simpa using Hall.out.2.2.2.1)
                         have i5 : (mid : Int) < (e : Int) := by omega
                         have i6 : ¬ (e : Int) < (b : Int) := by omega
                         have HS5 := hide (show St 32 6 (fun x => [c0 x, c1 x, c2 x, c3 x, c4 x, c5 x]) w0 g n cap base (A ++ M1 ++ (X2 ++ Y2) ++ B) _ by simpa using HS4.out)
                         clear hz
                         go_wp2
                         go_end0
                         exact Fin.out _ M1 (X2 ++ Y2) HM1.out.1 HM1.out.2 (List.Perm.refl _) HM2.out HS5.out)

                    · first
                      | (exfalso; omega)
                      | (have i1 : (s : Int) < (m : Int) := by omega
                         have i2 : (m : Int) < (e : Int) := by omega
                         go_wp2_with (go_at_call 130; refine Stop.out ?_)
                         refine Stop.go (rotate_c h0 h1 hcell2 hcell3 hcell4 hcell5 g n cap base _ (A ++ X1) X2 Y1 (Y2 ++ B) s m e w0 _ _ hn HS2.out (by rw [List.length_append, Ha.out, Hl.out.1]; omega) (by rw [Hl.out.2.1]; omega) (by rw [Hl.out.2.2.1]; omega) (by rw [Hl.out.2.1]; omega) (by rw [Hl.out.2.2.1]; omega) ?_)
                         intro w2 S2
                         have HS3 := hide (show St 32 6 (fun x => [c0 x, c1 x, c2 x, c3 x, c4 x, c5 x]) w0 g n cap base (A ++ X1 ++ Y1 ++ (X2 ++ Y2 ++ B)) w2 by simpa using S2)
                         clear S2
                         have hz : X1 = [] := List.eq_nil_of_length_eq_zero (by rw [Hl.out.1]; omega)
                         have HM1 := hide (show (X1 ++ Y1).Perm (X1 ++ Y1) ∧ Srt key tag (X1 ++ Y1) from ⟨List.Perm.refl _, by rw [hz]; simpa using Hall.out.2.1⟩)
                         have i3 : ¬ (a : Int) < (s : Int) := by omega
                         have HS4 := hide (show St 32 6 (fun x => [c0 x, c1 x, c2 x, c3 x, c4 x, c5 x]) w0 g n cap base (A ++ (X1 ++ Y1) ++ X2 ++ Y2 ++ B) _ by simpa using HS3.out)
                         clear hz
                         generalize hM1 : X1 ++ Y1 = M1 at HS4
                         have HM1' := hide (show M1.Perm (X1 ++ Y1) ∧ Srt key tag M1 by rw [← hM1]; exact HM1.out)
                         clear hM1 HM1
                         have HM1 := HM1'
                         clear HM1'
                         have i5 : (mid : Int) < (e : Int) := by omega
                         have i6 : (e : Int) < (b : Int) := by omega
                         go_wp2_with (go_at_call 104; refine Stop.out ?_)
                         refine Stop.go (Hih.out (A ++ M1) X2 Y2 B mid e b _ _ (by rw [Hl.out.2.1, Hl.out.2.2.2]; omega) HS4.out (by rw [List.length_append, Ha.out, HM1.out.1.length_eq, List.length_append, Hl.out.1, Hl.out.2.2.1]; omega) (by rw [Hl.out.2.1]; omega) (by rw [Hl.out.2.2.2]; omega) (by rw [Hl.out.2.1]; omega) (by rw [Hl.out.2.2.2]; omega) Hall.out.2.2.2.1 Hall.out.2.2.2.2.1 Hall.out.2.2.2.2.2.1 ?_)
                         intro w4 M2 pm2 so2 S4
                         have HM2 := hide (And.intro pm2 so2)
                         have HS5 := hide S4
                         clear pm2 so2 S4
                         go_wp2
                         go_end0
                         exact Fin.out _ M1 M2 HM1.out.1 HM1.out.2 HM2.out.1 HM2.out.2 HS5.out)

                  · by_cases hy2 : b ≤ e
                    · first
                      | (exfalso; omega)
                      | (have i1 : (s : Int) < (m : Int) := by omega
                         have i2 : (m : Int) < (e : Int) := by omega
                         go_wp2_with (go_at_call 130; refine Stop.out ?_)
                         refine Stop.go (rotate_c h0 h1 hcell2 hcell3 hcell4 hcell5 g n cap base _ (A ++ X1) X2 Y1 (Y2 ++ B) s m e w0 _ _ hn HS2.out (by rw [List.length_append, Ha.out, Hl.out.1]; omega) (by rw [Hl.out.2.1]; omega) (by rw [Hl.out.2.2.1]; omega) (by rw [Hl.out.2.1]; omega) (by rw [Hl.out.2.2.1]; omega) ?_)
                         intro w2 S2
                         have HS3 := hide (show St 32 6 (fun x => [c0 x, c1 x, c2 x, c3 x, c4 x, c5 x]) w0 g n cap base (A ++ X1 ++ Y1 ++ (X2 ++ Y2 ++ B)) w2 by simpa using S2)
                         clear S2
                         have i3 : (a : Int) < (s : Int) := by omega
                         have i4 : (s : Int) < (mid : Int) := by omega
                         go_wp2_with (go_at_call 104; refine Stop.out ?_)
                         refine Stop.go (Hih.out A X1 Y1 (X2 ++ Y2 ++ B) a s mid _ _ (by rw [Hl.out.1, Hl.out.2.2.1]; omega) HS3.out Ha.out (by rw [Hl.out.1]; omega) (by rw [Hl.out.2.2.1]; omega) (by rw [Hl.out.1]; omega) (by rw [Hl.out.2.2.1]; omega) Hall.out.1 Hall.out.2.1 Hall.out.2.2.1 ?_)
                         intro w3 M1 pm1 so1 S3
                         have HM1 := hide (And.intro pm1 so1)
                         have HS4 := hide (show St 32 6 (fun x => [c0 x, c1 x, c2 x, c3 x, c4 x, c5 x]) w0 g n cap base (A ++ M1 ++ X2 ++ Y2 ++ B) w3 by simpa using S3)
                         clear pm1 so1 S3
                         have hz : Y2 = [] := List.eq_nil_of_length_eq_zero (by rw [Hl.out.2.2.2]; omega)
                         have HM2 := hide (show Srt key tag (X2 ++ Y2) by rw [hz]; simpa using Hall.out.2.2.2.1)
                         have i5 : (mid : Int) < (e : Int) := by omega
                         have i6 : ¬ (e : Int) < (b : Int) := by omega
                         have HS5 := hide (show St 32 6 (fun x => [c0 x, c1 x, c2 x, c3 x, c4 x, c5 x]) w0 g n cap base (A ++ M1 ++ (X2 ++ Y2) ++ B) _ by simpa using HS4.out)
                         clear hz
                         go_wp2
                         go_end0
                         exact Fin.out _ M1 (X2 ++ Y2) HM1.out.1 HM1.out.2 (List.Perm.refl _) HM2.out HS5.out)

                    · first
                      | (exfalso; omega)
                      | (have i1 : (s : Int) < (m : Int) := by omega
                         have i2 : (m : Int) < (e : Int) := by omega
                         go_wp2_with (go_at_call 130; refine Stop.out ?_)
                         refine Stop.go (rotate_c h0 h1 hcell2 hcell3 hcell4 hcell5 g n cap base _ (A ++ X1) X2 Y1 (Y2 ++ B) s m e w0 _ _ hn HS2.out (by rw [List.length_append, Ha.out, Hl.out.1]; omega) (by rw [Hl.out.2.1]; omega) (by rw [Hl.out.2.2.1]; omega) (by rw [Hl.out.2.1]; omega) (by rw [Hl.out.2.2.1]; omega) ?_)
                         intro w2 S2
                         have HS3 := hide (show St 32 6 (fun x => [c0 x, c1 x, c2 x, c3 x, c4 x, c5 x]) w0 g n cap base (A ++ X1 ++ Y1 ++ (X2 ++ Y2 ++ B)) w2 by simpa using S2)
                         clear S2
                         have i3 : (a : Int) < (s : Int) := by omega
                         have i4 : (s : Int) < (mid : Int) := by omega
                         go_wp2_with (go_at_call 104; refine Stop.out ?_)
                         refine Stop.go (Hih.out A X1 Y1 (X2 ++ Y2 ++ B) a s mid _ _ (by rw [Hl.out.1, Hl.out.2.2.1]; omega) HS3.out Ha.out (by rw [Hl.out.1]; omega) (by rw [Hl.out.2.2.1]; omega) (by rw [Hl.out.1]; omega) (by rw [Hl.out.2.2.1]; omega) Hall.out.1 Hall.out.2.1 Hall.out.2.2.1 ?_)
                         intro w3 M1 pm1 so1 S3
                         have HM1 := hide (And.intro pm1 so1)
                         have HS4 := hide (show St 32 6 (fun x => [c0 x, c1 x, c2 x, c3 x, c4 x, c5 x]) w0 g n cap base (A ++ M1 ++ X2 ++ Y2 ++ B) w3 by simpa using S3)
                         clear pm1 so1 S3
                         have i5 : (mid : Int) < (e : Int) := by omega
                         have i6 : (e : Int) < (b : Int) := by omega
                         go_wp2_with (go_at_call 104; refine Stop.out ?_)
                         refine Stop.go (Hih.out (A ++ M1) X2 Y2 B mid e b _ _ (by rw [Hl.out.2.1, Hl.out.2.2.2]; omega) HS4.out (by rw [List.length_append, Ha.out, HM1.out.1.length_eq, List.length_append, Hl.out.1, Hl.out.2.2.1]; omega) (by rw [Hl.out.2.1]; omega) (by rw [Hl.out.2.2.2]; omega) (by rw [Hl.out.2.1]; omega) (by rw [Hl.out.2.2.2]; omega) Hall.out.2.2.2.1 Hall.out.2.2.2.2.1 Hall.out.2.2.2.2.2.1 ?_)
                         intro w4 M2 pm2 so2 S4
                         have HM2 := hide (And.intro pm2 so2)
                         have HS5 := hide S4
                         clear pm2 so2 S4
                         go_wp2
                         go_end0
                         exact Fin.out _ M1 M2 HM1.out.1 HM1.out.2 HM2.out.1 HM2.out.2 HS5.out)
end
end Go.Proofs.YtkabghifdedmfaaGreatDoor
