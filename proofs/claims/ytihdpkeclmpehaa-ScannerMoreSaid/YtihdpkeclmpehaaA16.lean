/-  -/
import Derived.Test.YtihdpkeclmpehaaA15
import Derived.Test.YtihdpkeclmpehaaA10
set_option linter.unusedVariables false
set_option linter.unusedSimpArgs false
namespace Go.Proofs.Ytihdpkeclmpehaa.D
open Go.RowKit Go.Sort

section
variable {α : Type} {c0 : α → Value} {key : α → Int} {tag : α → Nat}

set_option maxHeartbeats 4000000 in
set_option maxRecDepth 100000 in
theorem symMerge_last (h0 : ∀ x, Ifc (c0 x)) (f : Nat) (caps : Array Value) (cf : α → α → Int) (hcf : ∀ x y, cf x y < 0 ↔ key x < key y) (g n cap base : Nat) (A X B : List α) (y : α) (a m b : Nat) (w0 w : World) (R) (hn : n ≤ 1000000)
    (hC : CmpC f caps c0 cf w0 g) (S : St 88 1 (fun x => [c0 x]) w0 g n cap base (A ++ X ++ [y] ++ B) w) (ha : A.length = a) (hm : a + X.length = m) (hb : m + 1 = b) (hX2 : 2 ≤ X.length) (sX : Srt key tag X) (hT : ∀ x ∈ X, tag x < tag y)
    (hR : ∀ w' M, M.Perm (X ++ [y]) → Srt key tag M → St 88 1 (fun x => [c0 x]) w0 g n cap base (A ++ M ++ B) w' → R (.returned (.tuple #[])) w') :
    Calls Try.prog 82 #[.slice (some ⟨g, 0, none⟩) n cap, .int .i64 a, .int .i64 m, .int .i64 b, .func (.func f) #[] caps] w R := by
  have mx := mixed
  have HR := hide hR; have HS := hide S
  have hlen := S.len
  have hbn : b ≤ n := by simp at hlen; omega
  have Ha := hide ha; have Hm := hide hm; have HC := hide hC; have Hcf := hide hcf; have HsX := hide sX; have HT := hide hT
  have hma : ((m : Int) - (a : Int) == 1) = false := by simp; omega
  have hbm : (b : Int) - (m : Int) = 1 := by omega
  have ham : a ≤ m := by omega
  have Hb := hide hb
  have hk : ∀ x : α, [c0 x].length = 1 := fun _ => rfl
  clear hR S hlen ha hb hC hcf sX hT hm
  go_enter Try.func82, Try.ntmps82
  go_wp2
  clear hma
  go_loopw [14, 15] (fun si sj wr => ∃ i j : Nat, si = .int .i64 i ∧ sj = .int .i64 j ∧ a ≤ i ∧ i ≤ j ∧ j ≤ m ∧ Hid (∀ t x, X[t]? = some x → a + t < i → key x ≤ key y) ∧ Hid (∀ t x, X[t]? = some x → j ≤ a + t → key y < key x) ∧
      Hid (St 88 1 (fun x => [c0 x]) w0 g n cap base (A ++ X ++ [y] ++ B) wr)) (fun si sj _ => (intOf sj).toNat - (intOf si).toNat)
  case atStart => exact ⟨a, m, rfl, rfl, Nat.le_refl _, ham, Nat.le_refl _, hide (fun t y _ h => by omega), hide (fun t y h1 h2 => by have := (List.getElem?_eq_some_iff.1 h1).1; have := Hm.out; omega), HS⟩
  case round =>
    clear HS
    obtain ⟨i, j, rfl, rfl, hai, hij, hjm, hlo, hhi, HS⟩ := hrel
    by_cases hlt : i < j
    · obtain ⟨h, hh⟩ : ∃ h : Nat, h = (i + j) / 2 := ⟨_, rfl⟩
      have hhz : ((i : Int) + (j : Int)) / 2 = (h : Int) := by omega
      have hb1 : i ≤ h ∧ h < j := by omega
      clear hh
      go_wp2
      clear hhz
      obtain ⟨x, hx⟩ : ∃ x, X[h - a]? = some x := by
        have := Hm.out
        exact ⟨_, List.getElem?_eq_getElem (show h - a < X.length by omega)⟩
      have S1 := HS.out
      have p1 : (A ++ X ++ [y] ++ B)[m]? = some y := by
        have := at_right A X [y] B 0 (by simp)
        rw [Ha.out, Nat.add_zero, Hm.out] at this; simpa using this
      have p2 : (A ++ X ++ [y] ++ B)[h]? = some x := by
        have := at_left A X [y] B (h - a) (List.getElem?_eq_some_iff.1 hx).1
        rw [Ha.out, show a + (h - a) = h by omega, hx] at this
        exact this
      have f0 := fun q os => S1.cell_g hk p1 0 rfl q os
      have f1 := fun q os => S1.cell_g hk p2 0 rfl q os
      simp only [Nat.add_zero, Nat.mul_one] at f0 f1
      have hcg : ∀ q os, Calls Try.prog f (#[c0 y, c0 x] ++ caps) (grow (wr.drewN q) os) fun e w' => e = .returned (.int .i64 (cf y x)) ∧ ∃ q' os', w' = grow ((grow (wr.drewN q) os).drewN q') os' :=
        fun q os => HC.out.calls _ (grownBy_grow S1.grown q os) y x
      have he := HC.out.enters
      have jz : (h : Int) < (n : Int) := by omega
      have jz1 : (m : Int) < (n : Int) := by omega
      have Hx := hide hx
      clear p1 p2 hx
      have Hcases : Hid ((¬ cf y x < 0 → ∀ t z, X[t]? = some z → a + t < h + 1 → key z ≤ key y) ∧ (cf y x < 0 → ∀ t z, X[t]? = some z → h ≤ a + t → key y < key z)) := by
        refine hide ⟨fun hc t z hz ht => ?_, fun hc t z hz ht => ?_⟩
        · have h3 := HsX.out.key_le hz Hx.out (by omega)
          have h4 : ¬ key y < key x := fun h => hc ((Hcf.out y x).2 h)
          omega
        · have h3 := HsX.out.key_le Hx.out hz (by omega)
          have h4 := (Hcf.out y x).1 hc
          omega
      by_cases hlv : cf y x < 0
      · go_quiet_grown (first | (go_at_fn f; refine Calls.grown_of (hcg _ _)))
        go_wp2_with fail
        go_roundw
        case rel => exact ⟨i, h, rfl, rfl, by omega, by omega, by omega, hlo, hide (Hcases.out.2 hlv), hide (S1.grow _ _)⟩
        case measure => simp [intOf]; omega
      · go_quiet_grown (first | (go_at_fn f; refine Calls.grown_of (hcg _ _)))
        go_wp2_with fail
        go_roundw
        case rel => exact ⟨h + 1, j, by go_num, rfl, by omega, by omega, hjm, hide (Hcases.out.1 hlv), hhi, hide (S1.grow _ _)⟩
        case measure => simp [intOf]; omega
    · have hje : i = j := by omega
      subst hje
      obtain ⟨X1, X2, hX, hl1⟩ : ∃ X1 X2, X = X1 ++ X2 ∧ X1.length = i - a := ⟨X.take (i - a), X.drop (i - a), (List.take_append_drop _ _).symm, by rw [List.length_take]; have := Hm.out; omega⟩
      have k1 : ∀ x ∈ X1, key x ≤ key y := fun x hx => by
        obtain ⟨t, ht⟩ := List.getElem?_of_mem hx
        have htl := (List.getElem?_eq_some_iff.1 ht).1
        exact hlo.out t x (by rw [hX, List.getElem?_append_left htl]; exact ht) (by omega)
      have k2 : ∀ x ∈ X2, key y < key x := fun x hx => by
        obtain ⟨t, ht⟩ := List.getElem?_of_mem hx
        have := hhi.out (X1.length + t) x (by rw [hX, List.getElem?_append_right (by omega), Nat.add_sub_cancel_left]; exact ht) (by omega)
        exact this
      have Hfin : Hid (Srt key tag (X1 ++ y :: X2) ∧ (X1 ++ y :: X2).Perm (X ++ [y])) := by
        have sX := HsX.out
        rw [hX] at sX
        refine hide ⟨sX.insert (fun p hp => LtT.of_tag (by have := k1 p hp; omega) (HT.out p (by rw [hX]; simp [hp]))) (fun s hs => LtT.of_key (k2 s hs)), ?_⟩
        rw [hX]
        exact List.perm_middle.trans (List.perm_append_singleton y (X1 ++ X2)).symm
      have HX := hide hX
      have Hl1 := hide hl1
      have Hai := hide hai
      have HS2 := hide (show St 88 1 (fun x => [c0 x]) w0 g n cap base (A ++ X1 ++ X2 ++ y :: ([] ++ B)) wr by have := HS.out; rw [hX] at this; simpa using this)
      have Hl2 := hide (show i + X2.length = m by have := Hm.out; rw [hX] at this; simp at this; omega)
      clear hlo hhi HS k1 k2 hX hl1 hbm
      have hnl : ¬ (i : Int) < (i : Int) := by omega
      go_wp2
      go_loopw [17] (fun sk wr => ∃ P S : List α, sk = .int .i64 ((i : Int) + (P.length : Int)) ∧ Hid (X2 = P ++ S) ∧ Hid (St 88 1 (fun x => [c0 x]) w0 g n cap base (A ++ X1 ++ P ++ y :: (S ++ B)) wr)) (fun sk _ => (intOf sk).toNat)
      case atStart => exact ⟨X2, [], by apply congrArg (Value.int .i64); have := Hl2.out; omega, hide (by simp), HS2⟩
      case round =>
        clear HS2
        obtain ⟨P, S, rfl, hp, HS⟩ := hrel
        have hPl : i + P.length + S.length = m := by have h4 := Hl2.out; rw [hp.out] at h4; simp at h4; omega
        by_cases hP0 : P = []
        · subst hP0
          have hz : (i : Int) + (([] : List α).length : Int) = (i : Int) := by simp
          rw [hz]
          have HS3 := hide (show St 88 1 (fun x => [c0 x]) w0 g n cap base (A ++ (X1 ++ y :: X2) ++ B) wr by have := HS.out; have h5 := hp.out; rw [h5]; simpa using this)
          clear HS hPl hz
          go_wp2
          go_end0
          exact HR.out _ _ Hfin.out.2 Hfin.out.1 HS3.out
        · obtain ⟨P', x, rfl⟩ : ∃ P' x, P = P' ++ [x] := ⟨P.dropLast, P.getLast hP0, (List.dropLast_concat_getLast hP0).symm⟩
          obtain ⟨q, hq⟩ : ∃ q : Nat, q = i + P'.length := ⟨_, rfl⟩
          have hqz : (i : Int) + ((P' ++ [x]).length : Int) = (q : Int) + 1 := by simp; omega
          rw [hqz]
          have Hq := hide hq
          have hq1 : (i : Int) < (q : Int) + 1 := by omega
          have hq2 : q + 1 < n := by have h7 := Hb.out; simp only [List.length_append, List.length_cons, List.length_nil] at hPl; omega
          have e0 : ((q : Int) + 1).toNat = q + 1 := by omega
          have p0 : (0 : Int) ≤ (q : Int) + 1 := by omega
          obtain ⟨p1, p2⟩ := at_parts (A ++ X1 ++ P') [] (S ++ B) x y
          have hs := swap_parts (A ++ X1 ++ P') [] (S ++ B) x y
          have hl : (A ++ X1 ++ P').length = q := by have h1 := Ha.out; have h2 := Hl1.out; have h3 := Hai.out; rw [List.length_append, List.length_append, h1, h2, hq]; omega
          simp only [List.length_nil, Nat.add_zero] at p2 hs
          rw [hl] at p1 p2 hs
          have S1 := HS.out
          rw [show A ++ X1 ++ (P' ++ [x]) ++ y :: (S ++ B) = A ++ X1 ++ P' ++ x :: [] ++ y :: (S ++ B) by simp] at S1
          have f0 := S1.cell hk p1 0 rfl
          have f1 := S1.cell hk p2 0 rfl
          simp only [Nat.add_zero, Nat.mul_one] at f0 f1
          have fz := fun j => S1.own.frozenAt j
          rw [List.set_comm _ _ (by omega)] at hs
          have S3 := ((S1.put hk (q + 1) x (by omega)).put hk q y (by omega)).drew
          simp only [setW, Nat.mul_one] at S3
          rw [hs] at S3
          have HS3 := hide S3
          have i_x := h0 x; have i_y := h0 y; have z0 := st_run (P := Try.prog) (h0 x).one; have z1 := st_run (P := Try.prog) (h0 y).one
          have Hh0 := hide h0
          clear hs S3 S1 p1 p2 hl h0 HS hPl hq hqz hP0
          generalize c0 x = x0' at *
          obtain ⟨_, rfl⟩ := i_x
          generalize c0 y = y0' at *
          obtain ⟨_, rfl⟩ := i_y
          go_wp2
          go_region
          all_goals go_wp2
          clear z0 z1 f0 f1 fz
          go_roundw
          case rel =>
            refine ⟨P', x :: S, ?_, hide ?_, hide ?_⟩
            · have := Hq.out; apply congrArg (Value.int .i64); omega
            · rw [hp.out]; simp
            · rw [show A ++ X1 ++ P' ++ y :: (x :: S ++ B) = A ++ X1 ++ P' ++ y :: [] ++ x :: (S ++ B) by simp]
              exact HS3.out
          case measure => simp [intOf]; try omega
end
end Go.Proofs.Ytihdpkeclmpehaa.D

namespace Go.Proofs.Ytihdpkeclmpehaa.D
open Go.RowKit Go.Sort

section
variable {α : Type} {c0 : α → Value} {key : α → Int} {tag : α → Nat}

theorem cross {X Y : List α} (sX : Srt key tag X) (sY : Srt key tag Y) (hT : ∀ x ∈ X, ∀ y ∈ Y, tag x < tag y) (a m b mid s0 r0 s : Nat) (hX : a + X.length = m) (hY : m + Y.length = b)
    (hmid : 2 * mid ≤ a + b ∧ a + b ≤ 2 * mid + 1) (hsr : (s0 = a ∧ r0 = m ∧ m ≤ mid) ∨ (s0 + b = mid + m ∧ r0 = mid ∧ mid < m)) (h1 : s0 ≤ s) (h2 : s ≤ r0)
    (lo : ∀ c x y, s0 ≤ c → c < s → X[c - a]? = some x → Y[mid + m - 1 - c - m]? = some y → key x ≤ key y)
    (hi : ∀ c x y, s ≤ c → c < r0 → X[c - a]? = some x → Y[mid + m - 1 - c - m]? = some y → key y < key x) :
    (∀ x ∈ X.take (s - a), ∀ y ∈ Y.drop (mid + m - s - m), LtT key tag x y) ∧ (∀ y ∈ Y.take (mid + m - s - m), ∀ x ∈ X.drop (s - a), LtT key tag y x) := by
  have hs : a ≤ s ∧ s ≤ m ∧ s ≤ mid ∧ mid + m - s ≤ b ∧ m ≤ mid + m - s := by omega
  constructor
  · intro x hx y hy
    have hxm := List.mem_of_mem_take hx
    have hym := List.mem_of_mem_drop hy
    obtain ⟨t, ht⟩ := List.getElem?_of_mem hx
    obtain ⟨u, hu⟩ := List.getElem?_of_mem hy
    rw [List.getElem?_take] at ht
    split at ht
    · rename_i htl
      rw [List.getElem?_drop] at hu
      have hul := (List.getElem?_eq_some_iff.1 hu).1
      obtain ⟨x', hx'⟩ : ∃ x', X[s - 1 - a]? = some x' := ⟨_, List.getElem?_eq_getElem (show s - 1 - a < X.length by omega)⟩
      obtain ⟨y', hy'⟩ : ∃ y', Y[mid + m - 1 - (s - 1) - m]? = some y' := ⟨_, List.getElem?_eq_getElem (show mid + m - 1 - (s - 1) - m < Y.length by omega)⟩
      have k1 := sX.key_le ht hx' (by omega)
      have k2 := lo (s - 1) x' y' (by omega) (by omega) hx' hy'
      have k3 := sY.key_le hy' hu (by omega)
      exact LtT.of_tag (by omega) (hT x hxm y hym)
    · cases ht
  · intro y hy x hx
    obtain ⟨t, ht⟩ := List.getElem?_of_mem hy
    obtain ⟨u, hu⟩ := List.getElem?_of_mem hx
    rw [List.getElem?_take] at ht
    split at ht
    · rename_i htl
      rw [List.getElem?_drop] at hu
      have hul := (List.getElem?_eq_some_iff.1 hu).1
      have htl2 := (List.getElem?_eq_some_iff.1 ht).1
      obtain ⟨x', hx'⟩ : ∃ x', X[s - a]? = some x' := ⟨_, List.getElem?_eq_getElem (show s - a < X.length by omega)⟩
      obtain ⟨y', hy'⟩ : ∃ y', Y[mid + m - 1 - s - m]? = some y' := ⟨_, List.getElem?_eq_getElem (show mid + m - 1 - s - m < Y.length by omega)⟩
      have k1 := sY.key_le ht hy' (by omega)
      have k2 := hi s x' y' (by omega) (by omega) hx' hy'
      have k3 := sX.key_le hx' hu (by omega)
      exact LtT.of_key (by omega)
    · cases ht

set_option maxHeartbeats 8000000 in
set_option maxRecDepth 100000 in
theorem symMerge_c (h0 : ∀ x, Ifc (c0 x)) (f : Nat) (caps : Array Value) (cf : α → α → Int) (hcf : ∀ x y, cf x y < 0 ↔ key x < key y) (g n cap base : Nat) (w0 : World) (hn : n ≤ 1000000)
    (hC : CmpC f caps c0 cf w0 g) (N : Nat) : ∀ (A X Y B : List α) (a m b : Nat) (w : World) (R), X.length + Y.length ≤ N →
    St 88 1 (fun x => [c0 x]) w0 g n cap base (A ++ X ++ Y ++ B) w → A.length = a → a + X.length = m → m + Y.length = b → 0 < X.length → 0 < Y.length → Srt key tag X → Srt key tag Y → (∀ x ∈ X, ∀ y ∈ Y, tag x < tag y) →
    (∀ w' M, M.Perm (X ++ Y) → Srt key tag M → St 88 1 (fun x => [c0 x]) w0 g n cap base (A ++ M ++ B) w' → R (.returned (.tuple #[])) w') →
    Calls Try.prog 82 #[.slice (some ⟨g, 0, none⟩) n cap, .int .i64 a, .int .i64 m, .int .i64 b, .func (.func f) #[] caps] w R := by
  induction N with
  | zero => intro A X Y B a m b w R hN _ _ _ _ hx0; omega
  | succ N ih =>
    intro A X Y B a m b w R hN S ha hm hb hx0 hy0 sX sY hT hR
    by_cases hx1 : X.length = 1
    · obtain ⟨x, rfl⟩ : ∃ x, X = [x] := List.length_eq_one_iff.1 hx1
      exact symMerge_one h0 f caps cf hcf g n cap base A Y B x a m b w0 w R hn hC S ha (by simpa using hm) hb sY (fun y hy => hT x (by simp) y hy) hR
    · by_cases hy1 : Y.length = 1
      · obtain ⟨y, rfl⟩ : ∃ y, Y = [y] := List.length_eq_one_iff.1 hy1
        exact symMerge_last h0 f caps cf hcf g n cap base A X B y a m b w0 w R hn hC S ha hm (by simpa using hb) (by omega) sX (fun x hx => hT x hx y (by simp)) hR
      · have mx := mixed
        have HR := hide hR; have HS := hide S
        have hlen := S.len
        have hbn : b ≤ n := by simp at hlen; omega
        have hk : ∀ x : α, [c0 x].length = 1 := fun _ => rfl
        have hma : ((m : Int) - (a : Int) == 1) = false := by simp; omega
        have hbm : ((b : Int) - (m : Int) == 1) = false := by simp; omega
        obtain ⟨mid, hmid⟩ : ∃ mid : Nat, mid = (a + b) / 2 := ⟨_, rfl⟩
        have hmz : ((a : Int) + (b : Int)) / 2 = (mid : Int) := by omega
        have hm1 : 2 * mid ≤ a + b ∧ a + b ≤ 2 * mid + 1 := by omega
        have hab : a + 4 ≤ b ∧ a + 2 ≤ m ∧ m + 2 ≤ b := by omega
        have Ha := hide ha; have Hm := hide hm; have Hb := hide hb; have HC := hide hC; have Hcf := hide hcf; have HsX := hide sX; have HsY := hide sY; have HT := hide hT
        have Hih := hide ih
        have HN := hide hN
        clear hR S hlen ha hm hb hC hcf sX sY hT ih hN hmid hx0 hy0 hx1 hy1
        obtain ⟨s0, r0, hsr⟩ : ∃ s0 r0 : Nat, (s0 = a ∧ r0 = m ∧ m ≤ mid) ∨ (s0 + b = mid + m ∧ r0 = mid ∧ mid < m) := by
          by_cases h : m ≤ mid
          · exact ⟨a, m, .inl ⟨rfl, rfl, h⟩⟩
          · exact ⟨mid + m - b, mid, .inr ⟨by omega, rfl, by omega⟩⟩
        have Hsr := hide hsr
        have hso : a ≤ s0 ∧ s0 ≤ r0 ∧ r0 ≤ mid ∧ r0 ≤ m := by omega
        have hw : w = w := rfl
        have hstart : (¬ ((mid : Int) < (m : Int)) ∧ Hid (s0 = a ∧ r0 = m)) ∨ (((mid : Int) < (m : Int)) ∧ Hid (s0 + b = mid + m ∧ r0 = mid)) := by
          rcases hsr with ⟨e1, e2, hc⟩ | ⟨e1, e2, hc⟩
          · exact .inl ⟨by omega, hide ⟨e1, e2⟩⟩
          · exact .inr ⟨by omega, hide ⟨e1, e2⟩⟩
        clear hsr hw
        rcases hstart with ⟨hc, hst⟩ | ⟨hc, hst⟩
        all_goals
          go_enter Try.func82, Try.ntmps82
          go_wp2
          clear hma hbm hmz
          go_loopw [20, 21] (fun ss sr wr => ∃ s r : Nat, ss = .int .i64 s ∧ sr = .int .i64 r ∧ s0 ≤ s ∧ s ≤ r ∧ r ≤ r0 ∧
              Hid (∀ c x y, s0 ≤ c → c < s → X[c - a]? = some x → Y[mid + m - 1 - c - m]? = some y → key x ≤ key y) ∧
              Hid (∀ c x y, r ≤ c → c < r0 → X[c - a]? = some x → Y[mid + m - 1 - c - m]? = some y → key y < key x) ∧
              Hid (St 88 1 (fun x => [c0 x]) w0 g n cap base (A ++ X ++ Y ++ B) wr)) (fun ss sr _ => (intOf sr).toNat - (intOf ss).toNat)
          case atStart =>
            have := hst.out
            exact ⟨s0, r0, by apply congrArg (Value.int .i64); omega, by apply congrArg (Value.int .i64); omega, Nat.le_refl _, hso.2.1, Nat.le_refl _, hide (fun c x y h1 h2 => by omega), hide (fun c x y h1 h2 => by omega), HS⟩
          case round =>
            clear HS
            obtain ⟨s, r, rfl, rfl, hs1, hs2, hs3, hlo, hhi, HS⟩ := hrel
            by_cases hlt : s < r
            · obtain ⟨c, hcc⟩ : ∃ c : Nat, c = (s + r) / 2 := ⟨_, rfl⟩
              have hcz : ((s : Int) + (r : Int)) / 2 = (c : Int) := by omega
              have hb1 : s ≤ c ∧ c < r := by omega
              clear hcc
              obtain ⟨pc, hpc⟩ : ∃ pc : Nat, pc = mid + m - 1 - c := ⟨_, rfl⟩
              have hpcb : m ≤ pc ∧ pc < b := by have h7 := Hsr.out; omega
              have hpz : (mid : Int) + (m : Int) - 1 - (c : Int) = (pc : Int) := by omega
              have hpw : IntKind.i64.wrap (pc : Int) = (pc : Int) := IntWalk.i64_in _ (by omega)
              obtain ⟨x, hx⟩ : ∃ x, X[c - a]? = some x := by
                have := Hm.out
                exact ⟨_, List.getElem?_eq_getElem (show c - a < X.length by omega)⟩
              obtain ⟨y, hy⟩ : ∃ y, Y[pc - m]? = some y := by
                have := Hb.out
                exact ⟨_, List.getElem?_eq_getElem (show pc - m < Y.length by omega)⟩
              have S1 := HS.out
              have p1 : (A ++ X ++ Y ++ B)[c]? = some x := by
                have := at_left A X Y B (c - a) (List.getElem?_eq_some_iff.1 hx).1
                rw [Ha.out, show a + (c - a) = c by omega, hx] at this
                exact this
              have p2 : (A ++ X ++ Y ++ B)[pc]? = some y := by
                have := at_right A X Y B (pc - m) (List.getElem?_eq_some_iff.1 hy).1
                rw [Ha.out, Hm.out, show m + (pc - m) = pc by omega, hy] at this
                exact this
              have f0 := fun q os => S1.cell_g hk p1 0 rfl q os
              have f1 := fun q os => S1.cell_g hk p2 0 rfl q os
              simp only [Nat.add_zero, Nat.mul_one] at f0 f1
              have hcg : ∀ q os, Calls Try.prog f (#[c0 y, c0 x] ++ caps) (grow (wr.drewN q) os) fun e w' => e = .returned (.int .i64 (cf y x)) ∧ ∃ q' os', w' = grow ((grow (wr.drewN q) os).drewN q') os' :=
                fun q os => HC.out.calls _ (grownBy_grow S1.grown q os) y x
              have he := HC.out.enters
              have jz : (c : Int) < (n : Int) := by omega
              have jz1 : (pc : Int) < (n : Int) := by omega
              have Hcases : Hid ((¬ cf y x < 0 → ∀ d x y, s0 ≤ d → d < c + 1 → X[d - a]? = some x → Y[mid + m - 1 - d - m]? = some y → key x ≤ key y) ∧
                  (cf y x < 0 → ∀ d x y, c ≤ d → d < r0 → X[d - a]? = some x → Y[mid + m - 1 - d - m]? = some y → key y < key x)) := by
                have h9 := Hsr.out
                refine hide ⟨fun hcf' d x' y' h1 h2 h3 h4 => ?_, fun hcf' d x' y' h1 h2 h3 h4 => ?_⟩
                · have e1 := HsX.out.key_le h3 hx (by omega)
                  have e2 := HsY.out.key_le hy h4 (by omega)
                  have e3 : ¬ key y < key x := fun h => hcf' ((Hcf.out y x).2 h)
                  omega
                · have e1 := HsX.out.key_le hx h3 (by omega)
                  have e2 := HsY.out.key_le h4 hy (by omega)
                  have e3 := (Hcf.out y x).1 hcf'
                  omega
              clear p1 p2 hx hy hpc
              go_wp2
              clear hcz
              by_cases hlv : cf y x < 0
              · go_quiet_grown (first | (go_at_fn f; refine Calls.grown_of (hcg _ _)))
                go_wp2_with fail
                go_roundw
                case rel => exact ⟨s, c, rfl, rfl, by omega, by omega, by omega, hlo, hide (Hcases.out.2 hlv), hide (S1.grow _ _)⟩
                case measure => simp [intOf]; omega
              · go_quiet_grown (first | (go_at_fn f; refine Calls.grown_of (hcg _ _)))
                go_wp2_with fail
                go_roundw
                case rel => exact ⟨c + 1, r, by go_num, rfl, by omega, by omega, by omega, hide (Hcases.out.1 (by omega)), hhi, hide (S1.grow _ _)⟩
                case measure => simp [intOf]; omega
            · have hje : s = r := by omega
              subst hje
              have h9 := Hsr.out
              obtain ⟨e, he0⟩ : ∃ e : Nat, e = mid + m - s := ⟨_, rfl⟩
              have hes : a ≤ s ∧ s ≤ m ∧ s ≤ mid ∧ mid ≤ e ∧ e ≤ b ∧ m ≤ e ∧ e + s = mid + m := by omega
              have hez : (mid : Int) + (m : Int) - (s : Int) = (e : Int) := by omega
              obtain ⟨F1, F2⟩ := cross HsX.out HsY.out HT.out a m b mid s0 r0 s Hm.out Hb.out hm1 h9 hs1 hs3 hlo.out hhi.out
              rw [← he0] at F1 F2
              have l1 : (X.take (s - a)).length = s - a := by rw [List.length_take]; have := Hm.out; omega
              have l2 : (X.drop (s - a)).length = m - s := by rw [List.length_drop]; have := Hm.out; omega
              have l3 : (Y.take (e - m)).length = e - m := by rw [List.length_take]; have := Hb.out; omega
              have l4 : (Y.drop (e - m)).length = b - e := by rw [List.length_drop]; have := Hb.out; omega
              have eX : X = X.take (s - a) ++ X.drop (s - a) := (List.take_append_drop _ _).symm
              have eY : Y = Y.take (e - m) ++ Y.drop (e - m) := (List.take_append_drop _ _).symm
              generalize X.take (s - a) = X1 at *
              generalize X.drop (s - a) = X2 at *
              generalize Y.take (e - m) = Y1 at *
              generalize Y.drop (e - m) = Y2 at *
              have sX := HsX.out
              have sY := HsY.out
              rw [eX, Srt, List.pairwise_append] at sX
              rw [eY, Srt, List.pairwise_append] at sY
              have hTT := HT.out
              have Hall := hide (show Srt key tag X1 ∧ Srt key tag Y1 ∧ (∀ x ∈ X1, ∀ y ∈ Y1, tag x < tag y) ∧ Srt key tag X2 ∧ Srt key tag Y2 ∧ (∀ x ∈ X2, ∀ y ∈ Y2, tag x < tag y) ∧ True from
                ⟨sX.1, sY.1, fun x hx y hy => hTT x (by rw [eX]; simp [hx]) y (by rw [eY]; simp [hy]), sX.2.1, sY.2.1, fun x hx y hy => hTT x (by rw [eX]; simp [hx]) y (by rw [eY]; simp [hy]), trivial⟩)
              have Fin : Hid (∀ w' M1 M2, M1.Perm (X1 ++ Y1) → Srt key tag M1 → M2.Perm (X2 ++ Y2) → Srt key tag M2 → St 88 1 (fun x => [c0 x]) w0 g n cap base (A ++ M1 ++ M2 ++ B) w' → R (.returned (.tuple #[])) w') := hide (fun w' M1 M2 p1 s1 p2 s2 hS => by
                refine HR.out w' (M1 ++ M2) ?_ ?_ (by simpa using hS)
                · refine (p1.append p2).trans ?_
                  rw [eX, eY]
                  have q1 : (X1 ++ Y1 ++ (X2 ++ Y2)).Perm (X1 ++ (Y1 ++ X2 ++ Y2)) := by rw [List.append_assoc, List.append_assoc]
                  refine q1.trans ?_
                  have q2 : (X1 ++ X2 ++ (Y1 ++ Y2)) = X1 ++ (X2 ++ Y1 ++ Y2) := by simp
                  rw [q2]
                  exact List.Perm.append_left _ (List.Perm.append_right _ List.perm_append_comm)
                · unfold Srt at *
                  rw [List.pairwise_append]
                  refine ⟨s1, s2, fun u hu v hv => ?_⟩
                  rcases List.mem_append.1 (p1.mem_iff.1 hu) with hu | hu
                  · rcases List.mem_append.1 (p2.mem_iff.1 hv) with hv | hv
                    · exact sX.2.2 u hu v hv
                    · exact F1 u hu v hv
                  · rcases List.mem_append.1 (p2.mem_iff.1 hv) with hv | hv
                    · exact F2 u hu v hv
                    · exact sY.2.2 u hu v hv)
              have Hl := hide (And.intro l1 (And.intro l2 (And.intro l3 l4)))
              have He := hide (And.intro eX eY)
              have HS2 := hide (show St 88 1 (fun x => [c0 x]) w0 g n cap base (A ++ X1 ++ X2 ++ Y1 ++ (Y2 ++ B)) wr by have := HS.out; rw [eX, eY] at this; simpa using this)
              have hN2 := HN.out
              have hXl := Hm.out
              have hYl := Hb.out
              clear F1 F2 sX sY hTT l1 l2 l3 l4 eX eY HS hlo hhi he0 h9
              by_cases hx2 : m ≤ s
              · by_cases hy1 : e ≤ m
                · first
                  | (exfalso; omega)
                  | (have hx2 : X2 = [] := List.eq_nil_of_length_eq_zero (by rw [Hl.out.2.1]; omega)
                     have HS3 := hide (show St 88 1 (fun x => [c0 x]) w0 g n cap base (A ++ X1 ++ Y1 ++ (X2 ++ Y2 ++ B)) wr by have := HS2.out; rw [hx2] at this ⊢; simpa using this)
                     have i1 : ¬ (s : Int) < (m : Int) := by omega
                     clear hx2
                     have hz : Y1 = [] := List.eq_nil_of_length_eq_zero (by rw [Hl.out.2.2.1]; omega)
                     have HM1 := hide (show (X1 ++ Y1).Perm (X1 ++ Y1) ∧ Srt key tag (X1 ++ Y1) from ⟨List.Perm.refl _, by rw [hz]; simpa using Hall.out.1⟩)
                     have i3 : (a : Int) < (s : Int) := by omega
                     have i4 : ¬ (s : Int) < (mid : Int) := by omega
                     have HS4 := hide (show St 88 1 (fun x => [c0 x]) w0 g n cap base (A ++ (X1 ++ Y1) ++ X2 ++ Y2 ++ B) _ by simpa using HS3.out)
                     clear hz
                     generalize hM1 : X1 ++ Y1 = M1 at HS4
                     have HM1' := hide (show M1.Perm (X1 ++ Y1) ∧ Srt key tag M1 by rw [← hM1]; exact HM1.out)
                     clear hM1 HM1
                     have HM1 := HM1'
                     clear HM1'
                     have hz : X2 = [] := List.eq_nil_of_length_eq_zero (by rw [Hl.out.2.1]; omega)
                     have HM2 := hide (show Srt key tag (X2 ++ Y2) by rw [hz]; simpa using Hall.out.2.2.2.2.1)
                     have i5 : ¬ (mid : Int) < (e : Int) := by omega
                     have HS5 := hide (show St 88 1 (fun x => [c0 x]) w0 g n cap base (A ++ M1 ++ (X2 ++ Y2) ++ B) _ by simpa using HS4.out)
                     clear hz
                     go_wp2
                     go_end0
                     exact Fin.out _ M1 (X2 ++ Y2) HM1.out.1 HM1.out.2 (List.Perm.refl _) HM2.out HS5.out)

                · first
                  | (exfalso; omega)
                  | (have hx2 : X2 = [] := List.eq_nil_of_length_eq_zero (by rw [Hl.out.2.1]; omega)
                     have HS3 := hide (show St 88 1 (fun x => [c0 x]) w0 g n cap base (A ++ X1 ++ Y1 ++ (X2 ++ Y2 ++ B)) wr by have := HS2.out; rw [hx2] at this ⊢; simpa using this)
                     have i1 : ¬ (s : Int) < (m : Int) := by omega
                     clear hx2
                     have i3 : (a : Int) < (s : Int) := by omega
                     have i4 : (s : Int) < (mid : Int) := by omega
                     go_wp2_with (go_at_call 82; refine Stop.out ?_)
                     refine Stop.go (Hih.out A X1 Y1 (X2 ++ Y2 ++ B) a s mid _ _ (by rw [Hl.out.1, Hl.out.2.2.1]; omega) HS3.out Ha.out (by rw [Hl.out.1]; omega) (by rw [Hl.out.2.2.1]; omega) (by rw [Hl.out.1]; omega) (by rw [Hl.out.2.2.1]; omega) Hall.out.1 Hall.out.2.1 Hall.out.2.2.1 ?_)
                     intro w3 M1 pm1 so1 S3
                     have HM1 := hide (And.intro pm1 so1)
                     have HS4 := hide (show St 88 1 (fun x => [c0 x]) w0 g n cap base (A ++ M1 ++ X2 ++ Y2 ++ B) w3 by simpa using S3)
                     clear pm1 so1 S3
                     have hz : X2 = [] := List.eq_nil_of_length_eq_zero (by rw [Hl.out.2.1]; omega)
                     have HM2 := hide (show Srt key tag (X2 ++ Y2) by rw [hz]; simpa using Hall.out.2.2.2.2.1)
                     have i5 : ¬ (mid : Int) < (e : Int) := by omega
                     have HS5 := hide (show St 88 1 (fun x => [c0 x]) w0 g n cap base (A ++ M1 ++ (X2 ++ Y2) ++ B) _ by simpa using HS4.out)
                     clear hz
                     go_wp2
                     go_end0
                     exact Fin.out _ M1 (X2 ++ Y2) HM1.out.1 HM1.out.2 (List.Perm.refl _) HM2.out HS5.out)

              · by_cases hy1 : e ≤ m
                · first
                  | (exfalso; omega)
                  | (have hy1 : Y1 = [] := List.eq_nil_of_length_eq_zero (by rw [Hl.out.2.2.1]; omega)
                     have HS3 := hide (show St 88 1 (fun x => [c0 x]) w0 g n cap base (A ++ X1 ++ Y1 ++ (X2 ++ Y2 ++ B)) wr by have := HS2.out; rw [hy1] at this ⊢; simpa using this)
                     have i1 : (s : Int) < (m : Int) := by omega
                     have i2 : ¬ (m : Int) < (e : Int) := by omega
                     clear hy1
                     have hz : Y1 = [] := List.eq_nil_of_length_eq_zero (by rw [Hl.out.2.2.1]; omega)
                     have HM1 := hide (show (X1 ++ Y1).Perm (X1 ++ Y1) ∧ Srt key tag (X1 ++ Y1) from ⟨List.Perm.refl _, by rw [hz]; simpa using Hall.out.1⟩)
                     have i3 : (a : Int) < (s : Int) := by omega
                     have i4 : ¬ (s : Int) < (mid : Int) := by omega
                     have HS4 := hide (show St 88 1 (fun x => [c0 x]) w0 g n cap base (A ++ (X1 ++ Y1) ++ X2 ++ Y2 ++ B) _ by simpa using HS3.out)
                     clear hz
                     generalize hM1 : X1 ++ Y1 = M1 at HS4
                     have HM1' := hide (show M1.Perm (X1 ++ Y1) ∧ Srt key tag M1 by rw [← hM1]; exact HM1.out)
                     clear hM1 HM1
                     have HM1 := HM1'
                     clear HM1'
                     have i5 : (mid : Int) < (e : Int) := by omega
                     have i6 : (e : Int) < (b : Int) := by omega
                     go_wp2_with (go_at_call 82; refine Stop.out ?_)
                     refine Stop.go (Hih.out (A ++ M1) X2 Y2 B mid e b _ _ (by rw [Hl.out.2.1, Hl.out.2.2.2]; omega) HS4.out (by rw [List.length_append, Ha.out, HM1.out.1.length_eq, List.length_append, Hl.out.1, Hl.out.2.2.1]; omega) (by rw [Hl.out.2.1]; omega) (by rw [Hl.out.2.2.2]; omega) (by rw [Hl.out.2.1]; omega) (by rw [Hl.out.2.2.2]; omega) Hall.out.2.2.2.1 Hall.out.2.2.2.2.1 Hall.out.2.2.2.2.2.1 ?_)
                     intro w4 M2 pm2 so2 S4
                     have HM2 := hide (And.intro pm2 so2)
                     have HS5 := hide S4
                     clear pm2 so2 S4
                     go_wp2
                     go_end0
                     exact Fin.out _ M1 M2 HM1.out.1 HM1.out.2 HM2.out.1 HM2.out.2 HS5.out)

                · by_cases hx1 : s ≤ a
                  · by_cases hy2 : b ≤ e
                    · first
                      | (exfalso; omega)
                      | (have i1 : (s : Int) < (m : Int) := by omega
                         have i2 : (m : Int) < (e : Int) := by omega
                         go_wp2_with (go_at_call 84; refine Stop.out ?_)
                         refine Stop.go (rotate_c h0 g n cap base _ (A ++ X1) X2 Y1 (Y2 ++ B) s m e w0 _ _ hn HS2.out (by rw [List.length_append, Ha.out, Hl.out.1]; omega) (by rw [Hl.out.2.1]; omega) (by rw [Hl.out.2.2.1]; omega) (by rw [Hl.out.2.1]; omega) (by rw [Hl.out.2.2.1]; omega) ?_)
                         intro w2 S2
                         have HS3 := hide (show St 88 1 (fun x => [c0 x]) w0 g n cap base (A ++ X1 ++ Y1 ++ (X2 ++ Y2 ++ B)) w2 by simpa using S2)
                         clear S2
                         have hz : X1 = [] := List.eq_nil_of_length_eq_zero (by rw [Hl.out.1]; omega)
                         have HM1 := hide (show (X1 ++ Y1).Perm (X1 ++ Y1) ∧ Srt key tag (X1 ++ Y1) from ⟨List.Perm.refl _, by rw [hz]; simpa using Hall.out.2.1⟩)
                         have i3 : ¬ (a : Int) < (s : Int) := by omega
                         have HS4 := hide (show St 88 1 (fun x => [c0 x]) w0 g n cap base (A ++ (X1 ++ Y1) ++ X2 ++ Y2 ++ B) _ by simpa using HS3.out)
                         clear hz
                         generalize hM1 : X1 ++ Y1 = M1 at HS4
                         have HM1' := hide (show M1.Perm (X1 ++ Y1) ∧ Srt key tag M1 by rw [← hM1]; exact HM1.out)
                         clear hM1 HM1
                         have HM1 := HM1'
                         clear HM1'
                         have hz : Y2 = [] := List.eq_nil_of_length_eq_zero (by rw [Hl.out.2.2.2]; omega)
                         have HM2 := hide (show Srt key tag (X2 ++ Y2) by rw [hz]; simpa using Hall.out.2.2.2.1)
                         have i5 : (mid : Int) < (e : Int) := by omega
                         have i6 : ¬ (e : Int) < (b : Int) := by omega
                         have HS5 := hide (show St 88 1 (fun x => [c0 x]) w0 g n cap base (A ++ M1 ++ (X2 ++ Y2) ++ B) _ by simpa using HS4.out)
                         clear hz
                         go_wp2
                         go_end0
                         exact Fin.out _ M1 (X2 ++ Y2) HM1.out.1 HM1.out.2 (List.Perm.refl _) HM2.out HS5.out)

                    · first
                      | (exfalso; omega)
                      | (have i1 : (s : Int) < (m : Int) := by omega
                         have i2 : (m : Int) < (e : Int) := by omega
                         go_wp2_with (go_at_call 84; refine Stop.out ?_)
                         refine Stop.go (rotate_c h0 g n cap base _ (A ++ X1) X2 Y1 (Y2 ++ B) s m e w0 _ _ hn HS2.out (by rw [List.length_append, Ha.out, Hl.out.1]; omega) (by rw [Hl.out.2.1]; omega) (by rw [Hl.out.2.2.1]; omega) (by rw [Hl.out.2.1]; omega) (by rw [Hl.out.2.2.1]; omega) ?_)
                         intro w2 S2
                         have HS3 := hide (show St 88 1 (fun x => [c0 x]) w0 g n cap base (A ++ X1 ++ Y1 ++ (X2 ++ Y2 ++ B)) w2 by simpa using S2)
                         clear S2
                         have hz : X1 = [] := List.eq_nil_of_length_eq_zero (by rw [Hl.out.1]; omega)
                         have HM1 := hide (show (X1 ++ Y1).Perm (X1 ++ Y1) ∧ Srt key tag (X1 ++ Y1) from ⟨List.Perm.refl _, by rw [hz]; simpa using Hall.out.2.1⟩)
                         have i3 : ¬ (a : Int) < (s : Int) := by omega
                         have HS4 := hide (show St 88 1 (fun x => [c0 x]) w0 g n cap base (A ++ (X1 ++ Y1) ++ X2 ++ Y2 ++ B) _ by simpa using HS3.out)
                         clear hz
                         generalize hM1 : X1 ++ Y1 = M1 at HS4
                         have HM1' := hide (show M1.Perm (X1 ++ Y1) ∧ Srt key tag M1 by rw [← hM1]; exact HM1.out)
                         clear hM1 HM1
                         have HM1 := HM1'
                         clear HM1'
                         have i5 : (mid : Int) < (e : Int) := by omega
                         have i6 : (e : Int) < (b : Int) := by omega
                         go_wp2_with (go_at_call 82; refine Stop.out ?_)
                         refine Stop.go (Hih.out (A ++ M1) X2 Y2 B mid e b _ _ (by rw [Hl.out.2.1, Hl.out.2.2.2]; omega) HS4.out (by rw [List.length_append, Ha.out, HM1.out.1.length_eq, List.length_append, Hl.out.1, Hl.out.2.2.1]; omega) (by rw [Hl.out.2.1]; omega) (by rw [Hl.out.2.2.2]; omega) (by rw [Hl.out.2.1]; omega) (by rw [Hl.out.2.2.2]; omega) Hall.out.2.2.2.1 Hall.out.2.2.2.2.1 Hall.out.2.2.2.2.2.1 ?_)
                         intro w4 M2 pm2 so2 S4
                         have HM2 := hide (And.intro pm2 so2)
                         have HS5 := hide S4
                         clear pm2 so2 S4
                         go_wp2
                         go_end0
                         exact Fin.out _ M1 M2 HM1.out.1 HM1.out.2 HM2.out.1 HM2.out.2 HS5.out)

                  · by_cases hy2 : b ≤ e
                    · first
                      | (exfalso; omega)
                      | (have i1 : (s : Int) < (m : Int) := by omega
                         have i2 : (m : Int) < (e : Int) := by omega
                         go_wp2_with (go_at_call 84; refine Stop.out ?_)
                         refine Stop.go (rotate_c h0 g n cap base _ (A ++ X1) X2 Y1 (Y2 ++ B) s m e w0 _ _ hn HS2.out (by rw [List.length_append, Ha.out, Hl.out.1]; omega) (by rw [Hl.out.2.1]; omega) (by rw [Hl.out.2.2.1]; omega) (by rw [Hl.out.2.1]; omega) (by rw [Hl.out.2.2.1]; omega) ?_)
                         intro w2 S2
                         have HS3 := hide (show St 88 1 (fun x => [c0 x]) w0 g n cap base (A ++ X1 ++ Y1 ++ (X2 ++ Y2 ++ B)) w2 by simpa using S2)
                         clear S2
                         have i3 : (a : Int) < (s : Int) := by omega
                         have i4 : (s : Int) < (mid : Int) := by omega
                         go_wp2_with (go_at_call 82; refine Stop.out ?_)
                         refine Stop.go (Hih.out A X1 Y1 (X2 ++ Y2 ++ B) a s mid _ _ (by rw [Hl.out.1, Hl.out.2.2.1]; omega) HS3.out Ha.out (by rw [Hl.out.1]; omega) (by rw [Hl.out.2.2.1]; omega) (by rw [Hl.out.1]; omega) (by rw [Hl.out.2.2.1]; omega) Hall.out.1 Hall.out.2.1 Hall.out.2.2.1 ?_)
                         intro w3 M1 pm1 so1 S3
                         have HM1 := hide (And.intro pm1 so1)
                         have HS4 := hide (show St 88 1 (fun x => [c0 x]) w0 g n cap base (A ++ M1 ++ X2 ++ Y2 ++ B) w3 by simpa using S3)
                         clear pm1 so1 S3
                         have hz : Y2 = [] := List.eq_nil_of_length_eq_zero (by rw [Hl.out.2.2.2]; omega)
                         have HM2 := hide (show Srt key tag (X2 ++ Y2) by rw [hz]; simpa using Hall.out.2.2.2.1)
                         have i5 : (mid : Int) < (e : Int) := by omega
                         have i6 : ¬ (e : Int) < (b : Int) := by omega
                         have HS5 := hide (show St 88 1 (fun x => [c0 x]) w0 g n cap base (A ++ M1 ++ (X2 ++ Y2) ++ B) _ by simpa using HS4.out)
                         clear hz
                         go_wp2
                         go_end0
                         exact Fin.out _ M1 (X2 ++ Y2) HM1.out.1 HM1.out.2 (List.Perm.refl _) HM2.out HS5.out)

                    · first
                      | (exfalso; omega)
                      | (have i1 : (s : Int) < (m : Int) := by omega
                         have i2 : (m : Int) < (e : Int) := by omega
                         go_wp2_with (go_at_call 84; refine Stop.out ?_)
                         refine Stop.go (rotate_c h0 g n cap base _ (A ++ X1) X2 Y1 (Y2 ++ B) s m e w0 _ _ hn HS2.out (by rw [List.length_append, Ha.out, Hl.out.1]; omega) (by rw [Hl.out.2.1]; omega) (by rw [Hl.out.2.2.1]; omega) (by rw [Hl.out.2.1]; omega) (by rw [Hl.out.2.2.1]; omega) ?_)
                         intro w2 S2
                         have HS3 := hide (show St 88 1 (fun x => [c0 x]) w0 g n cap base (A ++ X1 ++ Y1 ++ (X2 ++ Y2 ++ B)) w2 by simpa using S2)
                         clear S2
                         have i3 : (a : Int) < (s : Int) := by omega
                         have i4 : (s : Int) < (mid : Int) := by omega
                         go_wp2_with (go_at_call 82; refine Stop.out ?_)
                         refine Stop.go (Hih.out A X1 Y1 (X2 ++ Y2 ++ B) a s mid _ _ (by rw [Hl.out.1, Hl.out.2.2.1]; omega) HS3.out Ha.out (by rw [Hl.out.1]; omega) (by rw [Hl.out.2.2.1]; omega) (by rw [Hl.out.1]; omega) (by rw [Hl.out.2.2.1]; omega) Hall.out.1 Hall.out.2.1 Hall.out.2.2.1 ?_)
                         intro w3 M1 pm1 so1 S3
                         have HM1 := hide (And.intro pm1 so1)
                         have HS4 := hide (show St 88 1 (fun x => [c0 x]) w0 g n cap base (A ++ M1 ++ X2 ++ Y2 ++ B) w3 by simpa using S3)
                         clear pm1 so1 S3
                         have i5 : (mid : Int) < (e : Int) := by omega
                         have i6 : (e : Int) < (b : Int) := by omega
                         go_wp2_with (go_at_call 82; refine Stop.out ?_)
                         refine Stop.go (Hih.out (A ++ M1) X2 Y2 B mid e b _ _ (by rw [Hl.out.2.1, Hl.out.2.2.2]; omega) HS4.out (by rw [List.length_append, Ha.out, HM1.out.1.length_eq, List.length_append, Hl.out.1, Hl.out.2.2.1]; omega) (by rw [Hl.out.2.1]; omega) (by rw [Hl.out.2.2.2]; omega) (by rw [Hl.out.2.1]; omega) (by rw [Hl.out.2.2.2]; omega) Hall.out.2.2.2.1 Hall.out.2.2.2.2.1 Hall.out.2.2.2.2.2.1 ?_)
                         intro w4 M2 pm2 so2 S4
                         have HM2 := hide (And.intro pm2 so2)
                         have HS5 := hide S4
                         clear pm2 so2 S4
                         go_wp2
                         go_end0
                         exact Fin.out _ M1 M2 HM1.out.1 HM1.out.2 HM2.out.1 HM2.out.2 HS5.out)
end
end Go.Proofs.Ytihdpkeclmpehaa.D

namespace Go.Proofs.Ytihdpkeclmpehaa.D
open Go.RowKit Go.Sort

section
variable {α : Type} {c0 : α → Value} {key : α → Int} {tag : α → Nat}

set_option maxHeartbeats 8000000 in
set_option maxRecDepth 100000 in
theorem stable_c (h0 : ∀ x, Ifc (c0 x)) (f : Nat) (caps : Array Value) (cf : α → α → Int) (hcf : ∀ x y, cf x y < 0 ↔ key x < key y) (g n cap base : Nat) (l : List α) (w0 w : World) (R) (hn : n ≤ 1000000)
    (hC : CmpC f caps c0 cf w0 g) (S : St 88 1 (fun x => [c0 x]) w0 g n cap base l w) (hT : l.Pairwise (fun x y => tag x < tag y))
    (hR : ∀ w' M, M.Perm l → Srt key tag M → St 88 1 (fun x => [c0 x]) w0 g n cap base M w' → R (.returned (.tuple #[])) w') :
    Calls Try.prog 77 #[.slice (some ⟨g, 0, none⟩) n cap, .int .i64 n, .func (.func f) #[] caps] w R := by
  have HR := hide hR; have HS := hide S; have HT := hide hT; have HC := hide hC; have Hcf := hide hcf
  have Hl := hide S.len
  clear hR S hT hC hcf
  go_enter Try.func77, Try.ntmps77
  go_wp2
  go_loopw [7, 8] (fun sa sb wr => ∃ (a : Nat) (Ds : List (List α)) (Q : List α), sa = .int .i64 a ∧ sb = .int .i64 ((a : Int) + 20) ∧ a ≤ n ∧ Hid (∃ O1, l = O1 ++ Q ∧ Ds.flatten.Perm O1 ∧ (∀ u ∈ Ds, u.length = 20) ∧ Bk key tag Ds ∧ Ds.flatten.length = a) ∧
      Hid (St 88 1 (fun x => [c0 x]) w0 g n cap base (Ds.flatten ++ Q) wr)) (fun sa _ _ => n - (intOf sa).toNat)
  case atStart => exact ⟨0, [], l, rfl, rfl, Nat.zero_le _, hide ⟨[], rfl, List.Perm.refl _, by simp, ⟨by simp, by simp⟩, rfl⟩, hide (by simpa using HS.out)⟩
  case round =>
    clear HS
    obtain ⟨a, Ds, Q, rfl, rfl, han, hp, HS⟩ := hrel
    obtain ⟨O1, e1, pm, h20, bk, hla⟩ := hp.out
    have hlen := HS.out.len
    have hQl : a + Q.length = n := by rw [List.length_append, hla] at hlen; exact hlen
    have hQT : Q.Pairwise (fun x y => tag x < tag y) := by have := HT.out; rw [e1, List.pairwise_append] at this; exact this.2.1
    have hQO : ∀ x ∈ Ds.flatten, ∀ y ∈ Q, tag x < tag y := fun x hx y hy => by
      have := HT.out; rw [e1, List.pairwise_append] at this; exact this.2.2 x (pm.mem_iff.1 hx) y hy
    by_cases hlt : a + 20 ≤ n
    · have hq1 : (Q.take 20).length = 20 := by rw [List.length_take]; omega
      have eQ : Q = Q.take 20 ++ Q.drop 20 := (List.take_append_drop _ _).symm
      generalize Q.take 20 = Q1 at *
      generalize Q.drop 20 = Q2 at *
      have HP := hide (And.intro e1 (And.intro pm (And.intro h20 (And.intro bk (And.intro hla (And.intro hq1 (And.intro eQ (And.intro hQT hQO))))))))
      clear e1 pm h20 bk hla hlen hQT hQO hq1 eQ hp
      have hlt' : (a : Int) + 20 ≤ (n : Int) := by omega
      go_wp2_with (go_at_call 81; refine Stop.out ?_)
      obtain ⟨e1, pm, h20, bk, hla, hq1, eQ, hQT, hQO⟩ := HP.out
      have hz : (a : Int) + 20 = ((a + 20 : Nat) : Int) := by omega
      rw [hz]
      refine Stop.go (insertion_c h0 f caps cf Hcf.out g n cap base Ds.flatten Q1 Q2 a (a + 20) w0 _ _ hn HC.out (by have := HS.out; rw [eQ] at this; simpa using this) hla (by rw [hq1]) (by rw [eQ, List.pairwise_append] at hQT; exact hQT.1) ?_)
      intro w' X' pX sX S'
      have HX := hide (And.intro pX sX)
      have HS' := hide S'
      clear pX sX S' e1 pm h20 bk hla hq1 eQ hQT hQO
      rw [← hz]
      clear hz
      go_wp2
      go_roundw
      case rel =>
        obtain ⟨e1, pm, h20, bk, hla, hq1, eQ, hQT, hQO⟩ := HP.out
        refine ⟨a + 20, Ds ++ [X'], Q2, by apply congrArg (Value.int .i64); omega, by apply congrArg (Value.int .i64); omega, hlt, hide ⟨O1 ++ Q1, by rw [e1, eQ, List.append_assoc], ?_, ?_, ?_, ?_⟩, hide ?_⟩
        · simp only [List.flatten_append, List.flatten_cons, List.flatten_nil, List.append_nil]
          exact pm.append HX.out.1
        · intro u hu
          rcases List.mem_append.1 hu with hu | hu
          · exact h20 u hu
          · rw [List.mem_singleton.1 hu, HX.out.1.length_eq, hq1]
        · exact bk_snoc bk HX.out.2 (fun x hx y hy => hQO x hx y (by rw [eQ]; simp [HX.out.1.mem_iff.1 hy]))
        · simp only [List.flatten_append, List.flatten_cons, List.flatten_nil, List.append_nil, List.length_append, hla, HX.out.1.length_eq, hq1]
        · simpa using HS'.out
      case measure => simp [intOf]; omega
    · have HP := hide (And.intro e1 (And.intro pm (And.intro h20 (And.intro bk (And.intro hla (And.intro hQT hQO))))))
      clear e1 pm h20 bk hla hlen hQT hQO hp
      have hlt' : ¬ (a : Int) + 20 ≤ (n : Int) := by omega
      go_wp2_with (go_at_call 81; refine Stop.out ?_)
      obtain ⟨e1, pm, h20, bk, hla, hQT, hQO⟩ := HP.out
      refine Stop.go (insertion_c h0 f caps cf Hcf.out g n cap base Ds.flatten Q [] a n w0 _ _ hn HC.out (by simpa using HS.out) hla hQl hQT ?_)
      intro w' X' pX sX S'
      have HB : Hid (∃ bs : List (List α), bs.flatten.Perm l ∧ Rest 20 bs ∧ Bk key tag bs ∧ St 88 1 (fun x => [c0 x]) w0 g n cap base bs.flatten w') := by
        cases hQ : Q with
        | nil =>
          subst hQ
          have hX : X' = [] := List.eq_nil_of_length_eq_zero (by rw [pX.length_eq]; rfl)
          subst hX
          exact hide ⟨Ds, by rw [e1]; simpa using pm, rest_full (by omega) Ds h20, bk, by simpa using S'⟩
        | cons q Q' =>
          have hXl : X'.length = Q.length := pX.length_eq
          refine hide ⟨Ds ++ [X'], ?_, rest_snoc X' (by rw [hXl, hQ]; simp) (by rw [hXl]; omega) Ds h20, bk_snoc bk sX (fun x hx y hy => hQO x hx y (pX.mem_iff.1 hy)), by simpa using S'⟩
          simp only [List.flatten_append, List.flatten_cons, List.flatten_nil, List.append_nil]
          rw [e1]; exact pm.append pX
      clear pX sX S' e1 pm h20 bk hla hQT hQO HS HP hlt hlt' hQl han
      obtain ⟨bs0, hb0⟩ := HB.out
      have HB0 := hide hb0
      clear HB hb0
      go_wp2
      go_loopw [6, 7, 8, 9] (fun ss sa sb sm wr => ∃ (s : Nat) (bs : List (List α)), ss = .int .i64 s ∧ 20 ≤ s ∧ s ≤ 2000000 ∧ Hid (bs.flatten.Perm l ∧ Rest s bs ∧ Bk key tag bs) ∧
          Hid (St 88 1 (fun x => [c0 x]) w0 g n cap base bs.flatten wr)) (fun ss _ _ _ _ => n - (intOf ss).toNat)
      case atStart => exact ⟨20, bs0, rfl, Nat.le_refl _, by omega, hide ⟨HB0.out.1, HB0.out.2.1, HB0.out.2.2.1⟩, hide HB0.out.2.2.2⟩
      case round =>
        clear HB0
        obtain ⟨s, bs, rfl, hs20, hsb, hp, HS⟩ := hrel
        by_cases hsn : s < n
        · have hsn' : (s : Int) < (n : Int) := by omega
          go_wp2
          go_loopw [7, 8] (fun sa sb wr => ∃ (a : Nat) (Ds Bs : List (List α)), sa = .int .i64 a ∧ sb = .int .i64 ((a : Int) + 2 * (s : Int)) ∧ a ≤ n ∧ Hid ((Ds ++ Bs).flatten.Perm l ∧ (∀ u ∈ Ds, u.length = 2 * s) ∧ Rest s Bs ∧ Bk key tag (Ds ++ Bs) ∧ Ds.flatten.length = a ∧ a + Bs.flatten.length = n) ∧
              Hid (St 88 1 (fun x => [c0 x]) w0 g n cap base (Ds.flatten ++ Bs.flatten) wr)) (fun sa _ _ => n - (intOf sa).toNat)
          case atStart =>
            have hl := HS.out.len
            exact ⟨0, [], bs, rfl, by simp, Nat.zero_le _, hide ⟨by simpa using hp.out.1, by simp, hp.out.2.1, by simpa using hp.out.2.2, rfl, by omega⟩, hide (by simpa using HS.out)⟩
          case round =>
            clear HS hp
            obtain ⟨a, Ds, Bs, rfl, rfl, han, hp, HS⟩ := hrel
            obtain ⟨pm, h2s, hr, bk, hla, hlB⟩ := hp.out
            by_cases hlt : a + 2 * s ≤ n
            · obtain ⟨u, v, t, rfl, hu, hv, ht⟩ := rest_two (by omega) hr (by omega)
              have hlt' : (a : Int) + 2 * (s : Int) ≤ (n : Int) := by omega
              have HP := hide (And.intro pm (And.intro h2s (And.intro bk (And.intro hla (And.intro hlB (And.intro hu (And.intro hv ht)))))))
              clear pm h2s hr bk hla hlB hu hv ht hp
              go_wp2_with (go_at_call 82; refine Stop.out ?_)
              obtain ⟨pm, h2s, bk, hla, hlB, hu, hv, ht⟩ := HP.out
              obtain ⟨su, sv, tuv⟩ := bk_two bk
              rw [show (a : Int) + (s : Int) = ((a + s : Nat) : Int) by omega, show (a : Int) + 2 * (s : Int) = ((a + 2 * s : Nat) : Int) by omega]
              refine Stop.go (symMerge_c h0 f caps cf Hcf.out g n cap base w0 hn HC.out (u.length + v.length) Ds.flatten u v t.flatten a (a + s) (a + 2 * s) _ _ (Nat.le_refl _) (by simpa using HS.out) hla (by rw [hu]) (by rw [hv]; omega) (by omega) (by omega) su sv tuv ?_)
              intro w' M pM sM S'
              have HM := hide (And.intro pM sM)
              have HS' := hide S'
              clear pM sM S' pm h2s bk hla hlB hu hv ht su sv tuv
              rw [show ((a + s : Nat) : Int) = (a : Int) + (s : Int) by omega, show ((a + 2 * s : Nat) : Int) = (a : Int) + 2 * (s : Int) by omega]
              go_wp2
              go_roundw
              case rel =>
                obtain ⟨pm, h2s, bk, hla, hlB, hu, hv, ht⟩ := HP.out
                have hMl : M.length = 2 * s := by rw [HM.out.1.length_eq, List.length_append]; omega
                refine ⟨a + 2 * s, Ds ++ [M], t, by apply congrArg (Value.int .i64); omega, by apply congrArg (Value.int .i64); omega, hlt, hide ⟨?_, ?_, ht, ?_, ?_, ?_⟩, hide ?_⟩
                · refine List.Perm.trans ?_ pm
                  simp only [List.flatten_append, List.flatten_cons, List.flatten_nil, List.append_nil, List.append_assoc]
                  refine List.Perm.append_left _ ?_
                  rw [← List.append_assoc]
                  exact List.Perm.append_right _ HM.out.1
                · intro x hx
                  rcases List.mem_append.1 hx with hx | hx
                  · exact h2s x hx
                  · rw [List.mem_singleton.1 hx]; exact hMl
                · have := bk_merge bk HM.out.1 HM.out.2
                  simpa using this
                · simp only [List.flatten_append, List.flatten_cons, List.flatten_nil, List.append_nil, List.length_append, hla, hMl]
                · simp only [List.flatten_cons, List.length_append] at hlB; omega
                · simpa using HS'.out
              case measure => simp [intOf]; omega
            · have hlt' : ¬ (a : Int) + 2 * (s : Int) ≤ (n : Int) := by omega
              rcases rest_end (by omega) hr (by omega) with ⟨rfl, h5⟩ | ⟨u, rfl, h6, h7, h5⟩ | ⟨u, v, rfl, hu, hv1, hv2, h5⟩
              · have h5' : ¬ (a : Int) + (s : Int) < (n : Int) := by omega
                have hnew := hide (And.intro pm (And.intro (rest_full (by omega) Ds h2s) bk))
                clear pm h2s hr bk hla hlB hp h5 hlt
                go_wp2
                go_roundw
                case rel => exact ⟨s * 2, Ds, by apply congrArg (Value.int .i64); omega, by omega, by omega, hide ⟨by simpa using hnew.out.1, by rw [Nat.mul_comm]; exact hnew.out.2.1, by simpa using hnew.out.2.2⟩, hide (by simpa using HS.out)⟩
                case measure => simp [intOf]; omega
              · have h5' : ¬ (a : Int) + (s : Int) < (n : Int) := by omega
                have hnew := hide (And.intro pm (And.intro (rest_snoc u h6 (show u.length ≤ 2 * s by omega) Ds h2s) bk))
                clear pm h2s hr bk hla hlB hp h5 hlt h6 h7
                go_wp2
                go_roundw
                case rel => exact ⟨s * 2, Ds ++ [u], by apply congrArg (Value.int .i64); omega, by omega, by omega, hide ⟨hnew.out.1, by rw [Nat.mul_comm]; exact hnew.out.2.1, hnew.out.2.2⟩, hide (by simpa using HS.out)⟩
                case measure => simp [intOf]; omega
              · have h5' : (a : Int) + (s : Int) < (n : Int) := by omega
                have hlB' : a + s + v.length = n := by simp at hlB; omega
                have HP := hide (And.intro pm (And.intro h2s (And.intro bk (And.intro hla (And.intro hu (And.intro hv1 (And.intro hv2 hlB')))))))
                clear pm h2s hr bk hla hlB hp h5 hu hv1 hv2 hlB' hlt
                go_wp2_with (go_at_call 82; refine Stop.out ?_)
                obtain ⟨pm, h2s, bk, hla, hu, hv1, hv2, hlB'⟩ := HP.out
                obtain ⟨su, sv, tuv⟩ := bk_two bk
                rw [show (a : Int) + (s : Int) = ((a + s : Nat) : Int) by omega]
                refine Stop.go (symMerge_c h0 f caps cf Hcf.out g n cap base w0 hn HC.out (u.length + v.length) Ds.flatten u v [] a (a + s) n _ _ (Nat.le_refl _) (by simpa using HS.out) hla (by rw [hu]) hlB' (by omega) hv1 su sv tuv ?_)
                intro w' M pM sM S'
                have hMl : M.length = s + v.length := by rw [pM.length_eq, List.length_append, hu]
                have hnew : Hid ((Ds ++ [M]).flatten.Perm l ∧ Rest (s * 2) (Ds ++ [M]) ∧ Bk key tag (Ds ++ [M])) := by
                  refine hide ⟨?_, rest_snoc M (by omega) (by omega) Ds (fun x hx => by rw [h2s x hx]; omega), bk_merge bk pM sM⟩
                  refine List.Perm.trans ?_ pm
                  simp only [List.flatten_append, List.flatten_cons, List.flatten_nil, List.append_nil]
                  exact List.Perm.append_left _ pM
                have HS' := hide (show St 88 1 (fun x => [c0 x]) w0 g n cap base (Ds ++ [M]).flatten w' by simpa using S')
                clear pM sM S' pm h2s bk hla hu hv1 hv2 hlB' su sv tuv hMl HP
                rw [show ((a + s : Nat) : Int) = (a : Int) + (s : Int) by omega]
                go_wp2
                go_roundw
                case rel => exact ⟨s * 2, Ds ++ [M], by apply congrArg (Value.int .i64); omega, by omega, by omega, hnew, HS'⟩
                case measure => simp [intOf]; omega
        · have hsn' : ¬ (s : Int) < (n : Int) := by omega
          have hl := HS.out.len
          have Hfin := hide (bk_last (by omega) hp.out.2.2 hp.out.2.1 (by omega))
          clear hl
          go_wp2
          go_end0
          exact HR.out _ _ hp.out.1 Hfin.out HS.out
end
end Go.Proofs.Ytihdpkeclmpehaa.D
