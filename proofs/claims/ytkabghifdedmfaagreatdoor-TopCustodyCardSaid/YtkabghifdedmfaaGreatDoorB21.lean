/- Handover: labels, keys, contents. Handover: the first check that fails. Digests: the row above a row. A range over an iterator: what it lays may hang on what came before. -/
import Derived.Test.YtkabghifdedmfaaGreatDoorB20
import Derived.Test.YtkabghifdedmfaaGreatDoorB17
set_option linter.unusedVariables false
set_option linter.unusedSimpArgs false
namespace Go.Proofs.YtkabghifdedmfaaGreatDoor
open Go.RowKit Go.Sort Go.Shelf

theorem isLabelH_c (s : ByteArray) (w : World) (R) (hm : s.size ≤ maxLen) (hR : ∀ w', Below w.heap.size w w' → R (.returned (.bool (isLabB s))) w') : Calls Tryz.prog 58 #[.string s] w R := by
  have HR := hide hR
  clear hR
  go_enter Tryz.func58, Tryz.ntmps58
  go_wp2_with (go_at_call 89; refine Stop.out ?_)
  refine Stop.go (text_c s w _ hm ?_)
  intro w' t hb ht
  have hF := HR.out _ hb
  have e : (!t.toList.isEmpty) = isLabB s := by
    cases hl : isLabB s with
    | true =>
      have h1 := ht.1 hl
      rw [Bool.not_eq_true', List.isEmpty_eq_false_iff]
      intro e
      rw [ByteArray.toList_eq] at e
      exact h1 (by
        have h3 : t.data = #[] := by simpa using e
        cases t; cases h3; rfl)
    | false =>
      have : t = ByteArray.empty := by
        apply Classical.byContradiction
        intro e; have := ht.2 e; rw [hl] at this; cases this
      rw [this, ByteArray.toList_eq]; rfl
  rw [← e] at hF
  have HF := hide hF
  clear hb ht hF e
  go_wp2
  exact HF.out
set_option maxRecDepth 100000 in
theorem allS_c (p : Option Addr) (n c : Nat) (l : List ByteArray) (w : World) (R) (hl : l.length = n) (hn : n ≤ maxLen) (h : StrsAt w p l) (hR : ∀ w', Below w.heap.size w w' → R (.returned (.bool (l.all isLabB))) w') : Calls Tryz.prog 57 #[.slice p n c, .func (.func 58) #[] #[]] w R := by
  have HR := hide hR; have H := hide h; have HL := hide hl
  clear hR h hl
  unfold maxLen at hn
  go_enter Tryz.func57, Tryz.ntmps57
  go_wp2
  go_loopw [9] (fun si wr => ∃ i : Nat, i ≤ n ∧ si = .int .i64 i ∧ Hid ((l.take i).all isLabB = true) ∧ Hid (Below w.heap.size w wr)) (fun si _ => n - (intOf si).toNat)
  case atStart => exact ⟨0, Nat.zero_le _, rfl, hide rfl, hide (Below.refl _ _)⟩
  case round =>
    obtain ⟨i, hi, rfl, HA, HB⟩ := hrel
    by_cases hlt : i < n
    · obtain ⟨b, o, x, rfl, hx, x0, hxs⟩ := (H.out.keep (Keeps.of_below HB.out)).at_ (i := i) (by rw [HL.out]; exact hlt)
      have Hx := hide hx
      clear hx
      go_wp2_with (go_at_call 58; refine Stop.out ?_)
      refine Stop.go (isLabelH_c x _ _ hxs ?_)
      intro w2 hb2
      have HB2 := hide (bseq HB.out hb2)
      have hs := all_take_succ isLabB l i x Hx.out
      rw [HA.out, Bool.true_and] at hs
      clear hb2 x0
      cases hv : isLabB x with
      | true =>
        rw [hv] at hs
        have HA2 := hide hs
        clear hs
        go_wp2
        go_roundw
        case rel => exact ⟨i + 1, by omega, by go_num, HA2, HB2⟩
        case measure => simp [intOf]; omega
      | false =>
        have hF := HR.out _ HB2.out
        rw [all_false_of isLabB l i x Hx.out hv] at hF
        have HF := hide hF
        clear hs hF
        go_wp2
        exact HF.out
    · obtain rfl : i = n := by omega
      have hF := HR.out _ HB.out
      rw [show l.all isLabB = true by have := HA.out; rw [List.take_of_length_le (by rw [HL.out]; exact Nat.le_refl _)] at this; exact this] at hF
      have HF := hide hF
      clear hF
      go_wp2
      exact HF.out
theorem areContents_c (p : Option Addr) (n c : Nat) (l : List ByteArray) (w : World) (R) (hl : l.length = n) (hn : n ≤ maxLen) (h : StrsAt w p l) (hR : ∀ w', Below w.heap.size w w' → R (.returned (.bool (decide (1 ≤ n ∧ n ≤ 40) && l.all isLabB))) w') : Calls Tryz.prog 24 #[.slice p n c] w R := by
  have HR := hide hR; have H := hide h; have HL := hide hl
  clear hR h hl
  unfold maxLen at hn
  by_cases h1 : 1 ≤ n
  rotate_left
  · have hF := HR.out _ (Below.refl _ _)
    rw [decide_eq_false (by omega), Bool.false_and] at hF
    have HF := hide hF
    have t1 : ¬ (1 : Int) ≤ (n : Int) := by omega
    clear hF
    go_enter Tryz.func24, Tryz.ntmps24
    go_wp2
    exact HF.out
  by_cases h2 : n ≤ 40
  rotate_left
  · have hF := HR.out _ (Below.refl _ _)
    rw [decide_eq_false (by omega), Bool.false_and] at hF
    have HF := hide hF
    have t1 : (1 : Int) ≤ (n : Int) := by omega
    have t2 : ¬ (n : Int) ≤ 40 := by omega
    clear hF
    go_enter Tryz.func24, Tryz.ntmps24
    go_wp2
    exact HF.out
  rw [decide_eq_true (by omega), Bool.true_and] at HR
  have t1 : (1 : Int) ≤ (n : Int) := by omega
  have t2 : (n : Int) ≤ 40 := by omega
  go_enter Tryz.func24, Tryz.ntmps24
  go_wp2_with (go_at_call 57; refine Stop.out ?_)
  refine Stop.go (allS_c p n c l w _ HL.out (by unfold maxLen; omega) H.out ?_)
  intro w' hb
  have HF := hide (HR.out _ hb)
  clear hb
  go_wp2
  exact HF.out
theorem below_c (x m : Int) (w : World) (R) (hR : R (.returned (.bool (decide (0 ≤ x ∧ x < m)))) w) : Calls Tryz.prog 32 #[.int .i64 x, .int .i64 m] w R := by
  have HR := hide hR
  clear hR
  by_cases h1 : 0 ≤ x
  · by_cases h2 : x < m
    · rw [decide_eq_true ⟨h1, h2⟩] at HR
      go_enter Tryz.func32, Tryz.ntmps32
      go_wp2
      exact HR.out
    · rw [decide_eq_false (fun h => h2 h.2)] at HR
      go_enter Tryz.func32, Tryz.ntmps32
      go_wp2
      exact HR.out
  · rw [decide_eq_false (fun h => h1 h.1)] at HR
    go_enter Tryz.func32, Tryz.ntmps32
    go_wp2
    exact HR.out
def Rem (x : Int) : Prop := 0 ≤ x ∧ x < 2147483647
theorem rem_c (x : Int) (w : World) (R) (h : Rem x) (hR : R (.returned (.bool true)) w) : Calls Tryz.prog 61 #[.int .i64 x] w R := by
  have HR := hide hR
  clear hR
  go_enter Tryz.func61, Tryz.ntmps61
  go_wp2_with (go_at_call 32; refine Stop.out ?_)
  refine Stop.go (below_c x 2147483647 w _ ?_)
  rw [decide_eq_true (show 0 ≤ x ∧ x < 2147483647 from h)]
  go_wp2
  exact HR.out
set_option maxRecDepth 100000 in
theorem allI_c (p : Option Addr) (n c : Nat) (l : List Int) (w : World) (R) (hl : l.length = n) (hn : n ≤ maxLen) (h : IntsAt .i64 w p l) (hx : ∀ x ∈ l, Rem x) (hR : R (.returned (.bool true)) w) : Calls Tryz.prog 60 #[.slice p n c, .func (.func 61) #[] #[]] w R := by
  have HR := hide hR; have H := hide h; have HL := hide hl; have HX := hide hx
  clear hR h hl hx
  unfold maxLen at hn
  go_enter Tryz.func60, Tryz.ntmps60
  go_wp2
  go_loopw [9] (fun si wr => ∃ i : Nat, i ≤ n ∧ si = .int .i64 i ∧ wr = w) (fun si _ => n - (intOf si).toNat)
  case atStart => exact ⟨0, Nat.zero_le _, rfl, rfl⟩
  case round =>
    obtain ⟨i, hi, rfl, rfl⟩ := hrel
    by_cases hlt : i < n
    · obtain ⟨b, o, x, rfl, hx, x0⟩ := H.out.at_ (i := i) (by rw [HL.out]; exact hlt)
      have hxr := HX.out x (List.mem_of_getElem? hx)
      clear hx
      go_wp2_with (go_at_call 61; refine Stop.out ?_)
      refine Stop.go (rem_c x _ _ hxr ?_)
      go_wp2
      go_roundw
      case rel => exact ⟨i + 1, by omega, by go_num, trivial⟩
      case measure => simp [intOf]; omega
    · obtain rfl : i = n := by omega
      have HF := HR.out
      go_wp2
      exact HF
theorem areKeys_c (p : Option Addr) (n c : Nat) (l : List Int) (w : World) (R) (hl : l.length = n) (hn : 1 ≤ n ∧ n ≤ 6) (h : IntsAt .i64 w p l) (hx : ∀ x ∈ l, Rem x) (hR : R (.returned (.bool true)) w) : Calls Tryz.prog 59 #[.slice p n c] w R := by
  have HR := hide hR
  have t1 : (1 : Int) ≤ (n : Int) := by omega
  have t2 : (n : Int) ≤ 6 := by omega
  clear hR
  go_enter Tryz.func59, Tryz.ntmps59
  go_wp2_with (go_at_call 60; refine Stop.out ?_)
  refine Stop.go (allI_c p n c l w _ hl (by unfold maxLen; omega) h hx ?_)
  go_wp2
  exact HR.out
end Go.Proofs.YtkabghifdedmfaaGreatDoor

namespace Go.Proofs.YtkabghifdedmfaaGreatDoor
open Go.RowKit Go.Sort Go.Shelf

theorem run_store_func {P : Program} {w : World} {a : Addr} {m : Mode} (f : Fn) (x y : Array Value) : (store a (.func f x y) m).run P w = stored P w a (.func f x y) m := run_store P w a _ m rfl
attribute [local go_sem] run_store_func

/-- A check: a bound method, its error, and whether it fails. -/
structure Ck where
  f : Nat
  rv : Value
  err : Int
  b : Bool
def Ck.cells (k : Ck) : List Value := [.func (.func k.f) #[k.rv] #[], .int .i64 k.err]
def errOf : List Ck → Int
  | [] => 0
  | k :: l => if k.b then k.err else errOf l
theorem errOf_take {l : List Ck} {i : Nat} {k : Ck} (h : l[i]? = some k) (hf : ∀ x ∈ l.take i, x.b = false) : (k.b = true → errOf l = k.err) ∧ (k.b = false → ∀ x ∈ l.take (i + 1), x.b = false) := by
  refine ⟨fun hb => ?_, fun hb x hx => ?_⟩
  · induction l generalizing i with
    | nil => simp at h
    | cons y l ih =>
      cases i with
      | zero => simp at h; subst h; rw [errOf, if_pos hb]
      | succ i =>
        have hy : y.b = false := hf y (by simp)
        rw [errOf, hy]
        exact ih (by simpa using h) (fun x hx => hf x (by rw [List.take_succ_cons]; exact List.mem_cons_of_mem _ hx))
  · rw [List.take_add_one, h] at hx
    rcases List.mem_append.1 hx with hx | hx
    · exact hf x hx
    · simp at hx; rw [hx]; exact hb
theorem errOf_none : ∀ {l : List Ck}, (∀ x ∈ l, x.b = false) → errOf l = 0
  | [], _ => rfl
  | y :: l, h => by rw [errOf, h y (by simp)]; exact errOf_none (fun x hx => h x (List.mem_cons_of_mem _ hx))
set_option maxRecDepth 100000 in
set_option maxHeartbeats 2000000 in
theorem firstErr_c (p : Option Addr) (n c : Nat) (cs : List Ck) (w : World) (R) (hl : cs.length = n) (hn : n ≤ 1000) (h : EncAt 2 Ck.cells w p cs)
    (hE : ∀ k ∈ cs, ∀ args W, (callFunc k.f args).run Tryz.prog W = .ok (.enter k.f args) W)
    (hC : ∀ k ∈ cs, ∀ W, Below w.heap.size w W → ∀ R' : Ending → World → Prop, (∀ W', Below W.heap.size W W' → R' (.returned (.bool k.b)) W') → Calls Tryz.prog k.f #[k.rv] W R')
    (hR : ∀ w', Below w.heap.size w w' → R (.returned (.int .i64 (errOf cs))) w') : Calls Tryz.prog 26 #[.slice p n c] w R := by
  have HR := hide hR; have H := hide h; have HL := hide hl; have HE := hide hE; have HC := hide hC
  clear hR h hl hE hC
  go_enter Tryz.func26, Tryz.ntmps26
  go_wp2
  go_loopw [7] (fun si wr => ∃ i : Nat, i ≤ n ∧ si = .int .i64 i ∧ Hid (∀ x ∈ cs.take i, x.b = false) ∧ Hid (Below w.heap.size w wr)) (fun si _ => n - (intOf si).toNat)
  case atStart => exact ⟨0, Nat.zero_le _, rfl, hide (by simp), hide (Below.refl _ _)⟩
  case round =>
    obtain ⟨i, hi, rfl, HF, HB⟩ := hrel
    by_cases hlt : i < n
    · obtain ⟨b, o, k, rfl, hk, hc⟩ := (H.out.keep (Keeps.of_below HB.out)).at_ (i := i) (by rw [HL.out]; exact hlt)
      have hmem := List.mem_of_getElem? hk
      have eg := HE.out k hmem
      have hF2 := errOf_take hk HF.out
      have x0 : wr.cell? ⟨b, o + i * 2, none⟩ = some (.func (.func k.f) #[k.rv] #[]) := hc 0 _ rfl
      have x1 : wr.cell? ⟨b, o + i * 2 + 1, none⟩ = some (.int .i64 k.err) := hc 1 _ rfl
      have HCk := hide (HC.out k hmem)
      have HF2 := hide hF2
      obtain ⟨kf, krv, kerr, kb⟩ := k
      simp only at eg x0 x1
      clear hk hc hmem hF2
      obtain ⟨w1, hw1⟩ : ∃ w1, wr.alloc (.cells #[.func (.func kf) #[krv] #[], .int .i64 kerr] 96) = w1 := ⟨_, rfl⟩
      have hb1 : Below wr.heap.size wr w1 := hw1 ▸ balloc (Below.refl _ _) _
      have HB1 := hide (bseq HB.out hb1)
      have k1 : Blk w1 wr.heap.size #[.func (.func kf) #[krv] #[], .int .i64 kerr] 96 := hw1 ▸ Blk.new _ _ _
      have HK1 := hide k1
      have y0 : w1.cell? ⟨wr.heap.size, 0, none⟩ = some (.func (.func kf) #[krv] #[]) := k1.cell (k := 0) rfl
      have Hw1 := hide hw1
      clear hb1 k1 hw1
      go_wp2_with (go_at_fn kf; refine Stop.out ?_)
      rw [Hw1.out]
      refine Stop.go (HCk.out w1 HB1.out _ ?_)
      intro w2 hb2
      have HB2 := hide (bseq HB1.out hb2)
      have k2 := HK1.out.next hb2
      have z1 : w2.cell? ⟨wr.heap.size, 1, none⟩ = some (.int .i64 kerr) := k2.cell (k := 1) rfl
      clear hb2 k2 y0 x0 x1 eg
      cases kb with
      | true =>
        have hF := HR.out _ HB2.out
        rw [HF2.out.1 rfl] at hF
        have HF3 := hide hF
        clear hF
        go_wp2
        exact HF3.out
      | false =>
        have HF3 := hide (HF2.out.2 rfl)
        clear HF HF2
        go_wp2
        go_roundw
        case rel => exact ⟨i + 1, by omega, by go_num, HF3, HB2⟩
        case measure => simp [intOf]; omega
    · obtain rfl : i = n := by omega
      have hF := HR.out _ HB.out
      rw [errOf_none (by have := HF.out; rw [List.take_of_length_le (by rw [HL.out]; exact Nat.le_refl _)] at this; exact this)] at hF
      have HF2 := hide hF
      clear hF
      go_wp2
      exact HF2.out
end Go.Proofs.YtkabghifdedmfaaGreatDoor

namespace Go.Proofs.YtkabghifdedmfaaGreatDoor
open Go.RowKit

theorem above_pair {l : List Int} {j : Nat} {x y : Int} (hx : l[2 * j]? = some x) (hy : l[2 * j + 1]? = some y) : (aboveP l).take (j + 1) = (aboveP l).take j ++ [sumP [1, x, y]] := by
  obtain ⟨_, h2, _⟩ := aboveP_at l (2 * j) x hx
  rw [List.take_add_one, show (aboveP l)[j]? = some (sumP [1, x, y]) by have := h2 (by omega) y hy; rwa [show 2 * j / 2 = j by omega] at this]
  rfl
theorem above_last {l : List Int} {j : Nat} {x : Int} (hx : l[2 * j]? = some x) (hy : l.length = 2 * j + 1) : (aboveP l).take j ++ [x] = aboveP l := by
  obtain ⟨_, _, h3⟩ := aboveP_at l (2 * j) x hx
  have h4 := h3 (by omega) (List.getElem?_eq_none (by omega))
  rw [show 2 * j / 2 = j by omega] at h4
  have h5 : (aboveP l).take (j + 1) = (aboveP l).take j ++ [x] := by rw [List.take_add_one, h4]; rfl
  rw [← h5]
  exact List.take_of_length_le (by rw [aboveP_len]; omega)
set_option maxRecDepth 100000 in
set_option maxHeartbeats 2000000 in
theorem above_c (p : Option Addr) (n c : Nat) (l : List Int) (w : World) (R) (hl : l.length = n) (hn : n ≤ 100000) (hn1 : 1 ≤ n) (h : IntsAt .i64 w p l) (hR : ∀ w' g c', Below w.heap.size w w' → w.heap.size ≤ g → IntsAt .i64 w' (some ⟨g, 0, none⟩) (aboveP l) → R (.returned (.slice (some ⟨g, 0, none⟩) ((n + 1) / 2) c')) w') : Calls Tryz.prog 82 #[.slice p n c] w R := by
  have HR := hide hR; have H := hide h; have HL := hide hl
  clear hR h hl
  go_enter Tryz.func82, Tryz.ntmps82
  go_wp2
  go_loopw [3, 4] (fun v si wr => ∃ j : Nat, 2 * j ≤ n ∧ si = .int .i64 ((2 * j : Nat) : Int) ∧ Hid (wr.ownsRow w.heap.size 3 1 v j (((aboveP l).take j).map (Value.int .i64))) ∧ Hid (Below w.heap.size w wr)) (fun _ si _ => n - (intOf si).toNat)
  case atStart => exact ⟨0, Nat.zero_le _, rfl, hide (by rw [List.take_zero]; exact World.ownsRow_nil _ _ _ _), hide (Below.refl _ _)⟩
  case round =>
    obtain ⟨j, hj, rfl, HO, HB⟩ := hrel
    by_cases hlt : 2 * j + 1 < n
    · obtain ⟨b, o, x, rfl, hx, x0⟩ := H.out.at_ (i := 2 * j) (by rw [HL.out]; omega)
      obtain ⟨b2, o2, y, hp2, hy, y0⟩ := H.out.at_ (i := 2 * j + 1) (by rw [HL.out]; exact hlt)
      injection hp2 with hp2; injection hp2 with hb2 ho2; subst hb2; subst ho2
      have HP := hide (above_pair hx hy)
      obtain ⟨i, hi⟩ : ∃ i, 2 * j = i := ⟨_, rfl⟩
      rw [hi] at x0 y0 hlt ⊢
      have t1 : (i : Int) + 1 < (n : Int) := by omega
      have z0 : wrap64 ((i : Int) + 1) = (i : Int) + 1 := IntWalk.wrap64_in ((i : Int) + 1) (by omega)
      have HS := hide (And.intro x0 y0)
      have Hi := hide hi
      clear hx hy x0 y0 hi
      go_wp2
      refine abv_reg _ b o n c i j _ x y ((aboveP l).take j) w _ hlt hn (by have := Hi.out; omega) HB HO HS (hide ?_)
      intro v' W v12 v13 v14 v15 v16 v17 v18 v19 v20 v21 v22 v23 v24 v25 hown hbel
      rw [← HP.out] at hown
      have HO2 := hide hown; have HB2 := hide hbel
      have z1 : wrap64 ((i : Int) + 2) = ((2 * (j + 1) : Nat) : Int) := by have := Hi.out; rw [show (i : Int) + 2 = ((2 * (j + 1) : Nat) : Int) by omega]; exact IntWalk.wrap64_in _ (by omega)
      have hj2 : 2 * (j + 1) ≤ n := by have := Hi.out; omega
      have hj3 : i = 2 * j := Hi.out.symm
      clear hown hbel HS HP
      go_wp2
      go_roundw
      case rel => exact ⟨j + 1, hj2, rfl, HO2, HB2⟩
      case measure => simp [intOf]; omega
    · have HX := hide (fun (x : Int) (hx : l[2 * j]? = some x) (h1 : n = 2 * j + 1) => above_last hx (HL.out.trans h1))
      have hE : n = 2 * j → (aboveP l).take j = aboveP l := fun e => List.take_of_length_le (by rw [aboveP_len, HL.out]; omega)
      have HE := hide hE
      have t0 : ¬ ((2 * j : Nat) : Int) + 1 < (n : Int) := by omega
      have z0 : wrap64 (((2 * j : Nat) : Int) + 1) = ((2 * j : Nat) : Int) + 1 := IntWalk.wrap64_in _ (by omega)
      clear hE
      by_cases hod : n = 2 * j
      · have e1 : (n : Int).tmod 2 = 0 := by rw [Int.tmod_eq_emod_of_nonneg (by omega)]; omega
        have e2 : ((0 : Int) == 1) = false := by decide
        have h1 := HO.out
        rw [HE.out hod] at h1
        obtain ⟨g, cap9, rfl, hg1, hg2⟩ := own_form h1 (by omega)
        have hF := HR.out _ g cap9 HB.out hg1 (IntsAt.of_own h1)
        rw [show (n + 1) / 2 = j by omega] at hF
        have HF2 := hide hF
        clear h1 hF
        go_wp2
        exact HF2.out
      · have ho1 : n = 2 * j + 1 := by omega
        have e1 : (n : Int).tmod 2 = 1 := by rw [Int.tmod_eq_emod_of_nonneg (by omega)]; omega
        obtain ⟨b, o, x, rfl, hx, x0⟩ := H.out.at_ (i := 2 * j) (by rw [HL.out]; omega)
        have HX2 := hide (HX.out x hx ho1)
        have x1 := cell_later HB.out x0
        have z1 : wrap64 ((n : Int) - 1) = ((2 * j : Nat) : Int) := by rw [show (n : Int) - 1 = ((2 * j : Nat) : Int) by omega]; exact IntWalk.wrap64_in _ (by omega)
        have t3 : ((2 * j : Nat) : Int) < (n : Int) := by omega
        obtain ⟨i3, hi0, hz0, hz1, hz2⟩ := info_parts Tryz.info3'
        have HT3 := hide (And.intro hi0 (And.intro hz0 (And.intro hz1 hz2)))
        clear hi0 hz0 hz1 hz2 hx x0 HX HE
        go_wp2_with (at_builtin; refine Stop.out ?_)
        refine Stop.go ?_
        obtain ⟨hi0, hz0, hz1, hz2⟩ := HT3.out
        refine wpList_app _ rfl (.tmp 30) (.tmp 37) 24 rfl w.heap.size 3 i3 _ 1 8 Tryz.underlying24 hi0 hz0 hz1 hz2 rfl (by omega) u3 j (((aboveP l).take j).map (Value.int .i64)) rfl (own_below HO.out (balloc (Below.refl _ _) _)) _ 1 1 [.int .i64 x] rfl (Src.ints (l := [x]) rfl (IntsAt.lit [x])) (by simp [Value.oneCell']) (by unfold maxLen; omega) (by omega) (Nat.le_trans HB.out.size (by simp)) ?_
        clear hi0 hz0 hz1 hz2
        intro v9 w9 hown hgr
        have hb9 := (balloc HB.out _).grown hgr (balloc HB.out _).size (fun k hk => (own_lt HO.out hk).1)
        rw [show ((aboveP l).take j).map (Value.int .i64) ++ [Value.int .i64 x] = (aboveP l).map (Value.int .i64) by have h7 := congrArg (List.map (Value.int .i64)) HX2.out; rw [List.map_append] at h7; exact h7] at hown
        obtain ⟨g, cap9, rfl, hg1, hg2⟩ := own_form hown (by omega)
        have hF := HR.out _ g cap9 hb9 hg1 (IntsAt.of_own hown)
        rw [show (n + 1) / 2 = j + 1 by omega] at hF
        have HF := hide hF
        clear hF
        clear hown hgr hb9 x1
        go_wp2_with fail
        go_wp2
        exact HF.out
end Go.Proofs.YtkabghifdedmfaaGreatDoor

namespace Go.Proofs.YtkabghifdedmfaaGreatDoor
open Go.RowKit

/-- An iterator that makes blocks, and writes none that was there, whose caller never stops it. K: blocks that it reads; Px: what it lays for an element. -/
def SeqC {α : Type} (F : Fence) (n : Nat) (P : Program) (g : Nat) (lb : Array Value) (encs : α → Array Value) (Px : List α → α → World → Prop) (K : Nat → Prop) (S : List α → Prop) (N : Nat) (w : World) : Prop :=
  ∀ (l : Nat) (J : List α → World → Prop) (bad : World → Nat → Prop) (W : World), Below w.heap.size w W →
    (∀ s A B, J s A → Below A.heap.size A B → J s B ∧ ∀ k, bad B k → bad A k ∧ k < A.heap.size) → (∀ k, K k → ¬ bad W k) →
    (∀ pre x W1, J pre W1 → Px pre x W1 → pre.length < N → YieldAt F (n - 1) P l (encs x) W1 fun e W' => e = .returned (.bool true) ∧ J (pre ++ [x]) W' ∧ Kpb bad W1 W') →
    J [] W →
    CallsIn F n P g (#[.func (.yield l) #[] #[]] ++ lb) W fun e W' => (∃ v, e = .returned v) ∧ ∃ xs, S xs ∧ J xs W'

section
variable {F : Fence} {n : Nat} {P : Program}

theorem rangeFunc_C {α : Type} {g : Operand} {ps : Array Tmp} {assign body : Code} {Q : Exit → Act → World → Prop} {a : Act} {w : World}
    (hro : F.round = none) (h1 : 1 ≤ n) {gf : Nat} {lb : Array Value} (hg : a.eval g = .func (.func gf) #[] lb) (hFg : F.fn gf) (eg : ∀ args w, (callFunc gf args).run P w = .ok (.enter gf args) w)
    {encs : α → Array Value} {K : Nat → Prop} {Px : List α → α → World → Prop} {S : List α → Prop} {N : Nat} (hseq : SeqC F (n - 1) P gf lb encs Px K S N w) (bad : World → Nat → Prop) (hK : ∀ k, K k → k < w.heap.size ∧ ¬ bad w k) (hps : ∀ x, (encs x).size = ps.size)
    (I : List α → World → Prop) (hI : OwnB w.heap.size I) (hIb : BadB w.heap.size I bad) (h0 : I [] w) (A : List α → World → α → Act → World → Prop) (hA : ∀ pre W0 a', OwnB w.heap.size (fun x W => A pre W0 x a' W))
    (hassign : ∀ (l : Nat) (pre : List α) (x : α) (W : World) (K' : Act → World → Prop), I pre W → Px pre x W → (∀ a' W', KeepsFrom w.heap.size W W' → Kpb bad W W' → I pre W' → A pre W x a' W' → K' a' W') →
      assign.wpIn (F.inRound l) (n - 1 - 1) P (Exit.then K' (fun _ _ _ => False)) { tmps := (ps.zip (encs x)).foldl (fun t (p, v) => t.setIfInBounds p v) a.tmps, defers := [] } W)
    (hbody : ∀ (l : Nat) (pre : List α) (x : α) (a' : Act) (W0 W : World), I pre W → pre.length < N → A pre W0 x a' W → Kpb (fun W k => k = w.heap.size + 1 ∨ bad W k) W0 W →
      body.wpIn (F.inRound l) (n - 1 - 1) P (ownPostG w.heap.size (fun _ W' => Kpb (fun W k => k = w.heap.size + 1 ∨ bad W k) W0 W') I (fun _ _ _ => False) (pre ++ [x]) W) a' W)
    (hdone : ∀ (D : Nat) (xs : List α) (W : World), w.heap.size ≤ D → S xs → I xs W → W.heap[D]? = some (.deferred (some [])) → Q .normal { a with defers := { target := .collected D, args := #[] } :: a.defers } W) :
    (Code.rangeFunc g ps assign body).wpIn F n P Q a w := by
  refine wpIn_rangeFunc ?_
  intro fn hfn
  rw [hro]
  let rc : LoopState → Option Code → Loop := fun st pe => { state := st, pending := pe, fn, tmps := a.tmps, params := ps, assign, body, defers := w.heap.size }
  let B := w.heap.size
  obtain ⟨W1, hW1⟩ : ∃ W1, (w.alloc (.deferred (some []))).alloc (.loop (rc .ready none)) = W1 := ⟨_, rfl⟩
  have hL1 : W1.heap[w.heap.size + 1]? = some (.loop (rc .ready none)) := by
    rw [← hW1]; have := World.alloc_heap_new (w.alloc (.deferred (some []))) (.loop (rc .ready none)); rwa [World.size_alloc] at this
  have hD1 : W1.heap[w.heap.size]? = some (.deferred (some [])) := by
    rw [← hW1]; exact (Below.heap_alloc _ _ _ (by simp)).trans (World.alloc_heap_new w _)
  have hB1 : Below w.heap.size w W1 := by rw [← hW1]; exact ((Below.refl _ w).alloc (Nat.le_refl _) _).alloc (by simp) _
  have hg1 : w.grownBy W1 none := by rw [← hW1]; exact (World.grownBy_alloc _ _ none).trans (World.grownBy_alloc _ _ none)
  -- a step of the iterator leaves the record and the block for deferred calls
  have step : ∀ {A A' : World} {k : Nat} {o : Obj}, A.grownBy A' none → B ≤ k → A.heap[k]? = some o → A'.heap[k]? = some o := fun h hk ho =>
    (h.block _ (Array.getElem?_eq_some_iff.1 ho).1 (by simp)).trans ho
  have put : ∀ {J : List α → World → Prop}, OwnB w.heap.size J → ∀ {s : List α} {A : World} {o : Obj} (o' : Obj), J s A → A.heap[w.heap.size + 1]? = some o → o.isCells = false → J s (A.putObj (w.heap.size + 1) o') := fun hJ s A o o' hs ho hc =>
    hJ s A _ (some (w.heap.size + 1)) hs (grownBy_putObj' A _ o') (fun r e => by cases e; exact ⟨by omega, o, ho, hc⟩)
  have kput : ∀ (s : List α) (A : World) (o o' : Obj), I s A → A.heap[w.heap.size + 1]? = some o → o.isCells = false → Kpb (fun W k => k = w.heap.size + 1 ∨ bad W k) A (A.putObj (w.heap.size + 1) o') := fun s A o o' hs ho hc =>
    ⟨(grownBy_putObj' A (w.heap.size + 1) o').size, fun k hk hb => ⟨World.putObj_heap_other (fun e => hb (.inl e)), fun hh => by
      rcases hh with hh | hh
      · exact hb (.inl hh)
      · exact hb (.inr (hIb s A _ (some (w.heap.size + 1)) hs (grownBy_putObj' A _ o') (fun r e => by cases e; exact ⟨by omega, o, ho, hc⟩) k hh).1)⟩⟩
  refine ⟨w.heap.size + 1, [{ target := .collected w.heap.size, args := #[] }], W1, { target := .fn (.func gf) lb, args := #[.func (.yield (w.heap.size + 1)) #[] #[]] }, W1, gf, #[.func (.yield (w.heap.size + 1)) #[] #[]] ++ lb, W1, ?_, ?_, ?_, ?_, fun _ => h1, ?_⟩
  · rw [← hW1]; exact run_enterLoop_outer _ _ _ _ _
  · simp only [resolve, hg]; simp [go_sem]
  · intro f' hf'; simp [Target.leads] at hf'; subst hf'; exact hFg
  · simp [invoke, go_sem, eg]
  refine (hseq (w.heap.size + 1)
    (fun pre W => I pre W ∧ W.heap[w.heap.size + 1]? = some (.loop (rc .ready none)) ∧ W.heap[w.heap.size]? = some (.deferred (some [])))
    (fun W k => k = w.heap.size + 1 ∨ bad W k)
    W1 hB1 (fun s A A' hs hA => ⟨⟨hI s A A' _ hs.1 (grown_of_below hA) (fun r e => by cases e), step (grown_of_below hA) (by show w.heap.size ≤ _; omega) hs.2.1, step (grown_of_below hA) (Nat.le_refl _) hs.2.2⟩, fun k hk => by
      rcases hk with rfl | hk
      · exact ⟨.inl rfl, (Array.getElem?_eq_some_iff.1 hs.2.1).1⟩
      · obtain ⟨h1, h2⟩ := hIb s A A' none hs.1 (grown_of_below hA) (fun r e => by cases e) k hk
        exact ⟨.inr h1, h2⟩⟩)
    (fun k hk => by
      obtain ⟨h1, h2⟩ := hK k hk
      rintro (hh | hh)
      · omega
      · exact h2 (hIb [] w W1 none h0 hg1 (fun r e => by cases e) k hh).1)
    ?_ ⟨hI [] w W1 none h0 hg1 (fun r e => by cases e), hL1, hD1⟩).mono ?_
  · -- a round
    rintro pre x W0 ⟨hi0, hl0, hk0⟩ hpx hlen
    refine ⟨fn, _, assign, body, run_yield (P := P) (args := encs x) hl0 (hps x), roundIn_of_wpIn hfn (hassign _ pre x W0 _ hi0 hpx fun a' W hKO hKK hi hax => ?_)⟩
    have hl := hKO.same _ _ (Nat.le_succ _) hl0 rfl
    have hk := hKO.same _ _ (Nat.le_refl _) hk0 rfl
    refine ⟨_, run_beginRound hl rfl, ?_⟩
    have hlt : w.heap.size + 1 < W.heap.size := (Array.getElem?_eq_some_iff.1 hl).1
    have hl2 : (W.putObj (w.heap.size + 1) (.loop { rc .ready none with state := .busy })).heap[w.heap.size + 1]? = some (.loop { rc .ready none with state := .busy }) := World.putObj_heap_same hlt
    have hk2 : (W.putObj (w.heap.size + 1) (.loop { rc .ready none with state := .busy })).heap[w.heap.size]? = some (.deferred (some [])) := (World.putObj_heap_other (by omega)).trans hk
    have hax2 : A pre W0 x a' (W.putObj (w.heap.size + 1) (.loop { rc .ready none with state := .busy })) := hA pre W0 a' x W _ (some (w.heap.size + 1)) hax (grownBy_putObj' W _ _) (fun r e => by cases e; exact ⟨by omega, _, hl, rfl⟩)
    refine wpIn_mono (hbody _ pre x a' W0 _ (put hI _ hi hl rfl) hlen hax2 ((hKK.more _).trans (kput pre W _ _ hi hl rfl))) ?_
    have fin : ∀ (jump : Option Code) (W3 : World), KeepsFrom w.heap.size (W.putObj (w.heap.size + 1) (.loop { rc .ready none with state := .busy })) W3 →
        ∃ W4, (Instr.endRound (w.heap.size + 1) jump).run P W3 = .ok (.bool jump.isNone) W4 ∧ W4 = W3.putObj (w.heap.size + 1) (.loop (rc (if jump.isNone then .ready else .done) jump)) ∧
        W3.heap[w.heap.size + 1]? = some (.loop { rc .ready none with state := .busy }) ∧ W4.heap[w.heap.size + 1]? = some (.loop (rc (if jump.isNone then .ready else .done) jump)) ∧ W4.heap[w.heap.size]? = some (.deferred (some [])) := fun jump W3 h3 => by
      have hl3 := h3.same _ _ (Nat.le_succ _) hl2 rfl
      exact ⟨_, run_endRound (P := P) jump hl3, rfl, hl3, World.putObj_heap_same (Array.getElem?_eq_some_iff.1 hl3).1, (World.putObj_heap_other (by omega)).trans (h3.same _ _ (Nat.le_refl _) hk2 rfl)⟩
    rintro e a3 W3 hp
    cases e with
    | normal =>
      obtain ⟨hk3, hkp3, hi3⟩ := hp
      obtain ⟨W4, hr, rfl, hl3, hl4, hk4⟩ := fin none W3 hk3
      exact ⟨_, _, hr, rfl, ⟨put hI _ hi3 hl3 rfl, hl4, hk4⟩, hkp3.trans (kput _ W3 _ _ hi3 hl3 rfl)⟩
    | ret => exact hp.2.elim
    | exit id => exact hp.2.elim
    | goto t => exact hp.2.elim
    | panic ch => exact hp.elim
    | outgrown => exact hp.elim
  · -- behind the iterator
    rintro e W2 ⟨⟨v, rfl⟩, xs, hS, hi, hl, hk⟩
    exact ⟨none, _, run_endLoop (P := P) hl (by simp [rc]), hdone _ xs _ (Nat.le_refl _) hS (put hI _ hi hl rfl) ((World.putObj_heap_other (by omega)).trans hk)⟩
end
end Go.Proofs.YtkabghifdedmfaaGreatDoor
