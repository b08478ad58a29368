/- Labels. Plain: digests, the hash tree of labels, and the climb from a leaf to the root. Digests: the walks of sum, numbers, Label. -/
import Derived.Test.YtkabghifdedmfaaGreatDoorB1
import Derived.Test.YtkabghifdedmfaaGreatDoorB18
import Derived.RowKit
import Derived.Test.YtkabghifdedmfaaGreatDoorB3
set_option linter.unusedVariables false
set_option linter.unusedSimpArgs false
namespace Go.Proofs.YtkabghifdedmfaaGreatDoor
open Go.RowKit Go.Sort Go.Shelf

def othP (r : Nat) : Bool := (decide (r < 65) || decide (90 < r)) && (decide (r < 48) || decide (57 < r)) && !decide (r = 46)
theorem oth_pred (w : World) : PredAt Tryz.prog 165 #[] encR othP w := fun W r _ => by
  unfold FnGives
  have hc : r < 46 ∨ r = 46 ∨ r = 47 ∨ (48 ≤ r ∧ r ≤ 57) ∨ (58 ≤ r ∧ r < 65) ∨ (65 ≤ r ∧ r ≤ 90) ∨ 90 < r := by omega
  rcases hc with h | h | h | h | h | h | h
  all_goals
    have z1 : (r : Int) < 65 ↔ r < 65 := by omega
    have z2 : (90 : Int) < (r : Int) ↔ 90 < r := by omega
    have z3 : (r : Int) < 48 ↔ r < 48 := by omega
    have z4 : (57 : Int) < (r : Int) ↔ 57 < r := by omega
    have z5 : ((r : Int) != 46) = !decide (r = 46) := by
      by_cases e : r = 46
      · subst e; rfl
      · have : ¬ (r : Int) = 46 := by omega
        simp [e, this]
    go_enter Tryz.func165, Tryz.ntmps165
    go_wp2
    all_goals first | (exfalso; omega) | (go_ret; exact ⟨by unfold othP; first | (simp; omega) | (have e9 : (decide (r < 65) || decide (90 < r)) = true := (by rw [Bool.or_eq_true, decide_eq_true_iff, decide_eq_true_iff]; omega); rw [e9, Bool.true_and]; rfl), 0, rfl⟩)
/-- A text is a label. -/
def isLabB (s : ByteArray) : Bool := decide (1 ≤ s.size ∧ s.size ≤ 20) && !decide (0 ≤ Lib.idxFunc othP true s)
theorem isLab_size {s : ByteArray} (h : isLabB s = true) : 1 ≤ s.size ∧ s.size ≤ 20 := by
  unfold isLabB at h
  rw [Bool.and_eq_true] at h
  exact of_decide_eq_true h.1
theorem isLabR_c (s : ByteArray) (w : World) (R) (hm : s.size ≤ maxLen) (hR : ∀ w', Below w.heap.size w w' → R (.returned (.bool (isLabB s))) w') : Calls Tryz.prog 132 #[.string s] w R := by
  have HR := hide hR
  clear hR
  unfold maxLen at hm
  by_cases h1 : s.size < 1
  · have hb : isLabB s = false := by unfold isLabB; simp; omega
    have t1 : (s.size : Int) < 1 := by omega
    have HF := hide (HR.out _ (Below.refl _ _))
    rw [hb] at HF
    go_enter Tryz.func132, Tryz.ntmps132
    go_wp2
    exact HF.out
  by_cases h2 : 20 < s.size
  · have hb : isLabB s = false := by unfold isLabB; simp; omega
    have t1 : ¬ (s.size : Int) < 1 := by omega
    have t2 : (20 : Int) < (s.size : Int) := by omega
    have HF := hide (HR.out _ (Below.refl _ _))
    rw [hb] at HF
    go_enter Tryz.func132, Tryz.ntmps132
    go_wp2
    exact HF.out
  · have t1 : ¬ (s.size : Int) < 1 := by omega
    have t2 : ¬ (20 : Int) < (s.size : Int) := by omega
    have hb : isLabB s = !decide (0 ≤ Lib.idxFunc othP true s) := by unfold isLabB; rw [decide_eq_true (by omega), Bool.true_and]
    rw [hb] at HR
    clear hb
    go_enter Tryz.func132, Tryz.ntmps132
    go_wp2_with (go_at_call 166; refine Stop.out ?_)
    refine Stop.go ((Tryz.strings_ContainsFunc 165 #[] (enters_of Tryz.func165 (by kernel_rfl) rfl) othP s w (oth_pred w)).mono ?_)
    rintro e w' ⟨rfl, hb⟩
    have HF := hide (HR.out _ hb)
    clear hb
    go_wp2
    exact HF.out
theorem from_c (x m : Int) (w : World) (R) (h : 0 ≤ x ∧ x ≤ m) (hR : R (.returned (.bool true)) w) : Calls Tryz.prog 131 #[.int .i64 x, .int .i64 m] w R := by
  have HR := hide hR
  obtain ⟨h1, h2⟩ := h
  clear hR
  go_enter Tryz.func131, Tryz.ntmps131
  go_wp2
  exact HR.out
/-- The record whose text is asked for. -/
def labCells (s : ByteArray) : List Value := [.int .i64 0, .int .i64 0, .int .i64 1, .int .i64 0, .string s, .slice none 0 0]
set_option maxRecDepth 100000 in
theorem complete_c (s : ByteArray) (w : World) (R) (hm : s.size ≤ maxLen) (hR : ∀ w', Below w.heap.size w w' → R (.returned (.bool (isLabB s))) w') : Calls Tryz.prog 105 #[.agg #[.int .i64 0, .int .i64 0, .int .i64 1, .int .i64 0, .string s, .slice none 0 0]] w R := by
  have HR := hide hR
  clear hR
  obtain ⟨w1, hw1⟩ : ∃ w1, w.alloc (.cells #[.int .i64 0, .int .i64 0, .int .i64 1, .int .i64 0, .string s, .slice none 0 0] 32) = w1 := ⟨_, rfl⟩
  have HB1 := hide (show Below w.heap.size w w1 from hw1 ▸ balloc (Below.refl _ _) _)
  have k1 : Blk w1 w.heap.size #[.int .i64 0, .int .i64 0, .int .i64 1, .int .i64 0, .string s, .slice none 0 0] 32 := hw1 ▸ Blk.new _ _ _
  have HK := hide k1
  have x0 : w1.cell? ⟨w.heap.size, 0, none⟩ = some (.int .i64 0) := k1.cell (k := 0) rfl
  have x1 : w1.cell? ⟨w.heap.size, 1, none⟩ = some (.int .i64 0) := k1.cell (k := 1) rfl
  have x3 : w1.cell? ⟨w.heap.size, 3, none⟩ = some (.int .i64 0) := k1.cell (k := 3) rfl
  have x4 : w1.cell? ⟨w.heap.size, 4, none⟩ = some (.string s) := k1.cell (k := 4) rfl
  clear k1
  have q1 : (0 : Int) ≤ 0 := by decide
  go_enter Tryz.func105, Tryz.ntmps105
  go_wp2_with (go_at_call 131; refine Stop.out ?_)
  refine Stop.go (from_c 0 1000000 _ _ (by decide) ?_)
  go_wp2_with (go_at_call 131; refine Stop.out ?_)
  refine Stop.go (from_c 0 1000000 _ _ (by decide) ?_)
  go_wp2_with (go_at_call 131; refine Stop.out ?_)
  refine Stop.go (from_c 0 1000000 _ _ (by decide) ?_)
  go_wp2_with (go_at_call 132; refine Stop.out ?_)
  refine Stop.go (isLabR_c s _ _ hm ?_)
  intro w2 hb2
  have HB2 := hide (bseq HB1.out hb2)
  have k2 := HK.out.next hb2
  have y2 : w2.cell? ⟨w.heap.size, 2, none⟩ = some (.int .i64 1) := k2.cell (k := 2) rfl
  have y5 : w2.cell? ⟨w.heap.size, 5, none⟩ = some (.slice none 0 0) := k2.cell (k := 5) rfl
  have HF := hide (HR.out _ HB2.out)
  clear hb2 k2 x0 x1 x3 x4 hw1
  cases hl : isLabB s with
  | false =>
    rw [hl] at HF
    go_wp2
    exact HF.out
  | true =>
    rw [hl] at HF
    go_wp2
    exact HF.out
end Go.Proofs.YtkabghifdedmfaaGreatDoor

namespace Go.Proofs.YtkabghifdedmfaaGreatDoor

/-- The digest of numbers. -/
def sumP (l : List Int) : Int := l.foldl (fun h n => (h * 1000003 + n % 2147483647 + 1) % 2147483647) 7
theorem sumP_snoc (l : List Int) (n : Int) : sumP (l ++ [n]) = (sumP l * 1000003 + n % 2147483647 + 1) % 2147483647 := by
  unfold sumP; rw [List.foldl_append]; rfl
theorem sumP_range (l : List Int) : 0 ≤ sumP l ∧ sumP l < 2147483647 := by
  rcases List.eq_nil_or_concat l with rfl | ⟨l', n, rfl⟩
  · exact ⟨by decide, by decide⟩
  · rw [List.concat_eq_append, sumP_snoc]
    exact ⟨Int.emod_nonneg _ (by decide), Int.emod_lt_of_pos _ (by decide)⟩
def bytesP (s : ByteArray) : List Int := s.toList.map (fun b => (b.toNat : Int))
def labelD (s : ByteArray) : Int := sumP (bytesP s)
def leafP (s : ByteArray) : Int := sumP [0, labelD s]
/-- The row above a row. -/
def aboveP : List Int → List Int
  | x :: y :: l => sumP [1, x, y] :: aboveP l
  | l => l
theorem aboveP_len : ∀ l : List Int, (aboveP l).length = (l.length + 1) / 2
  | [] => rfl
  | [_] => by simp [aboveP]
  | x :: y :: l => by rw [aboveP, List.length_cons, aboveP_len l, List.length_cons, List.length_cons]; omega
theorem aboveP_at : ∀ (l : List Int) (i : Nat) (x : Int), l[i]? = some x →
    (i % 2 = 1 → ∃ y, l[i - 1]? = some y ∧ (aboveP l)[i / 2]? = some (sumP [1, y, x])) ∧
    (i % 2 = 0 → ∀ y, l[i + 1]? = some y → (aboveP l)[i / 2]? = some (sumP [1, x, y])) ∧
    (i % 2 = 0 → l[i + 1]? = none → (aboveP l)[i / 2]? = some x)
  | [], i, x, h => by simp at h
  | [a], i, x, h => by
    cases i with
    | zero =>
      simp at h; subst h
      exact ⟨fun e => by simp at e, fun _ y hy => by simp at hy, fun _ _ => rfl⟩
    | succ i => simp at h
  | a :: b :: l, 0, x, h => by
    simp at h; subst h
    refine ⟨fun e => by simp at e, fun _ y hy => ?_, fun _ hy => by simp at hy⟩
    simp at hy; subst hy
    rfl
  | a :: b :: l, 1, x, h => by
    simp at h; subst h
    exact ⟨fun _ => ⟨a, rfl, rfl⟩, fun e => by simp at e, fun e => by simp at e⟩
  | a :: b :: l, i + 2, x, h => by
    have h' : l[i]? = some x := by simpa using h
    obtain ⟨h1, h2, h3⟩ := aboveP_at l i x h'
    have e1 : (i + 2) % 2 = i % 2 := by omega
    have e2 : (i + 2) / 2 = i / 2 + 1 := by omega
    rw [e1, e2]
    refine ⟨fun e => ?_, fun e y hy => ?_, fun e hy => ?_⟩
    · obtain ⟨y, hy, hz⟩ := h1 e
      refine ⟨y, ?_, by rw [aboveP, List.getElem?_cons_succ]; exact hz⟩
      obtain ⟨j, rfl⟩ : ∃ j, i = j + 1 := ⟨i - 1, by omega⟩
      simpa using hy
    · rw [aboveP, List.getElem?_cons_succ]; exact h2 e y (by simpa using hy)
    · rw [aboveP, List.getElem?_cons_succ]; exact h3 e (by simpa using hy)
/-- The element beside the one with an index. -/
def sibP (row : List Int) (i : Nat) : Int := if i % 2 = 1 then row.getD (i - 1) (-1) else row.getD (i + 1) (-1)
/-- The path from a leaf up; n is more than the rows. -/
def pathP : Nat → List Int → Nat → List Int
  | 0, _, _ => []
  | n + 1, row, i => if 1 < row.length then sibP row i :: pathP n (aboveP row) (i / 2) else []
def rootP : Nat → List Int → Int
  | 0, row => row.getD 0 7
  | n + 1, row => if 1 < row.length then rootP n (aboveP row) else row.getD 0 7
def climbP : List Int → Int → Nat → Int
  | [], d, _ => d
  | b :: path, d, i => climbP path (if b = -1 then d else if i % 2 = 1 then sumP [1, b, d] else sumP [1, d, b]) (i / 2)
/-- The climb from a leaf ends at the root. -/
theorem climb_root : ∀ (n : Nat) (row : List Int) (i : Nat) (x : Int), row.length ≤ 2 ^ n → (∀ y ∈ row, 0 ≤ y) → row[i]? = some x → climbP (pathP n row i) x i = rootP n row
  | 0, row, i, x, hl, _, hx => by
    have hi := (List.getElem?_eq_some_iff.1 hx).1
    obtain rfl : i = 0 := by simp at hl; omega
    rw [pathP, climbP, rootP, List.getD_eq_getElem?_getD, hx]; rfl
  | n + 1, row, i, x, hl, hp, hx => by
    have hi := (List.getElem?_eq_some_iff.1 hx).1
    rw [pathP, rootP]
    by_cases h1 : 1 < row.length
    · rw [if_pos h1, if_pos h1, climbP]
      obtain ⟨a1, a2, a3⟩ := aboveP_at row i x hx
      have hup : ∀ y ∈ aboveP row, 0 ≤ y := by
        intro y hy
        obtain ⟨j, hj⟩ := List.getElem?_of_mem hy
        have hj2 := (List.getElem?_eq_some_iff.1 hj).1
        rw [aboveP_len] at hj2
        obtain ⟨z, hz⟩ : ∃ z, row[2 * j]? = some z := ⟨_, List.getElem?_eq_getElem (by omega)⟩
        obtain ⟨_, b2, b3⟩ := aboveP_at row (2 * j) z hz
        rw [show 2 * j / 2 = j by omega] at b2 b3
        cases hz2 : row[2 * j + 1]? with
        | none => rw [b3 (by omega) hz2] at hj; injection hj with hj; rw [← hj]; exact hp z (List.mem_of_getElem? hz)
        | some u => rw [b2 (by omega) u hz2] at hj; injection hj with hj; rw [← hj]; exact (sumP_range _).1
      refine climb_root n (aboveP row) (i / 2) _ (by rw [aboveP_len]; have h2 : 2 ^ (n + 1) = 2 * 2 ^ n := (by rw [Nat.pow_succ]; omega); omega) hup ?_
      by_cases hm : i % 2 = 1
      · obtain ⟨y, hy, hz⟩ := a1 hm
        have hs : sibP row i = y := by unfold sibP; rw [if_pos hm, List.getD_eq_getElem?_getD, hy]; rfl
        have hy0 := hp y (List.mem_of_getElem? hy)
        rw [hs, if_neg (by omega), if_pos hm]; exact hz
      · cases hy : row[i + 1]? with
        | none =>
          have hs : sibP row i = -1 := by unfold sibP; rw [if_neg hm, List.getD_eq_getElem?_getD, hy]; rfl
          rw [hs, if_pos rfl]; exact a3 (by omega) hy
        | some y =>
          have hs : sibP row i = y := by unfold sibP; rw [if_neg hm, List.getD_eq_getElem?_getD, hy]; rfl
          have hy0 := hp y (List.mem_of_getElem? hy)
          rw [hs, if_neg (by omega), if_neg hm]; exact a2 (by omega) y hy
    · rw [if_neg h1, if_neg h1, climbP]
      obtain rfl : i = 0 := by omega
      rw [List.getD_eq_getElem?_getD, hx]; rfl
theorem path_len : ∀ (n : Nat) (row : List Int) (i : Nat), (pathP n row i).length ≤ n
  | 0, _, _ => Nat.le_refl _
  | n + 1, row, i => by
    rw [pathP]
    split
    · rw [List.length_cons]; have := path_len n (aboveP row) (i / 2); omega
    · exact Nat.zero_le _
theorem path_range : ∀ (n : Nat) (row : List Int) (i : Nat), (∀ y ∈ row, 0 ≤ y ∧ y < 2147483647) → ∀ x ∈ pathP n row i, -1 ≤ x ∧ x < 2147483647
  | 0, _, _, _, x, hx => by cases hx
  | n + 1, row, i, hp, x, hx => by
    rw [pathP] at hx
    split at hx
    · rcases List.mem_cons.1 hx with rfl | hx
      · unfold sibP
        have hg : ∀ j, -1 ≤ row.getD j (-1) ∧ row.getD j (-1) < 2147483647 := by
          intro j
          rw [List.getD_eq_getElem?_getD]
          cases hj : row[j]? with
          | none => exact ⟨by decide, by decide⟩
          | some y => have := hp y (List.mem_of_getElem? hj); exact ⟨by show -1 ≤ y; omega, this.2⟩
        split <;> exact hg _
      · refine path_range n (aboveP row) (i / 2) (fun y hy => ?_) x hx
        obtain ⟨j, hj⟩ := List.getElem?_of_mem hy
        have hj2 := (List.getElem?_eq_some_iff.1 hj).1
        rw [aboveP_len] at hj2
        obtain ⟨z, hz⟩ : ∃ z, row[2 * j]? = some z := ⟨_, List.getElem?_eq_getElem (by omega)⟩
        obtain ⟨_, b2, b3⟩ := aboveP_at row (2 * j) z hz
        rw [show 2 * j / 2 = j by omega] at b2 b3
        cases hz2 : row[2 * j + 1]? with
        | none => rw [b3 (by omega) hz2] at hj; injection hj with hj; rw [← hj]; exact hp z (List.mem_of_getElem? hz)
        | some u => rw [b2 (by omega) u hz2] at hj; injection hj with hj; rw [← hj]; exact sumP_range _
    · cases hx
end Go.Proofs.YtkabghifdedmfaaGreatDoor

namespace Go.Proofs.YtkabghifdedmfaaGreatDoor
open Go.RowKit

theorem rem_neg {n : Int} (h : n.tmod 2147483647 < 0) : n.tmod 2147483647 + 2147483647 = n % 2147483647 := by
  have h1 := Int.tmod_eq_emod (a := n) (b := 2147483647)
  have h2 := Int.emod_nonneg n (show (2147483647 : Int) ≠ 0 by decide)
  have h3 := Int.emod_lt_of_pos n (show (0 : Int) < 2147483647 by decide)
  split at h1
  · omega
  · have : ((2147483647 : Int).natAbs : Int) = 2147483647 := rfl
    omega
theorem rem_pos {n : Int} (h : ¬ n.tmod 2147483647 < 0) : n.tmod 2147483647 = n % 2147483647 := by
  have h1 := Int.tmod_eq_emod (a := n) (b := 2147483647)
  have h2 := Int.emod_nonneg n (show (2147483647 : Int) ≠ 0 by decide)
  have h3 := Int.emod_lt_of_pos n (show (0 : Int) < 2147483647 by decide)
  split at h1
  · omega
  · have : ((2147483647 : Int).natAbs : Int) = 2147483647 := rfl
    omega
set_option maxRecDepth 100000 in
theorem sum_c (p : Option Addr) (n c : Nat) (l : List Int) (w : World) (R) (hl : l.length = n) (hn : n ≤ maxLen) (h : IntsAt .i64 w p l) (hR : R (.returned (.int .i64 (sumP l))) w) : Calls Tryz.prog 62 #[.slice p n c] w R := by
  have HR := hide hR; have H := hide h; have HL := hide hl
  clear hR h hl
  unfold maxLen at hn
  go_enter Tryz.func62, Tryz.ntmps62
  go_wp2
  go_loopw [3, 9] (fun sh si wr => ∃ (i : Nat) (x : Int), i ≤ n ∧ sh = .int .i64 x ∧ si = .int .i64 i ∧ Hid (sumP (l.take i) = x) ∧ 0 ≤ x ∧ x < 2147483647 ∧ wr = w) (fun _ si _ => n - (intOf si).toNat)
  case atStart => exact ⟨0, 7, Nat.zero_le _, rfl, rfl, hide rfl, by decide, by decide, rfl⟩
  case round =>
    obtain ⟨i, x, hi, rfl, rfl, HX, hx0, hx1, rfl⟩ := hrel
    by_cases hlt : i < n
    · obtain ⟨b, o, y, rfl, hy, y0⟩ := H.out.at_ (i := i) (by rw [HL.out]; exact hlt)
      have hs : sumP (l.take (i + 1)) = (x * 1000003 + y % 2147483647 + 1) % 2147483647 := by rw [List.take_add_one, hy]; show sumP (l.take i ++ [y]) = _; rw [sumP_snoc, HX.out]
      have hr := sumP_range (l.take (i + 1))
      have h2 := Int.emod_nonneg y (show (2147483647 : Int) ≠ 0 by decide)
      have h3 := Int.emod_lt_of_pos y (show (0 : Int) < 2147483647 by decide)
      have hrp := @rem_pos y; have hrn := @rem_neg y
      obtain ⟨e, he⟩ : ∃ e, y % 2147483647 = e := ⟨_, rfl⟩
      obtain ⟨m, hm⟩ : ∃ m, y.tmod 2147483647 = m := ⟨_, rfl⟩
      rw [he] at hs h2 h3 hrp hrn
      rw [hm] at hrp hrn
      have HS := hide hs
      have ht : (x * 1000003 + e + 1).tmod 2147483647 = (x * 1000003 + e + 1) % 2147483647 := Int.tmod_eq_emod_of_nonneg (by omega)
      rw [hs] at hr
      obtain ⟨z, hz⟩ : ∃ z, (x * 1000003 + e + 1) % 2147483647 = z := ⟨_, rfl⟩
      rw [hz] at hr ht HS
      have z1 : IntKind.i64.wrap (x * 1000003) = x * 1000003 := IntWalk.i64_in _ (by omega)
      have z2 : IntKind.i64.wrap (x * 1000003 + e) = x * 1000003 + e := IntWalk.i64_in _ (by omega)
      have z3 : IntKind.i64.wrap (x * 1000003 + e + 1) = x * 1000003 + e + 1 := IntWalk.i64_in _ (by omega)
      have z4 : IntKind.i64.wrap z = z := IntWalk.i64_in _ (by omega)
      have hml := Int.lt_tmod_of_pos y (show (0 : Int) < 2147483647 by decide)
      rw [hm] at hml
      clear hy hs he hz
      by_cases hm0 : m < 0
      · have hme := hrn hm0
        have z5 : IntKind.i64.wrap m = m := IntWalk.i64_in _ (by omega)
        have z6 : IntKind.i64.wrap (m + 2147483647) = e := by rw [hme]; exact IntWalk.i64_in _ (by omega)
        clear hrp hrn
        go_wp2
        go_roundw
        case rel => exact ⟨i + 1, z, by omega, by go_num, by go_num, HS, hr.1, hr.2, trivial⟩
        case measure => simp [intOf]; omega
      · have hme := hrp hm0
        subst hme
        have z5 : IntKind.i64.wrap m = m := IntWalk.i64_in _ (by omega)
        clear hrp hrn
        go_wp2
        go_roundw
        case rel => exact ⟨i + 1, z, by omega, by go_num, by go_num, HS, hr.1, hr.2, trivial⟩
        case measure => simp [intOf]; omega
    · obtain rfl : i = n := by omega
      rw [List.take_of_length_le (by rw [HL.out]; exact Nat.le_refl _)] at HX
      have HF := HR.out
      rw [HX.out] at HF
      go_wp2
      exact HF
/-- The first elements of a list, then zeros. -/
def fillN (l : List Int) (i : Nat) : List Int := l.take i ++ List.replicate (l.length - i) 0
theorem fill_set {l : List Int} {i : Nat} {x : Int} (h : l[i]? = some x) : (fillN l i).set i x = fillN l (i + 1) := by
  obtain ⟨hl, he⟩ := List.getElem?_eq_some_iff.1 h
  unfold fillN
  rw [List.take_add_one, h, List.set_append_right _ _ (by rw [List.length_take]; omega), List.length_take, Nat.min_eq_left (Nat.le_of_lt hl), Nat.sub_self]
  obtain ⟨k, hk⟩ : ∃ k, l.length - i = k + 1 := ⟨l.length - i - 1, by omega⟩
  rw [hk, List.replicate_succ, List.set_cons_zero, show l.length - (i + 1) = k by omega]
  simp
theorem fill_all (l : List Int) : fillN l l.length = l := by unfold fillN; simp
theorem bytes_len (s : ByteArray) : (bytesP s).length = s.size := by unfold bytesP; rw [List.length_map, ByteArray.toList_eq]; rfl
theorem bytes_at (s : ByteArray) (i : Nat) (h : i < s.size) : (bytesP s)[i]? = some (s[i].toNat : Int) := by
  unfold bytesP
  rw [List.getElem?_map, ByteArray.toList_eq, List.getElem?_eq_getElem (by simpa using h)]
  rfl
set_option maxRecDepth 100000 in
theorem numbers_c (s : ByteArray) (w : World) (R) (hs : s.size ≤ 100000) (hR : ∀ w' g, Below w.heap.size w w' → IntsAt .i64 w' (some ⟨g, 0, none⟩) (bytesP s) → (∃ cs, Blk w' g cs 3) → R (.returned (.slice (some ⟨g, 0, none⟩) s.size s.size)) w') : Calls Tryz.prog 90 #[.string s] w R := by
  have HR := hide hR
  obtain ⟨w1, hmk, hrow, hb1⟩ := mk32 w s.size (by omega)
  have H0 : Hid (w1.ownsRow w.heap.size 3 1 (.slice (some ⟨w.heap.size, 0, none⟩) s.size s.size) s.size ((fillN (bytesP s) 0).map (Value.int .i64))) := hide (by
    unfold fillN; rw [List.take_zero, List.nil_append, bytes_len, Nat.sub_zero]; exact hrow)
  have HB1 := hide hb1
  clear hR hrow hb1
  go_enter Tryz.func90, Tryz.ntmps90
  go_wp2
  go_loopw [10] (fun si wr => ∃ i : Nat, i ≤ s.size ∧ si = .int .i64 i ∧ Hid (wr.ownsRow w.heap.size 3 1 (.slice (some ⟨w.heap.size, 0, none⟩) s.size s.size) s.size ((fillN (bytesP s) i).map (Value.int .i64))) ∧ Hid (Below w.heap.size w wr)) (fun si _ => s.size - (intOf si).toNat)
  case atStart => exact ⟨0, Nat.zero_le _, rfl, H0, HB1⟩
  case round =>
    clear hmk
    obtain ⟨i, hi, rfl, HO, HB⟩ := hrel
    by_cases hlt : i < s.size
    · have fk := own_free HO.out i
      have k0 := owni_cell HO.out hlt
      have wb := s[i].toNat_lt
      have wz : wrap64 (s[i].toNat : Int) = (s[i].toNat : Int) := IntWalk.wrap64_in (s[i].toNat : Int) (by omega)
      have HO2 := hide (owni_set HO.out i (wrap64 (s[i].toNat : Int)))
      rw [fill_set (by rw [wz]; exact bytes_at s i hlt)] at HO2
      have HB2 := hide (HB.out.setCell (p := ⟨w.heap.size, i, none⟩) (Nat.le_refl _) (.int .i64 (wrap64 (s[i].toNat : Int))))
      clear wz wb
      go_wp2
      go_roundw
      case rel => exact ⟨i + 1, by omega, by go_num, HO2, HB2⟩
      case measure => simp [intOf]; omega
    · obtain rfl : i = s.size := by omega
      have h1 := HO.out
      rw [← bytes_len s, fill_all, bytes_len s] at h1
      have HF := hide (HR.out _ w.heap.size HB.out (IntsAt.of_own h1) (own_blk h1))
      clear h1
      go_wp2
      exact HF.out
theorem labelD_c (s : ByteArray) (w : World) (R) (hs : s.size ≤ 100000) (hR : ∀ w', Below w.heap.size w w' → R (.returned (.int .i64 (labelD s))) w') : Calls Tryz.prog 63 #[.string s] w R := by
  have HR := hide hR
  clear hR
  go_enter Tryz.func63, Tryz.ntmps63
  go_wp2_with (go_at_call 90; refine Stop.out ?_)
  refine Stop.go (numbers_c s w _ hs ?_)
  intro w1 g hb hi _
  have HF := hide (HR.out _ hb)
  have HI := hide hi
  clear hb hi
  go_wp2_with (go_at_call 62; refine Stop.out ?_)
  refine Stop.go (sum_c (some ⟨g, 0, none⟩) s.size s.size (bytesP s) w1 _ (bytes_len s) (by unfold maxLen; omega) HI.out ?_)
  go_wp2
  exact HF.out
theorem sumF_c (p : Option Addr) (n c : Nat) (l : List Int) (w : World) (R) (hl : l.length = n) (hn : n ≤ maxLen) (h : IntsAt .i64 w p l) (hR : R (.returned (.int .i64 (sumP l))) w) : Calls Tryz.prog 28 #[.slice p n c] w R := by
  have HR := hide hR
  clear hR
  go_enter Tryz.func28, Tryz.ntmps28
  go_wp2_with (go_at_call 62; refine Stop.out ?_)
  refine Stop.go (sum_c p n c l w _ hl hn h ?_)
  go_wp2
  exact HR.out
/-- The element beside one. -/
theorem sibling_c (p : Option Addr) (n c i : Nat) (l : List Int) (w : World) (R) (hl : l.length = n) (hn : n ≤ 100000) (hi : i < n) (h : IntsAt .i64 w p l) (hR : R (.returned (.int .i64 (sibP l i))) w) : Calls Tryz.prog 41 #[.slice p n c, .int .i64 i] w R := by
  have HR := hide hR; have H := hide h; have HL := hide hl
  clear hR h hl
  by_cases hm : i % 2 = 1
  · obtain ⟨b, o, y, rfl, hy, y0⟩ := H.out.at_ (i := i - 1) (by rw [HL.out]; omega)
    have hs : sibP l i = y := by unfold sibP; rw [if_pos hm, List.getD_eq_getElem?_getD, hy]; rfl
    rw [hs] at HR
    have e1 : (i : Int).tmod 2 = 1 := by rw [Int.tmod_eq_emod_of_nonneg (by omega)]; omega
    obtain ⟨j, rfl⟩ : ∃ j, i = j + 1 := ⟨i - 1, by omega⟩
    rw [Nat.add_sub_cancel] at y0
    have z1 : wrap64 (((j + 1 : Nat) : Int) - 1) = (j : Int) := by rw [show ((j + 1 : Nat) : Int) - 1 = (j : Int) by omega]; exact IntWalk.wrap64_in (j : Int) (by omega)
    have hjn : (j : Int) < (n : Int) := by omega
    clear hy hs
    go_enter Tryz.func41, Tryz.ntmps41
    go_wp2
    exact HR.out
  · have e1 : (i : Int).tmod 2 = 0 := by rw [Int.tmod_eq_emod_of_nonneg (by omega)]; omega
    have z1 : wrap64 ((i : Int) + 1) = ((i + 1 : Nat) : Int) := by rw [show (i : Int) + 1 = ((i + 1 : Nat) : Int) by omega]; exact IntWalk.wrap64_in ((i + 1 : Nat) : Int) (by omega)
    by_cases hlt : i + 1 < n
    · obtain ⟨b, o, y, rfl, hy, y0⟩ := H.out.at_ (i := i + 1) (by rw [HL.out]; omega)
      have hs : sibP l i = y := by unfold sibP; rw [if_neg hm, List.getD_eq_getElem?_getD, hy]; rfl
      rw [hs] at HR
      have t1 : (((i + 1 : Nat) : Int)) < (n : Int) := by omega
      clear hy hs
      go_enter Tryz.func41, Tryz.ntmps41
      go_wp2
      exact HR.out
    · have hs : sibP l i = -1 := by unfold sibP; rw [if_neg hm, List.getD_eq_getElem?_getD, List.getElem?_eq_none (by rw [HL.out]; omega)]; rfl
      rw [hs] at HR
      have t1 : ¬ (((i + 1 : Nat) : Int)) < (n : Int) := by omega
      clear hs
      go_enter Tryz.func41, Tryz.ntmps41
      go_wp2
      exact HR.out
end Go.Proofs.YtkabghifdedmfaaGreatDoor
