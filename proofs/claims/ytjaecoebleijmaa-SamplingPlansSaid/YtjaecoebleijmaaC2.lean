import Derived.RangeFuncNested
import Derived.RangeFuncBound
import Derived.RangeFuncCalls
import Derived.RangeFuncLeaves
import Derived.RangeFuncBox
import Derived.Shelf.Abstract
import Derived.Shelf.RegionOpen
import Derived.OwnWalkIn
import Derived.TacticsInMore
import Derived.LoopNIn
import Derived.LoopIn
import Derived.Maps.AppendAt
import Derived.Test.YtjaecoebleijmaaC1
set_option linter.unusedVariables false
set_option linter.unusedSimpArgs false
namespace Go.Proofs.Ytjaecoebleijmaa
open Go.RowKit Go.Shelf
attribute [local go_sem] Oper.semAt_some

/-- How many numbers a plan chooses. -/
def cnt (n step first : Int) : Nat := ((n - first + step - 1) / step).toNat
/-- The numbers that a plan chooses. -/
def sq (n step first : Int) : List Int := (List.range (cnt n step first)).map fun (k : Nat) => first + (k : Int) * step
theorem sq_len (n step first : Int) : (sq n step first).length = cnt n step first := by simp [sq]

theorem cnt_iff {n step first : Int} (h1 : 1 ≤ step) (h2 : first ≤ n + step) (k : Nat) : k < cnt n step first ↔ first + (k : Int) * step < n := by
  unfold cnt
  have e : ((n - first + step - 1) / step).toNat > k ↔ (k : Int) < (n - first + step - 1) / step := by omega
  rw [show k < ((n - first + step - 1) / step).toNat ↔ (k : Int) < (n - first + step - 1) / step from e, Int.lt_iff_add_one_le, Int.le_ediv_iff_mul_le (by omega), Int.add_mul]
  omega

set_option maxRecDepth 100000 in
set_option maxHeartbeats 1000000 in
theorem numbers1_in (F : Fence) (d : Nat) (h30 : F.fn 30) (hro : F.round = none) (hd : 1 ≤ d) (l B0 B1 B2 n₀ : Nat) (n step first : Int) (hv : validB n step first = true)
    (hb0 : B0 < n₀) (hb1 : B1 < n₀) (hb2 : B2 < n₀) (J Jx : List Int → World → Prop)
    (hY : ∀ pre x W, J pre W → pre.length < cnt n step first → YieldAt F (d - 1) Try.prog l #[.int .i64 x] W fun e W' =>
      (e = .returned (.bool true) ∧ J (pre ++ [x]) W' ∧ Below n₀ W W') ∨ (e = .returned (.bool false) ∧ Jx (pre ++ [x]) W'))
    (W : World) (c0 : W.cell? ⟨B0, 0, none⟩ = some (.int .i64 first)) (c1 : W.cell? ⟨B1, 0, none⟩ = some (.int .i64 n)) (c2 : W.cell? ⟨B2, 0, none⟩ = some (.int .i64 step)) (h0 : J [] W) :
    CallsIn F d Try.prog 30 #[.func (.yield l) #[] #[], .pointer (some ⟨B0, 0, none⟩), .pointer (some ⟨B1, 0, none⟩), .pointer (some ⟨B2, 0, none⟩)] W fun e W' => (∃ v, e = .returned v) ∧
      ((∃ ys, ys = sq n step first ∧ J ys W') ∨ (∃ pre, True ∧ Jx pre W')) := by
  obtain ⟨v1, v2, v3, v4, v5, v6⟩ := valid_true hv
  clear hv
  refine callsIn_of_wp Try.func30 rfl h30 ?_ hro
  simp only [Try.ntmps30, List.size_toArray, List.length_cons, List.length_nil, Nat.reduceAdd, Nat.reduceSub, Array.replicate_succ, Array.replicate_zero, List.push_toArray, List.append_toArray, List.nil_append, List.cons_append]
  gi_wp2
  gi_loopw [5] (fun p wr => ∃ (k : Nat) (i : Int), Hid (k ≤ cnt n step first) ∧ Hid (i = first + (k : Int) * step) ∧ 0 ≤ i ∧ i < n + step ∧ p = .int .i64 i ∧ wr.cell? ⟨B0, 0, none⟩ = some (.int .i64 first) ∧ wr.cell? ⟨B1, 0, none⟩ = some (.int .i64 n) ∧ wr.cell? ⟨B2, 0, none⟩ = some (.int .i64 step) ∧ J ((sq n step first).take k) wr)
    (fun p wr => (n + step - intOf p).toNat)
  case atStart => exact ⟨0, first, Nat.zero_le _, by simp [Hid], by omega, by omega, rfl, c0, c1, c2, by simpa using h0⟩
  case round =>
    clear c0 c1 c2 h0
    obtain ⟨k, i, hk, hi, hi0, hi1, rfl, c0, c1, c2, hJs⟩ := hrel
    have hcn := hide (cnt_iff (n := n) (step := step) (first := first) (by omega) (by omega) k)
    have hsl := hide (sq_len n step first)
    by_cases hlt : i < n
    · have hkc : k < cnt n step first := hcn.out.2 (by have := hi.out; omega)
      have hlen : ((sq n step first).take k).length < cnt n step first := by rw [List.length_take, hsl.out]; omega
      obtain ⟨fn, tmps, assign, body, hy, hR⟩ := hY _ i wr hJs hlen
      have hnext : Hid ((sq n step first).take k ++ [i] = (sq n step first).take (k + 1)) := by
        rw [List.take_add_one]
        have : (sq n step first)[k]? = some i := by
          unfold sq; rw [List.getElem?_map, List.getElem?_range hkc, hi.out]; rfl
        rw [this]; rfl
      have hstep : Hid (i + step = first + ((k + 1 : Nat) : Int) * step) := by
        have := hi.out; unfold Hid; rw [this, Int.natCast_add, Int.add_mul]; simp; omega
      have hkc' : Hid (k + 1 ≤ cnt n step first) := hkc
      clear hlen hkc
      gi_wp2
      refine hR.mono ?_
      rintro e W3 (⟨rfl, hJ3, hk3⟩ | ⟨rfl, hJx3⟩)
      · have d0 := (hk3.cell (p := ⟨B0, 0, none⟩) hb0).trans c0
        have d1 := (hk3.cell (p := ⟨B1, 0, none⟩) hb1).trans c1
        have d2 := (hk3.cell (p := ⟨B2, 0, none⟩) hb2).trans c2
        gi_wp2
        go_roundw
        case rel => exact ⟨k + 1, _, hkc', hstep, by omega, by omega, rfl, d0, d1, d2, by rw [← hnext.out]; exact hJ3⟩
        case measure => simp [intOf]; omega
      · gi_wp2
        refine bodyPost_ret (results_none rfl _ _ _) rfl ?_
        exact ⟨⟨_, rfl⟩, .inr ⟨_, trivial, hJx3⟩⟩
    · have hkc : ¬ k < cnt n step first := fun h => by have := hcn.out.1 h; have := hi.out; omega
      have hall : Hid ((sq n step first).take k = sq n step first) := List.take_of_length_le (by rw [hsl.out]; omega)
      clear hkc
      gi_wp2
      go_end0
      exact ⟨⟨_, rfl⟩, .inl (by rw [← hall.out]; exact hJs)⟩

theorem numbers_stops (F : Fence) (d : Nat) (h30 : F.fn 30) (hro : F.round = none) (hd : 1 ≤ d) (B0 B1 B2 n₀ : Nat) (n step first : Int) (hv : validB n step first = true)
    (hb0 : B0 < n₀) (hb1 : B1 < n₀) (hb2 : B2 < n₀) (w : World) (hn : n₀ ≤ w.heap.size)
    (c0 : w.cell? ⟨B0, 0, none⟩ = some (.int .i64 first)) (c1 : w.cell? ⟨B1, 0, none⟩ = some (.int .i64 n)) (c2 : w.cell? ⟨B2, 0, none⟩ = some (.int .i64 step)) :
    SeqStopsK F d Try.prog 30 #[.pointer (some ⟨B0, 0, none⟩), .pointer (some ⟨B1, 0, none⟩), .pointer (some ⟨B2, 0, none⟩)] (fun x : Int => #[Value.int .i64 x]) (Below n₀) (fun ys => ys = sq n step first) (fun _ => True) (cnt n step first) w :=
  fun l J Jx W hW _ _ hY h0 =>
    numbers1_in F d h30 hro hd l B0 B1 B2 n₀ n step first hv hb0 hb1 hb2 J Jx hY W ((hW.cell (p := ⟨B0, 0, none⟩) (by show B0 < _; omega)).trans c0) ((hW.cell (p := ⟨B1, 0, none⟩) (by show B1 < _; omega)).trans c1) ((hW.cell (p := ⟨B2, 0, none⟩) (by show B2 < _; omega)).trans c2) h0

set_option maxRecDepth 100000 in
set_option maxHeartbeats 2000000 in
theorem count_c (B0 B1 B2 : Nat) (n step first : Int) (hv : validB n step first = true) (w : World) (hb0 : B0 < w.heap.size) (hb1 : B1 < w.heap.size) (hb2 : B2 < w.heap.size)
    (c0 : w.cell? ⟨B0, 0, none⟩ = some (.int .i64 first)) (c1 : w.cell? ⟨B1, 0, none⟩ = some (.int .i64 n)) (c2 : w.cell? ⟨B2, 0, none⟩ = some (.int .i64 step)) (R)
    (hR : ∀ w', Below w.heap.size w w' → R (.returned (.int .i64 (cnt n step first))) w') :
    Calls Try.prog 24 #[.func (.func 30) #[] #[.pointer (some ⟨B0, 0, none⟩), .pointer (some ⟨B1, 0, none⟩), .pointer (some ⟨B2, 0, none⟩)]] w R := by
  have hcl : cnt n step first ≤ 2000000 := by obtain ⟨v1, v2, v3, v4, v5, v6⟩ := valid_true hv; unfold cnt; have := Int.ediv_le_self (a := n - first + step - 1) step (by omega); omega
  refine (callsIn_wide (n := 5)).1 ?_
  refine callsIn_of_wp_marks Try.func24 rfl trivial ?_ rfl
  simp only [Try.ntmps24, List.size_toArray, List.length_cons, List.length_nil, Nat.reduceAdd, Nat.reduceSub, Array.replicate_succ, Array.replicate_zero, List.push_toArray, List.append_toArray, List.nil_append, List.cons_append]
  gi_wp2
  have bM := Boxed.new w 3 (.int .i64 0)
  have hB0 : Below w.heap.size w (w.alloc (.cells #[.int .i64 0] 3)) := (Below.refl _ w).alloc (Nat.le_refl _) _
  refine wpIn_rangeFunc_ownF rfl (by omega) (gf := 30) (lb := #[.pointer (some ⟨B0, 0, none⟩), .pointer (some ⟨B1, 0, none⟩), .pointer (some ⟨B2, 0, none⟩)]) rfl trivial (enters_of Try.func30 (by kernel_rfl) rfl)
    (numbers_stops Fence.wide _ trivial rfl (by omega) B0 B1 B2 w.heap.size n step first hv hb0 hb1 hb2 _ hB0.size ((hB0.cell (p := ⟨B0, 0, none⟩) hb0).trans c0) ((hB0.cell (p := ⟨B1, 0, none⟩) hb1).trans c1) ((hB0.cell (p := ⟨B2, 0, none⟩) hb2).trans c2)) belowK_t (belowK_b (by simp)) (Below.refl _ _) (fun _ => rfl)
    (fun pre W => (W.cell? ⟨w.heap.size, 0, none⟩ = some (.int .i64 (pre.length : Int)) ∧ W.frozen? ⟨w.heap.size, 0, none⟩ = false) ∧ Below w.heap.size w W)
    (fun _ _ _ => False)
    (OwnFrom.and (Own.from (fun s A B row hs hg hr => ⟨cell_kept hs.1 hg hr, (frozen_kept hs.1 hg hr).trans hs.2⟩) _) (ownFrom_below (Nat.le_refl _) (by simp)))
    (fun _ _ _ _ _ hs _ _ => hs)
    ⟨⟨bM.cell, bM.frozen⟩, hB0⟩
    (fun x => { tmps := #[.func (.func 30) #[] #[.pointer (some ⟨B0, 0, none⟩), .pointer (some ⟨B1, 0, none⟩), .pointer (some ⟨B2, 0, none⟩)], undef, .int .i64 0, .pointer (some ⟨w.heap.size, 0, none⟩), .func (.func 30) #[] #[.pointer (some ⟨B0, 0, none⟩), .pointer (some ⟨B1, 0, none⟩), .pointer (some ⟨B2, 0, none⟩)], .int .i64 x, undef, undef, undef], defers := [] }) ?assign ?body ?done ?stop
  case assign =>
    intro l x W K hK
    gi_wp2
    first | exact hK | simpa using hK
  case body =>
    rintro l pre x W ⟨⟨hc, hf⟩, hB⟩ hlt
    gi_wp2
    exact ⟨KeepsOthers.setCell _ _ _, (Below.refl w.heap.size W).setCell (p := ⟨w.heap.size, 0, none⟩) (Nat.le_refl _) _, ⟨by simpa using World.cell?_setCell_same' _ _ _ (by rw [hc]; rfl), by rw [World.frozen?_setCell]; exact hf⟩, hB.setCell (p := ⟨w.heap.size, 0, none⟩) (Nat.le_refl _) _⟩
  case done =>
    rintro D ys W hD rfl ⟨⟨hc, _⟩, hB⟩ hK
    rw [sq_len] at hc
    gi_wp2
    refine ⟨by simp, .inl ⟨_, _, rfl, run_takeDeferred hK, ?_⟩⟩
    refine ⟨_, results_tmp rfl _ _ _, ?_⟩
    exact hR _ (hB.trans (belowK_b (w := w) (Nat.le_refl _) W D _ _ (by simp at hD; omega) hK rfl rfl))
  case stop =>
    rintro D c pre W _ _ h _
    exact h.elim

theorem Try.info3 : (Try.prog.info? 3).map (fun i => (i.zero, i.size, i.bytes)) = some (some (.int .i64 0), 1, 8) := by kernel_rfl

set_option maxRecDepth 100000 in
set_option maxHeartbeats 2000000 in
theorem appendSeq_c (B0 B1 B2 : Nat) (n step first : Int) (hv : validB n step first = true) (w : World) (hb0 : B0 < w.heap.size) (hb1 : B1 < w.heap.size) (hb2 : B2 < w.heap.size)
    (c0 : w.cell? ⟨B0, 0, none⟩ = some (.int .i64 first)) (c1 : w.cell? ⟨B1, 0, none⟩ = some (.int .i64 n)) (c2 : w.cell? ⟨B2, 0, none⟩ = some (.int .i64 step)) (R)
    (hR : ∀ v w', w'.ownsRow w.heap.size 3 1 v (sq n step first).length ((sq n step first).map (Value.int .i64)) → Below w.heap.size w w' → R (.returned v) w') :
    Calls Try.prog 29 #[.slice none 0 0, .func (.func 30) #[] #[.pointer (some ⟨B0, 0, none⟩), .pointer (some ⟨B1, 0, none⟩), .pointer (some ⟨B2, 0, none⟩)]] w R := by
  have hcl : cnt n step first ≤ 2000000 := by obtain ⟨v1, v2, v3, v4, v5, v6⟩ := valid_true hv; unfold cnt; have := Int.ediv_le_self (a := n - first + step - 1) step (by omega); omega
  obtain ⟨i0, hi, hz0, hz1, hz2⟩ := info_parts Try.info3
  refine (callsIn_wide (n := 5)).1 ?_
  refine callsIn_of_wp_marks Try.func29 rfl trivial ?_ rfl
  simp only [Try.ntmps29, List.size_toArray, List.length_cons, List.length_nil, Nat.reduceAdd, Nat.reduceSub, Array.replicate_succ, Array.replicate_zero, List.push_toArray, List.append_toArray, List.nil_append, List.cons_append]
  gi_wp2
  have bM := Boxed.new w 22 (.slice none 0 0)
  have hB0 : Below w.heap.size w (w.alloc (.cells #[.slice none 0 0] 22)) := (Below.refl _ w).alloc (Nat.le_refl _) _
  refine wpIn_rangeFunc_ownF rfl (by omega) (gf := 30) (lb := #[.pointer (some ⟨B0, 0, none⟩), .pointer (some ⟨B1, 0, none⟩), .pointer (some ⟨B2, 0, none⟩)]) rfl trivial (enters_of Try.func30 (by kernel_rfl) rfl)
    (numbers_stops Fence.wide _ trivial rfl (by omega) B0 B1 B2 w.heap.size n step first hv hb0 hb1 hb2 _ hB0.size ((hB0.cell (p := ⟨B0, 0, none⟩) hb0).trans c0) ((hB0.cell (p := ⟨B1, 0, none⟩) hb1).trans c1) ((hB0.cell (p := ⟨B2, 0, none⟩) hb2).trans c2)) belowK_t (belowK_b (by simp)) (Below.refl _ _) (fun _ => rfl)
    (fun (pre : List Int) W => (∃ v, Boxed W w.heap.size 22 v ∧ W.ownsRow w.heap.size 3 1 v pre.length (pre.map (Value.int .i64)) ∧ True) ∧ Below w.heap.size w W)
    (fun _ _ _ => False)
    (OwnFrom.and (Own.from (holdsRow_own w.heap.size w.heap.size 22 3 1 (fun (pre : List Int) => pre.length) (fun pre => pre.map (Value.int .i64)) (fun pre v => True)) _) (ownFrom_below (Nat.le_refl _) (by simp)))
    (fun _ _ _ _ _ hs _ _ => hs)
    ⟨⟨_, bM, World.ownsRow_nil _ _ _ _, trivial⟩, hB0⟩
    (fun x => { tmps := #[.slice none 0 0, .func (.func 30) #[] #[.pointer (some ⟨B0, 0, none⟩), .pointer (some ⟨B1, 0, none⟩), .pointer (some ⟨B2, 0, none⟩)], .pointer (some ⟨w.heap.size, 0, none⟩), undef, .slice none 0 0, .int .i64 x, .func (.func 30) #[] #[.pointer (some ⟨B0, 0, none⟩), .pointer (some ⟨B1, 0, none⟩), .pointer (some ⟨B2, 0, none⟩)], .int .i64 x, undef, undef, undef, undef, undef], defers := [] }) ?assign ?body ?done ?stop
  case assign =>
    intro l x W K hK
    gi_wp2
    exact hK
  case body =>
    rintro l pre x W ⟨⟨v, hv, hrow, _⟩, hB⟩ hlt
    have hc := hv.cell
    have hM : 2000000 ≤ maxLen := by decide
    gi_wp2_with (gi_at_builtin; refine wpListIn_append_own _ rfl _ _ 22 rfl w.heap.size 3 i0 (.int .i64 0) 1 8 Try.underlying22 hi hz0 hz1 hz2 rfl (by decide) _ _ _ rfl (hrow.alloc _) ⟨W.heap.size, 0, none⟩ 1 1 [.int .i64 x] rfl rfl (cell_one_new _ _ _) (by simp [Value.oneCell']) (by omega) (by omega) (by have := hB.size; simp; omega) ?_; intro v' w1 hown' hgrow _; obtain ⟨g', cap', rfl⟩ := ownsRow_succ hown'; obtain ⟨hv1, hv2, hr2, hk2, hb2⟩ := hv.appended (by decide) hrow hB.size (Nat.le_refl _) hown' hgrow; have hc1 := hv1.cell; have hf1 := hv1.frozen)
    exact ⟨hk2, hb2, ⟨_, hv2, by simpa using hr2, trivial⟩, hB.trans hb2⟩
  case done =>
    rintro D ys W hD rfl ⟨⟨v, hv, hrow, _⟩, hB⟩ hK
    have hc := hv.cell
    gi_wp2
    refine ⟨by simp, .inl ⟨_, _, rfl, run_takeDeferred hK, ?_⟩⟩
    exact ⟨_, results_tmp rfl _ _ _, hR _ _ (ownsRow_putObj hrow _ hK rfl) (hB.trans (belowK_b (w := w) (Nat.le_refl _) W D _ _ (by simp at hD; omega) hK rfl rfl))⟩
  case stop =>
    rintro D c pre W _ _ h _
    exact h.elim

theorem collect_c (B0 B1 B2 : Nat) (n step first : Int) (hv : validB n step first = true) (w : World) (hb0 : B0 < w.heap.size) (hb1 : B1 < w.heap.size) (hb2 : B2 < w.heap.size)
    (c0 : w.cell? ⟨B0, 0, none⟩ = some (.int .i64 first)) (c1 : w.cell? ⟨B1, 0, none⟩ = some (.int .i64 n)) (c2 : w.cell? ⟨B2, 0, none⟩ = some (.int .i64 step)) (R)
    (hR : ∀ v w', w'.ownsRow w.heap.size 3 1 v (sq n step first).length ((sq n step first).map (Value.int .i64)) → Below w.heap.size w w' → R (.returned v) w') :
    Calls Try.prog 21 #[.func (.func 30) #[] #[.pointer (some ⟨B0, 0, none⟩), .pointer (some ⟨B1, 0, none⟩), .pointer (some ⟨B2, 0, none⟩)]] w R := by
  have hv' := hide hv
  have HR := hide hR
  clear hv hR
  go_enter Try.func21, Try.ntmps21
  go_wp2_with (go_at_call 29; refine Stop.out ?_)
  refine Stop.go (appendSeq_c B0 B1 B2 n step first hv'.out w hb0 hb1 hb2 c0 c1 c2 _ ?_)
  intro v w' hown hb
  clear c0 c1 c2
  go_wp2
  exact HR.out v w' hown hb

theorem numbers_c (n step first : Int) (w : World) (R)
    (hR : R (.returned (.func (.func 30) #[] #[.pointer (some ⟨w.heap.size + 2, 0, none⟩), .pointer (some ⟨w.heap.size, 0, none⟩), .pointer (some ⟨w.heap.size + 1, 0, none⟩)])) (((w.alloc (.cells #[.int .i64 n] 3)).alloc (.cells #[.int .i64 step] 3)).alloc (.cells #[.int .i64 first] 3))) :
    Calls Try.prog 22 #[.int .i64 n, .int .i64 step, .int .i64 first] w R := by
  go_enter Try.func22, Try.ntmps22
  go_wp2
  exact hR
end Go.Proofs.Ytjaecoebleijmaa
