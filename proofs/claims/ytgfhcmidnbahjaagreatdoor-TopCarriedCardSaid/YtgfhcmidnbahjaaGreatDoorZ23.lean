/- Promise: Way. Stops: a nil row grows, two rows are put together. Warrant: first, must, code (printed by genWA.py from promise's texts). The contracts of the library's functions at this dump (laid by the kit's shelf tool). Compile: the sorted keys of a set; the set that is collected. -/
import Derived.Test.YtgfhcmidnbahjaaGreatDoorZ22
import Derived.Shelf.SlIterI.Nil
import Derived.Shelf.SortM.Plain
import Derived.Shelf.SortM.SortNone
import Derived.Ground.GgzProg
import Derived.Ground.SlgmProg
import Derived.Test.YtgfhcmidnbahjaaGreatDoorProg
import Derived.Test.YtgfhcmidnbahjaaGreatDoorZ15
import Derived.Shelf.AbstractIn
import Derived.Maps.OwnIn
set_option linter.unusedVariables false
set_option linter.unusedSimpArgs false
namespace Go.Proofs.YtgfhcmidnbahjaaGreatDoor
open Go.RowKit Go.Shelf
attribute [local go_sem] Oper.semAt_some run_store_func

theorem inRange_p (t : Int) (w : World) (R) (hR : R (.returned (.bool (decide (0 ≤ t ∧ t ≤ 2000000)))) w) : Calls Tryz.prog 57 #[.int .i64 t] w R := by
  by_cases h0 : 0 ≤ t
  · by_cases h1 : t ≤ 2000000
    · rw [decide_eq_true ⟨h0, h1⟩] at hR
      have HR := hide hR
      clear hR
      go_enter Tryz.func57, Tryz.ntmps57
      go_wp2
      exact HR.out
    · rw [decide_eq_false (fun h => h1 h.2)] at hR
      have HR := hide hR
      have h2 : 2000000 < t := by omega
      clear hR
      go_enter Tryz.func57, Tryz.ntmps57
      go_wp2
      exact HR.out
  · rw [decide_eq_false (fun h => h0 h.1)] at hR
    have HR := hide hR
    have h2 : t < 0 := by omega
    clear hR
    go_enter Tryz.func57, Tryz.ntmps57
    go_wp2
    exact HR.out
/-- What a call of Way holds. -/
structure WaI (w : World) (N : Net) (u v : Value) (W : World) : Prop where
  below : Below w.heap.size w W
  box : Blk W w.heap.size N.cells 29
  st : Blk W (w.heap.size + 1) #[u] 48
  er : Blk W (w.heap.size + 1 + 1) #[v] 43
section
variable {w : World} {N : Net} {u v : Value} {W W' : World}
theorem WaI.next (h : WaI w N u v W) (hb : Below W.heap.size W W') : WaI w N u v W' := ⟨bseq h.below hb, h.box.next hb, h.st.next hb, h.er.next hb⟩
theorem WaI.set (h : WaI w N u v W) (x y : Value) : WaI w N x y ((W.setCell ⟨w.heap.size + 1, 0, none⟩ x).setCell ⟨w.heap.size + 1 + 1, 0, none⟩ y) :=
  ⟨(h.below.setCell (p := ⟨w.heap.size + 1, 0, none⟩) (show w.heap.size ≤ w.heap.size + 1 by omega) _).setCell (p := ⟨w.heap.size + 1 + 1, 0, none⟩) (show w.heap.size ≤ w.heap.size + 1 + 1 by omega) _,
   (h.box.far (p := ⟨w.heap.size + 1, 0, none⟩) (show w.heap.size ≠ w.heap.size + 1 by omega) _).far (p := ⟨w.heap.size + 1 + 1, 0, none⟩) (show w.heap.size ≠ w.heap.size + 1 + 1 by omega) _,
   (h.st.set 0 x).far (p := ⟨w.heap.size + 1 + 1, 0, none⟩) (show w.heap.size + 1 ≠ w.heap.size + 1 + 1 by omega) _,
   (h.er.far (p := ⟨w.heap.size + 1, 0, none⟩) (show w.heap.size + 1 + 1 ≠ w.heap.size + 1 by omega) _).set 0 y⟩
end
set_option maxRecDepth 100000 in
set_option maxHeartbeats 1000000 in
theorem pWay_c (N : Net) (np : Option Addr) (nc : Nat) (nx : Nat → Nat → Int) (o tt : Nat) (t : Int) (w : World) (R) (hk : KwAt w) (hN : NetAt w N) (hS : soundB N = true) (hM : MatAt w np N.offs.length nx) (hF : Formed N nx) (ho : o < N.offs.length) (htt : tt < N.offs.length)
    (hok : ∀ l w' g cap, wayF N nx o tt t = .ok l → Below w.heap.size w w' → w'.ownsRow w.heap.size 53 4 (.slice (some ⟨g, 0, none⟩) l.length cap) l.length (l.flatMap Stp.cells) → R (.returned (.tuple #[.slice (some ⟨g, 0, none⟩) l.length cap, .int .i64 0])) w')
    (her : ∀ e w', wayF N nx o tt t = .error e → Below w.heap.size w w' → R (.returned (.tuple #[.slice none 0 0, .int .i64 e])) w') :
    Calls Tryz.prog 13 #[.agg N.cells, .slice np N.offs.length nc, .int .i64 (o : Int), .int .i64 (tt : Int), .int .i64 t] w R := by
  have HOk := hide hok; have HEr := hide her; have HSn := hide (snd_of hS); have HF := hide hF; have HN := hide hN; have HM := hide hM; have HKw := hide hk; have HS := hide hS
  have hmf : ∀ (fn : Fn) (first cap : Array Value) (w : World), (Instr.makeFunc fn first cap).run Tryz.prog w = .ok (.func fn first cap) w := fun _ _ _ _ => rfl
  obtain ⟨w1, hw1⟩ : ∃ w1, ((w.alloc (.cells N.cells 29)).alloc (.cells #[.slice none 0 0] 48)).alloc (.cells #[.int .i64 0] 43) = w1 := ⟨_, rfl⟩
  have hb1 : Below w.heap.size w w1 := hw1 ▸ balloc (balloc (balloc (Below.refl _ _) _) _) _
  have hI : WaI w N (.slice none 0 0) (.int .i64 0) w1 := by
    refine ⟨hb1, ?_, ?_, ?_⟩ <;> rw [← hw1] <;> repeat (first | exact Blk.new_at (by simp) | refine Blk.alloc ?_ _)
  have HI := hide hI
  have y3 := hI.box.net6.2.2.2.1
  unfold Net.cells at hw1
  clear hok her hS hF hN hM hk hb1 hI
  unfold Net.cells
  refine calls_of_wpAt Tryz.func13 rfl (wpAt_of_wp ?_)
  simp only [Tryz.ntmps13, List.size_toArray, List.length_cons, List.length_nil, Nat.reduceAdd, Nat.reduceSub, Array.replicate_succ, Array.replicate_zero, List.push_toArray, List.append_toArray, List.nil_append, List.cons_append]
  go_wp2_with (go_at_call 56; refine Stop.out ?_)
  clear hw1
  refine Stop.go (inside_yes o N.offs.length ho _ _ ?_)
  go_wp2_with (go_at_call 56; refine Stop.out ?_)
  refine Stop.go (inside_yes tt N.offs.length htt _ _ ?_)
  go_wp2_with (go_at_call 57; refine Stop.out ?_)
  refine Stop.go (inRange_p t _ _ ?_)
  by_cases hr : 0 ≤ t ∧ t ≤ 2000000
  · rw [decide_eq_true hr]
    have hway : wayF N nx o tt t = walkF N nx tt 19 o t := by unfold wayF; rw [if_pos hr]
    rw [hway] at HOk HEr
    clear hway
    go_wp2_with (go_at_call 55; refine Stop.out ?_)
    refine Stop.go (demand_ok _ _ (fun v0 => ?_))
    go_wp2_with (go_at_call 58; refine Stop.out ?_)
    refine Stop.go (psound_c N w.heap.size w1 _ (HKw.out.next HI.out.below) HI.out.box (HN.out.next HI.out.below) HS.out ?_)
    intro w2 hb
    have HI2 := hide (HI.out.next hb)
    clear hb y3
    go_wp2_with (go_at_call 59; refine Stop.out ?_)
    refine Stop.go (formed_c N w.heap.size np nc nx w2 _ HI2.out.box (HN.out.next HI2.out.below) HSn.out.noff HSn.out.nlin (HM.out.next HI2.out.below) HF.out ?_)
    intro w3 hb
    have HI3 := hide (HI2.out.next hb)
    clear hb
    go_wp2_with (go_at_call 55; refine Stop.out ?_)
    refine Stop.go (demand_ok _ _ (fun v1 => ?_))
    go_wp2_with (go_at_call 60; refine Stop.out ?_)
    refine Stop.go (walk_c N w.heap.size np nc nx o tt t w3 _ HI3.out.box (HN.out.next HI3.out.below) HSn.out (HM.out.next HI3.out.below) HF.out ho htt hr.1 hr.2 ?_ ?_)
    · intro l w4 g cap hl hb hrow
      have HI4 := hide (HI3.out.next hb)
      have hB : w3.heap.size ≤ g := (hrow.lt g rfl).1
      have hlt : w.heap.size + 1 + 1 < w3.heap.size := HI3.out.er.lt
      have HRow := hide (own_mono hrow HI3.out.below.size)
      have Hl := hide hl
      clear hb hrow hl
      have c1 := HI4.out.st.cell (k := 0) (v := .slice none 0 0) rfl
      have c2 : (w4.setCell ⟨w.heap.size + 1, 0, none⟩ (.slice (some ⟨g, 0, none⟩) l.length cap)).cell? ⟨w.heap.size + 1 + 1, 0, none⟩ = some (.int .i64 0) := (HI4.out.er.far (p := ⟨w.heap.size + 1, 0, none⟩) (show w.heap.size + 1 + 1 ≠ w.heap.size + 1 by omega) _).cell rfl
      have f1 := HI4.out.st.free 0
      have f2 : (w4.setCell ⟨w.heap.size + 1, 0, none⟩ (.slice (some ⟨g, 0, none⟩) l.length cap)).frozen? ⟨w.heap.size + 1 + 1, 0, none⟩ = false := (HI4.out.er.far (p := ⟨w.heap.size + 1, 0, none⟩) (show w.heap.size + 1 + 1 ≠ w.heap.size + 1 by omega) _).free 0
      have HI5 := hide (HI4.out.set (.slice (some ⟨g, 0, none⟩) l.length cap) (.int .i64 0))
      have HRow5 : Hid (World.ownsRow ((w4.setCell ⟨w.heap.size + 1, 0, none⟩ (.slice (some ⟨g, 0, none⟩) l.length cap)).setCell ⟨w.heap.size + 1 + 1, 0, none⟩ (.int .i64 0)) w.heap.size 53 4 (.slice (some ⟨g, 0, none⟩) l.length cap) l.length (l.flatMap Stp.cells)) :=
        hide (ownsRow_setCell_other (ownsRow_setCell_other HRow.out (fun e => by injection e with e; have e' : g = w.heap.size + 1 := e; omega) _) (fun e => by injection e with e; have e' : g = w.heap.size + 1 + 1 := e; omega) _)
      go_wp2
      refine ⟨by simp, .inr ⟨(fun h => by simp [Fence.wide] at h), _, _, 53, #[.pointer (some ⟨w.heap.size + 1, 0, none⟩), .pointer (some ⟨w.heap.size + 1 + 1, 0, none⟩)], rfl, (by simp [invoke, go_sem]), (fun _ _ => trivial), (way_calm _ _ _ _).mono ?_⟩⟩
      rintro e' u' w' ⟨rfl, rfl, rfl⟩
      have z1 := HI5.out.st.cell (k := 0) (v := .slice (some ⟨g, 0, none⟩) l.length cap) rfl
      have z2 := HI5.out.er.cell (k := 0) (v := .int .i64 0) rfl
      refine ⟨.tuple #[.slice (some ⟨g, 0, none⟩) l.length cap, .int .i64 0], ?_, HOk.out l _ g cap Hl.out HI5.out.below HRow5.out⟩
      clear c1 c2 f1 f2
      simp [results, Tryz.results13, go_sem, z1, z2]
    · intro e w4 hl hb
      have HI4 := hide (HI3.out.next hb)
      have Hl := hide hl
      clear hb hl
      refine ⟨by simp, .inr ⟨(fun h => by simp [Fence.wide] at h), _, _, 53, #[.pointer (some ⟨w.heap.size + 1, 0, none⟩), .pointer (some ⟨w.heap.size + 1 + 1, 0, none⟩)], rfl, (by simp [invoke, go_sem]), (fun _ _ => trivial), (way_catch _ _ _ (.slice none 0 0) (.int .i64 0) e _ _ (HI4.out.st.cell (k := 0) rfl) (HI4.out.st.free 0) (HI4.out.er.cell (k := 0) rfl) (HI4.out.er.free 0) (fun h => by injection h with h; omega)).mono ?_⟩⟩
      rintro e' u' w' ⟨rfl, rfl, rfl⟩
      have hI9 := HI4.out.set (.slice none 0 0) (.int .i64 e)
      have z1 := hI9.st.cell (k := 0) (v := .slice none 0 0) rfl
      have z2 := hI9.er.cell (k := 0) (v := .int .i64 e) rfl
      refine ⟨.tuple #[.slice none 0 0, .int .i64 e], ?_, HEr.out e _ Hl.out hI9.below⟩
      clear hI9
      simp [results, Tryz.results13, go_sem, z1, z2]
  · rw [decide_eq_false hr]
    have hway : wayF N nx o tt t = .error 1 := by unfold wayF; rw [if_neg hr]
    go_wp2_with (go_at_call 55; refine Stop.out ?_)
    refine Stop.go (demand_err _ _ ?_)
    refine ⟨by simp, .inr ⟨(fun h => by simp [Fence.wide] at h), _, _, 53, #[.pointer (some ⟨w.heap.size + 1, 0, none⟩), .pointer (some ⟨w.heap.size + 1 + 1, 0, none⟩)], rfl, (by simp [invoke, go_sem]), (fun _ _ => trivial), (way_catch _ _ _ (.slice none 0 0) (.int .i64 0) 1 _ _ (HI.out.st.cell (k := 0) rfl) (HI.out.st.free 0) (HI.out.er.cell (k := 0) rfl) (HI.out.er.free 0) (fun h => by injection h with h; omega)).mono ?_⟩⟩
    rintro e' u' w' ⟨rfl, rfl, rfl⟩
    have hI9 := HI.out.set (.slice none 0 0) (.int .i64 1)
    have z1 := hI9.st.cell (k := 0) (v := .slice none 0 0) rfl
    have z2 := hI9.er.cell (k := 0) (v := .int .i64 1) rfl
    refine ⟨.tuple #[.slice none 0 0, .int .i64 1], ?_, HEr.out 1 _ hway hI9.below⟩
    clear hI9
    simp [results, Tryz.results13, go_sem, z1, z2]
end Go.Proofs.YtgfhcmidnbahjaaGreatDoor

namespace Go.Proofs.YtgfhcmidnbahjaaGreatDoor
open Go.RowKit Go.Shelf

theorem zc_size (n : Nat) : (Builtin.zeroCells #[Value.int .i64 0, Value.int .i64 0, Value.int .i64 0, Value.int .i64 0] n).size = n * 4 := by
  simp [Builtin.zeroCells]
set_option maxHeartbeats 1000000 in
theorem sgrow_c (n : Nat) (hn : n ≤ 100000) (w : World) (R) (hR : ∀ v w', Below w.heap.size w w' → w'.ownsRow w.heap.size 53 4 v 0 [] → R (.returned v) w') : Calls Tryz.prog 122 #[.slice none 0 0, .int .i64 (n : Int)] w R := by
  have HR := hide hR
  clear hR
  rcases Nat.eq_zero_or_pos n with h0 | h0
  · subst h0
    have HF := hide (HR.out _ w (Below.refl _ _) (World.ownsRow_nil _ _ _ _))
    go_enter Tryz.func122, Tryz.ntmps122
    go_wp2
    simpa using HF.out
  · have hcap := grownCap_ge w n 0 53
    have hcm := grownCap_le_maxLen w n 0 53 (by unfold maxLen; omega)
    have h1 : (0 : Int) < (n : Int) := by omega
    have hz : IntKind.i64.wrap ((n : Int) - 0) = (n : Int) := by rw [IntWalk.i64_in _ (by omega)]; omega
    have hbt : Tryz.t53.bytes = 32 := by kernel_rfl
    go_enter Tryz.func122, Tryz.ntmps122
    have hns : ¬ (281474976710656 < Builtin.nextslicecap n 0 * 32) := by rw [nextslicecap_zero h0]; omega
    go_wp2
    · refine HR.out _ _ (balloc (Below.refl _ _) _).drew ?_
      exact (World.ownsRow_made (base := w.heap.size) (e := 53) (size := 4) w _ (grownCap w n 0 53) (Nat.le_refl _) hcm (by rw [Array.size_append, zc_size, zc_size]; show n * 4 + (grownCap w n 0 53 - n) * 4 = _; omega)).drew
set_option maxRecDepth 100000 in
set_option maxHeartbeats 2000000 in
theorem sconcat_c (g0 c0 n m c c2 : Nat) (p p2 : Option Addr) (xs ys : List Value) (w : World) (R) (hn : n ≤ 1000) (hm : m ≤ 1000) (hx : ∀ u ∈ xs, u.oneCell' = true) (hy : ∀ u ∈ ys, u.oneCell' = true) (h0 : w.cell? ⟨g0, 0, none⟩ = some (.slice p n c)) (h1 : w.cell? ⟨g0, 0 + 1, none⟩ = some (.slice p2 m c2))
    (hs : Src w p n 4 xs) (hs2 : Src w p2 m 4 ys) (hR : ∀ v w', Below w.heap.size w w' → w'.ownsRow w.heap.size 53 4 v (n + m) (xs ++ ys) → R (.returned v) w') : Calls Tryz.prog 52 #[.slice (some ⟨g0, 0, none⟩) 2 c0] w R := by
  have HR := hide hR; have HX := hide hx; have HY := hide hy; have HS := hide hs; have HS2 := hide hs2
  obtain ⟨i0, hi0, hz0, hz1, hz2⟩ := info_parts infoStop
  have HT := hide (And.intro hi0 (And.intro hz0 (And.intro hz1 hz2)))
  clear hR hx hy hs hs2 hi0 hz0 hz1 hz2
  rw [Nat.zero_add] at h1
  go_enter Tryz.func52, Tryz.ntmps52
  go_wp2
  go_loopw [3, 11] (fun a b wr => ((a = .int .i64 0 ∧ b = .int .i64 0) ∨ (a = .int .i64 (n : Int) ∧ b = .int .i64 1) ∨ (a = .int .i64 ((n + m : Nat) : Int) ∧ b = .int .i64 2)) ∧ wr = w) (fun _ b _ => (2 - intOf b).toNat)
  case atStart => exact ⟨.inl ⟨rfl, rfl⟩, rfl⟩
  case round =>
    obtain ⟨hrel, rfl⟩ := hrel
    rcases hrel with ⟨rfl, rfl⟩ | ⟨rfl, rfl⟩ | ⟨rfl, rfl⟩
    · have t1 : ¬ ((n : Int) < 0) := by omega
      go_wp2
      go_roundw
      case rel => exact ⟨.inr (.inl ⟨by simp, by simp⟩), by first | rfl | trivial | simp⟩
      case measure => simp [intOf]
    · have t1 : ¬ ((n : Int) + (m : Int) < 0) := by omega
      go_wp2
      go_roundw
      case rel => exact ⟨.inr (.inr ⟨by simp, by simp⟩), by first | rfl | trivial | simp⟩
      case measure => simp [intOf]
    · obtain ⟨W0, rfl⟩ : ∃ W0, W0 = wr := ⟨wr, rfl⟩
      go_wp2_with (go_at_call 122; refine Stop.out ?_)
      refine Stop.go (sgrow_c (n + m) (by omega) _ _ ?_)
      intro v w1 hb hown
      have HB := hide hb; have HO := hide hown
      have d0 := cell_later hb h0; have d1 := cell_later hb h1
      have HG := hide (And.intro h0 h1)
      clear hb hown d0 d1
      go_wp2
      go_loopw [6, 27] (fun a b w2 => ((b = .int .i64 0 ∧ Hid (w2.ownsRow W0.heap.size 53 4 a 0 [])) ∨ (b = .int .i64 1 ∧ Hid (w2.ownsRow W0.heap.size 53 4 a n xs)) ∨ (b = .int .i64 2 ∧ Hid (w2.ownsRow W0.heap.size 53 4 a (n + m) (xs ++ ys)))) ∧ Hid (Below W0.heap.size W0 w2)) (fun _ b _ => (2 - intOf b).toNat)
      case atStart => exact ⟨.inl ⟨rfl, HO⟩, HB⟩
      case round =>
        obtain ⟨hrel, HB2⟩ := hrel
        have d0 := cell_later HB2.out HG.out.1
        have d1 := cell_later HB2.out HG.out.2
        obtain ⟨hi0, hz0, hz1, hz2⟩ := HT.out
        rcases hrel with ⟨rfl, HO2⟩ | ⟨rfl, HO2⟩ | ⟨rfl, HO2⟩
        · go_wp2_with (at_builtin; refine Stop.out ?_)
          refine Stop.go ?_
          refine wpList_app _ rfl (.tmp 31) (.tmp 32) 48 rfl W0.heap.size 53 i0 _ 4 32 Tryz.underlying48 hi0 hz0 hz1 hz2 rfl (by omega) _ 0 [] rfl HO2.out p n c xs rfl (HS.out.keep (Keeps.of_below HB2.out)) HX.out (by unfold maxLen; omega) (by omega) HB2.out.size ?_
          intro v3 w3 hown hg
          rw [Nat.zero_add, List.nil_append] at hown
          have HO3 := hide hown
          have HB3 := hide (HB2.out.grown hg HB2.out.size (fun k hk => (own_lt HO2.out hk).1))
          clear hown hg hi0 hz0 hz1 hz2
          go_wp2_with fail
          go_roundw
          case rel => exact ⟨.inr (.inl ⟨by simp, HO3⟩), HB3⟩
          case measure => simp [intOf]
        · go_wp2_with (at_builtin; refine Stop.out ?_)
          refine Stop.go ?_
          refine wpList_app _ rfl (.tmp 31) (.tmp 32) 48 rfl W0.heap.size 53 i0 _ 4 32 Tryz.underlying48 hi0 hz0 hz1 hz2 rfl (by omega) _ n xs rfl HO2.out p2 m c2 ys rfl (HS2.out.keep (Keeps.of_below HB2.out)) HY.out (by unfold maxLen; omega) (by omega) HB2.out.size ?_
          intro v3 w3 hown hg
          have HO3 := hide hown
          have HB3 := hide (HB2.out.grown hg HB2.out.size (fun k hk => (own_lt HO2.out hk).1))
          clear hown hg hi0 hz0 hz1 hz2
          go_wp2_with fail
          go_roundw
          case rel => exact ⟨.inr (.inr ⟨by simp, HO3⟩), HB3⟩
          case measure => simp [intOf]
        · go_wp2
          exact HR.out _ _ HB2.out HO2.out
end Go.Proofs.YtgfhcmidnbahjaaGreatDoor

namespace Go.Proofs.YtgfhcmidnbahjaaGreatDoor
open Go.RowKit Go.Shelf

set_option maxRecDepth 100000 in
set_option maxHeartbeats 2000000 in
theorem wFirst_c (c : Cal) (m t : Int) (w : World) (R) (hC : CalAt w c) (hok : calOk c = true) (h1 : 0 ≤ m) (h2 : m ≤ 1439) (h3 : 0 ≤ t) (h4 : t ≤ 100000000)
    (hs : ∀ x w', firstF c m t = some x → Below w.heap.size w w' → R (.returned (.tuple #[.int .i64 x, .int .i64 0])) w') (hn : ∀ w', firstF c m t = none → Below w.heap.size w w' → R (.returned (.tuple #[.int .i64 0, .int .i64 20])) w') :
    Calls Tryz.prog 221 #[.agg c.cells.toArray, .int .i64 m, .int .i64 t] w R := by
  have HS := hide hs; have HN := hide hn; have HC := hide hC; have Hok := hide hok
  obtain ⟨w1, hw1, hb1, k0⟩ := cal_box c w
  have HB1 := hide hb1; have HK0 := hide k0
  have x0 := k0.cell (k := 0) (v := .int .i64 c.zone) rfl; have x1 := k0.cell (k := 1) (v := .slice c.wp c.week.length c.wc) rfl; have x2 := k0.cell (k := 2) (v := .slice c.hp c.hol.length c.hc) rfl
  have hdr := dayOf_range hok h3 h4
  have hff : firstF c m t = (nextF c (if m < minOf c t then dayOf c t + 1 else dayOf c t)).map fun d => timeOf c d m := rfl
  have Hff := hide hff
  unfold Cal.cells at hw1 ⊢
  clear hs hn hC hok hb1 k0 hff
  go_enter Tryz.func221, Tryz.ntmps221
  go_wp2_with (go_at_call 223; refine Stop.out ?_)
  refine Stop.go (local_c c t _ _ (HC.out.keep (Keeps.of_below HB1.out)) Hok.out (by omega) (by omega) ?_)
  intro w2 hb
  have HB2 := hide (bseq HB1.out hb)
  have k2 := HK0.out.next hb
  have HK2 := hide k2
  clear hb x0 x1 x2 hw1
  have x0 := k2.cell (k := 0) (v := .int .i64 c.zone) rfl; have x1 := k2.cell (k := 1) (v := .slice c.wp c.week.length c.wc) rfl; have x2 := k2.cell (k := 2) (v := .slice c.hp c.hol.length c.hc) rfl
  clear k2
  generalize dayOf c t = d at *
  generalize minOf c t = mm at *
  have key : ∀ (dd : Int) (w3 : World), -1 ≤ dd → dd ≤ 100001 → Below w.heap.size w w3 → firstF c m t = (nextF c dd).map (fun d => timeOf c d m) → True := fun _ _ _ _ _ _ => trivial
  clear key
  by_cases hlt : m < mm
  · have hF := Hff.out
    rw [if_pos hlt] at hF
    have HF := hide hF
    have e1 : IntKind.i64.wrap (d + 1) = d + 1 := IntWalk.i64_in _ (by omega)
    clear hF
    go_wp2_with (go_at_call 244; refine Stop.out ?_)
    refine Stop.go (calNext_c c (d + 1) _ _ (HC.out.keep (Keeps.of_below HB2.out)) Hok.out (by omega) (by omega) ?_ ?_)
    · intro x w3 hx hb
      have hnr := nextF_near hx
      have HB3 := hide (bseq HB2.out hb)
      have HX : Hid (firstF c m t = some (timeOf c x m)) := hide (by rw [HF.out, hx]; rfl)
      have k3 := HK2.out.next hb
      clear hb x0 x1 x2 hx
      have x0 := k3.cell (k := 0) (v := .int .i64 c.zone) rfl; have x1 := k3.cell (k := 1) (v := .slice c.wp c.week.length c.wc) rfl; have x2 := k3.cell (k := 2) (v := .slice c.hp c.hol.length c.hc) rfl
      clear k3
      go_wp2_with (go_at_call 245; refine Stop.out ?_)
      refine Stop.go (time_c c x m _ _ (HC.out.keep (Keeps.of_below HB3.out)) Hok.out (by omega) (by omega) h1 h2 ?_)
      intro w4 hb
      have HG := hide (HS.out _ w4 HX.out (bseq HB3.out hb))
      clear hb x0 x1 x2
      go_wp2
      exact HG.out
    · intro w3 hx hb
      have HG := hide (HN.out w3 (by rw [HF.out, hx]; rfl) (bseq HB2.out hb))
      clear hb x0 x1 x2 hx
      go_wp2
      exact HG.out
  · have hF := Hff.out
    rw [if_neg hlt] at hF
    have HF := hide hF
    clear hF
    go_wp2_with (go_at_call 244; refine Stop.out ?_)
    refine Stop.go (calNext_c c d _ _ (HC.out.keep (Keeps.of_below HB2.out)) Hok.out (by omega) (by omega) ?_ ?_)
    · intro x w3 hx hb
      have hnr := nextF_near hx
      have HB3 := hide (bseq HB2.out hb)
      have HX : Hid (firstF c m t = some (timeOf c x m)) := hide (by rw [HF.out, hx]; rfl)
      have k3 := HK2.out.next hb
      clear hb x0 x1 x2 hx
      have x0 := k3.cell (k := 0) (v := .int .i64 c.zone) rfl; have x1 := k3.cell (k := 1) (v := .slice c.wp c.week.length c.wc) rfl; have x2 := k3.cell (k := 2) (v := .slice c.hp c.hol.length c.hc) rfl
      clear k3
      go_wp2_with (go_at_call 245; refine Stop.out ?_)
      refine Stop.go (time_c c x m _ _ (HC.out.keep (Keeps.of_below HB3.out)) Hok.out (by omega) (by omega) h1 h2 ?_)
      intro w4 hb
      have HG := hide (HS.out _ w4 HX.out (bseq HB3.out hb))
      clear hb x0 x1 x2
      go_wp2
      exact HG.out
    · intro w3 hx hb
      have HG := hide (HN.out w3 (by rw [HF.out, hx]; rfl) (bseq HB2.out hb))
      clear hb x0 x1 x2 hx
      go_wp2
      exact HG.out
theorem wmust_ok (x : Int) (w : World) (R) (hR : R (.returned (.int .i64 x)) w) : Calls Tryz.prog 220 #[.int .i64 x, .int .i64 0] w R := by
  have HR := hide hR
  clear hR
  go_enter Tryz.func220, Tryz.ntmps220
  go_wp2
  exact HR.out
theorem wmust_err (e x : Int) (he : e ≠ 0) (w : World) (R : Ending → World → Prop) (hR : R (.panicked [{ v := .iface 43 (.int .i64 e), recovered := false }]) w) : Calls Tryz.prog 220 #[.int .i64 x, .int .i64 e] w R := by
  have HR := hide hR
  have t1 : (e == (0 : Int)) = false := by simpa using he
  have t2 : (e != (0 : Int)) = true := by simpa using he
  clear hR
  go_enter Tryz.func220, Tryz.ntmps220
  go_wp2
  exact ⟨rfl, HR.out⟩
theorem wmust_case (e x : Int) (w : World) (R : Ending → World → Prop) (h1 : e ≠ 0 → R (.panicked [{ v := .iface 43 (.int .i64 e), recovered := false }]) w) (h0 : e = 0 → R (.returned (.int .i64 x)) w) : Calls Tryz.prog 220 #[.int .i64 x, .int .i64 e] w R := by
  by_cases he : e = 0
  · subst he; exact wmust_ok x w R (h0 rfl)
  · exact wmust_err e x he w R (h1 he)
set_option maxRecDepth 100000 in
theorem wcode_c (e : Int) (w : World) (R) (hR : R (.returned (.int .i64 e)) w) : Calls Tryz.prog 177 #[.iface 43 (.int .i64 e)] w R := by
  have HR := hide hR
  have hta := run_assert_errno e
  clear hR
  go_enter Tryz.func177, Tryz.ntmps177
  go_wp2
  exact HR.out
end Go.Proofs.YtgfhcmidnbahjaaGreatDoor

namespace Go.Proofs
open Go.Shelf
def Tryz.keysK_ren : Go.Shelf.Ren := ⟨fun | 7 => 131 | 10 => 189 | n => n, fun | 23 => 194 | 26 => 3 | 3 => 4 | 28 => 156 | 0 => 0 | 27 => 155 | 33 => 100 | 4 => 4 | n => n, fun | n => n⟩
theorem Tryz.keysK : Go.Proofs.SlLaysZI.n7 Tryz.prog Tryz.keysK_ren := {
  mixed := by kernel_rfl
  f7 := ⟨Tryz.f131.name, by decide, Tryz.func131.trans (congrArg some (by kernel_rfl))⟩
  f10 := ⟨Tryz.f189.name, by decide, Tryz.func189.trans (congrArg some (by kernel_rfl))⟩
  t0 := Tryz.underlying0
  a0 := Tryz.isAgg0
  z0 := Tryz.sizeOf0
  v0 := Tryz.zeroValue0
  t4 := Tryz.underlying4
  a4 := Tryz.isAgg4
  z4 := Tryz.sizeOf4
  v4 := Tryz.zeroValue4
  t23 := Tryz.underlying194
  a23 := Tryz.isAgg194
  z23 := Tryz.sizeOf194
  v23 := Tryz.zeroValue194
  t26 := Tryz.underlying3
  a26 := Tryz.isAgg3
  z26 := Tryz.sizeOf3
  v26 := Tryz.zeroValue3
  t27 := Tryz.underlying155
  a27 := Tryz.isAgg155
  z27 := Tryz.sizeOf155
  v27 := Tryz.zeroValue155
  t28 := Tryz.underlying156
  a28 := Tryz.isAgg156
  z28 := Tryz.sizeOf156
  v28 := Tryz.zeroValue156
  t33 := Tryz.underlying100
  a33 := Tryz.isAgg100
  z33 := Tryz.sizeOf100
  v33 := Tryz.zeroValue100 }
def Tryz.sortedK_ren : Go.Shelf.Ren := ⟨fun | 6 => 130 | 8 => 188 | 9 => 144 | 11 => 246 | 13 => 201 | 12 => 200 | 23 => 263 | 24 => 264 | 14 => 255 | 15 => 256 | 16 => 257 | 17 => 258 | 18 => 259 | 19 => 260 | 20 => 254 | 21 => 261 | 22 => 262 | 25 => 308 | 26 => 309 | 27 => 310 | 28 => 311 | 29 => 312 | 30 => 307 | 31 => 327 | n => n, fun | 26 => 3 | 28 => 156 | 24 => 40 | 0 => 0 | 3 => 3 | 37 => 248 | 48 => 291 | 50 => 293 | 4 => 4 | 40 => 285 | 39 => 284 | 45 => 136 | 5 => 5 | 9 => 9 | 51 => 311 | 55 => 315 | 57 => 323 | 58 => 217 | 33 => 100 | n => n, fun | n => n⟩
theorem Tryz.sortedK : Go.Proofs.SlLaysZI.n6 Tryz.prog Tryz.sortedK_ren := {
  mixed := by kernel_rfl
  f6 := ⟨Tryz.f130.name, by decide, Tryz.func130.trans (congrArg some (by kernel_rfl))⟩
  f8 := ⟨Tryz.f188.name, by decide, Tryz.func188.trans (congrArg some (by kernel_rfl))⟩
  f11 := ⟨Tryz.f246.name, by decide, Tryz.func246.trans (congrArg some (by kernel_rfl))⟩
  t0 := Tryz.underlying0
  a0 := Tryz.isAgg0
  z0 := Tryz.sizeOf0
  v0 := Tryz.zeroValue0
  t24 := Tryz.underlying40
  a24 := Tryz.isAgg40
  z24 := Tryz.sizeOf40
  v24 := Tryz.zeroValue40
  t26 := Tryz.underlying3
  a26 := Tryz.isAgg3
  z26 := Tryz.sizeOf3
  v26 := Tryz.zeroValue3
  t28 := Tryz.underlying156
  a28 := Tryz.isAgg156
  z28 := Tryz.sizeOf156
  v28 := Tryz.zeroValue156
  i26 := by kernel_rfl }
def Tryz.sortK_ren : Go.Shelf.Ren := ⟨fun | 5 => 144 | 8 => 201 | 7 => 200 | 19 => 263 | 20 => 264 | 10 => 255 | 11 => 256 | 12 => 257 | 13 => 258 | 14 => 259 | 15 => 260 | 16 => 254 | 17 => 261 | 18 => 262 | 30 => 308 | 31 => 309 | 32 => 310 | 33 => 311 | 34 => 312 | 35 => 307 | 40 => 327 | n => n, fun | 23 => 40 | 25 => 3 | 3 => 3 | 32 => 248 | 22 => 40 | 0 => 0 | 44 => 291 | 46 => 293 | 4 => 4 | 36 => 285 | 35 => 284 | 41 => 136 | 5 => 5 | 9 => 9 | 53 => 311 | 57 => 315 | 63 => 323 | 64 => 217 | n => n, fun | n => n⟩
theorem Tryz.sortK : Go.Proofs.SlLaysM.n5 Tryz.prog Tryz.sortK_ren := {
  mixed := by kernel_rfl
  f5 := ⟨Tryz.f144.name, by decide, Tryz.func144.trans (congrArg some (by kernel_rfl))⟩
  f7 := ⟨Tryz.f200.name, by decide, Tryz.func200.trans (congrArg some (by kernel_rfl))⟩
  f8 := Tryz.func201.trans (congrArg some (by kernel_rfl))
  f10 := ⟨Tryz.f255.name, by decide, Tryz.func255.trans (congrArg some (by kernel_rfl))⟩
  f11 := ⟨Tryz.f256.name, by decide, Tryz.func256.trans (congrArg some (by kernel_rfl))⟩
  f12 := ⟨Tryz.f257.name, by decide, Tryz.func257.trans (congrArg some (by kernel_rfl))⟩
  f13 := ⟨Tryz.f258.name, by decide, Tryz.func258.trans (congrArg some (by kernel_rfl))⟩
  f14 := ⟨Tryz.f259.name, by decide, Tryz.func259.trans (congrArg some (by kernel_rfl))⟩
  f15 := ⟨Tryz.f260.name, by decide, Tryz.func260.trans (congrArg some (by kernel_rfl))⟩
  f16 := ⟨Tryz.f254.name, by decide, Tryz.func254.trans (congrArg some (by kernel_rfl))⟩
  f17 := ⟨Tryz.f261.name, by decide, Tryz.func261.trans (congrArg some (by kernel_rfl))⟩
  f18 := ⟨Tryz.f262.name, by decide, Tryz.func262.trans (congrArg some (by kernel_rfl))⟩
  f19 := Tryz.func263.trans (congrArg some (by kernel_rfl))
  f20 := Tryz.func264.trans (congrArg some (by kernel_rfl))
  f30 := ⟨Tryz.f308.name, by decide, Tryz.func308.trans (congrArg some (by kernel_rfl))⟩
  f31 := Tryz.func309.trans (congrArg some (by kernel_rfl))
  f32 := Tryz.func310.trans (congrArg some (by kernel_rfl))
  f33 := ⟨Tryz.f311.name, by decide, Tryz.func311.trans (congrArg some (by kernel_rfl))⟩
  f34 := ⟨Tryz.f312.name, by decide, Tryz.func312.trans (congrArg some (by kernel_rfl))⟩
  f35 := ⟨Tryz.f307.name, by decide, Tryz.func307.trans (congrArg some (by kernel_rfl))⟩
  f40 := ⟨Tryz.f327.name, by decide, Tryz.func327.trans (congrArg some (by kernel_rfl))⟩
  t0 := Tryz.underlying0
  a0 := Tryz.isAgg0
  z0 := Tryz.sizeOf0
  v0 := Tryz.zeroValue0
  t3 := Tryz.underlying3
  a3 := Tryz.isAgg3
  z3 := Tryz.sizeOf3
  v3 := Tryz.zeroValue3
  t4 := Tryz.underlying4
  a4 := Tryz.isAgg4
  z4 := Tryz.sizeOf4
  v4 := Tryz.zeroValue4
  t5 := Tryz.underlying5
  a5 := Tryz.isAgg5
  z5 := Tryz.sizeOf5
  v5 := Tryz.zeroValue5
  t9 := Tryz.underlying9
  a9 := Tryz.isAgg9
  z9 := Tryz.sizeOf9
  v9 := Tryz.zeroValue9
  t22 := Tryz.underlying40
  a22 := Tryz.isAgg40
  z22 := Tryz.sizeOf40
  v22 := Tryz.zeroValue40
  t23 := Tryz.underlying40
  a23 := Tryz.isAgg40
  z23 := Tryz.sizeOf40
  v23 := Tryz.zeroValue40
  t25 := Tryz.underlying3
  a25 := Tryz.isAgg3
  z25 := Tryz.sizeOf3
  v25 := Tryz.zeroValue3
  t32 := Tryz.underlying248
  a32 := Tryz.isAgg248
  z32 := Tryz.sizeOf248
  v32 := Tryz.zeroValue248
  t35 := Tryz.underlying284
  a35 := Tryz.isAgg284
  z35 := Tryz.sizeOf284
  v35 := Tryz.zeroValue284
  t36 := Tryz.underlying285
  a36 := Tryz.isAgg285
  z36 := Tryz.sizeOf285
  v36 := Tryz.zeroValue285
  t41 := Tryz.underlying136
  a41 := Tryz.isAgg136
  z41 := Tryz.sizeOf136
  v41 := Tryz.zeroValue136
  t44 := Tryz.underlying291
  a44 := Tryz.isAgg291
  z44 := Tryz.sizeOf291
  v44 := Tryz.zeroValue291
  t46 := Tryz.underlying293
  a46 := Tryz.isAgg293
  z46 := Tryz.sizeOf293
  v46 := Tryz.zeroValue293
  t53 := Tryz.underlying311
  a53 := Tryz.isAgg311
  z53 := Tryz.sizeOf311
  v53 := Tryz.zeroValue311
  t57 := Tryz.underlying315
  a57 := Tryz.isAgg315
  z57 := Tryz.sizeOf315
  v57 := Tryz.zeroValue315
  t63 := Tryz.underlying323
  a63 := Tryz.isAgg323
  z63 := Tryz.sizeOf323
  v63 := Tryz.zeroValue323
  t64 := Tryz.underlying217
  a64 := Tryz.isAgg217
  z64 := Tryz.sizeOf217
  v64 := Tryz.zeroValue217 }
end Go.Proofs

namespace Go.Proofs.YtgfhcmidnbahjaaGreatDoor
open Go.RowKit Go.Shelf Go.Maps Go.Sort

theorem sortsK (m : Nat) : AnyZI.SortsIn Tryz.prog Tryz.sortedK_ren Fence.wide m :=
  ⟨fun blk off cap ss W hH hblk hsz => callsIn_wide.2 (AnyM.slices_Sort_int Tryz.sortK blk off cap ss W hH hblk hsz),
   fun p cap W => callsIn_wide.2 (AnyM.slices_Sort_int_none Tryz.sortK p cap W)⟩
set_option maxRecDepth 100000 in
theorem keysK_c (mb : Option Nat) (W : World) (R) (hR : R (.returned (.func (.func 189) #[] #[.pointer (some ⟨W.heap.size, 0, none⟩)])) (W.alloc (.cells #[.map mb] 194))) :
    Calls Tryz.prog 131 #[.map mb] W R := by
  have h : CallsIn Fence.wide 5 Tryz.prog 131 #[.map mb] W fun e w' => e = .returned (.func (.func 189) #[] #[.pointer (some ⟨W.heap.size, 0, none⟩)]) ∧ w' = W.alloc (.cells #[.map mb] 194) := AnyZI.keys_in Tryz.keysK Fence.wide 5 trivial rfl mb W
  refine (callsIn_wide.1 h).mono ?_
  rintro e w' ⟨rfl, rfl⟩
  exact hR
set_option maxRecDepth 100000 in
set_option maxHeartbeats 1000000 in
theorem sortedK_c {H : Type} (b nn : Nat) (D0 : DataW H) (K : Value → Option (DataW H × List MemPlace)) (w : World) (R) (hown : w.ownsMap Tryz.prog 3 K b nn D0) (hmax : Maps.size D0 ≤ maxLen) (hbytes : Maps.size D0 * 8 ≤ 140737488355328)
    (hR : ∀ v ss w', List.Perm ss (intKeys D0) → w'.ownsRow w.heap.size 3 1 v ss.length ((ss.mergeSort (fun x y => decide (x ≤ y))).map encZ) → Below w.heap.size w w' → R (.returned v) w') :
    Calls Tryz.prog 130 #[.func (.func 189) #[] #[.pointer (some ⟨w.heap.size, 0, none⟩)]] (w.alloc (.cells #[.map (some b)] 194)) R := by
  have hbl := hown.lt
  have hseq : SeqGives Fence.wide 2 Tryz.prog 189 #[.pointer (some ⟨w.heap.size, 0, none⟩)] encZ (fun ss => ss.Perm (intKeys D0)) (Maps.size D0) (w.alloc (.cells #[.map (some b)] 194)) :=
    AnyZI.keys_gives (ρ := Tryz.keysK_ren) { Tryz.keysK with } Fence.wide _ trivial rfl (by omega) w.heap.size b nn D0 _ (by simp) (by simp) (by
      obtain ⟨es, clock, hb, Ft, hs, hD⟩ := hown
      exact ⟨es, clock, (Below.heap_alloc _ _ b hbl).trans hb, Ft, hs, hD⟩)
  have cS := AnyZI.sorted_in Tryz.sortedK Fence.wide 5 trivial trivial trivial trivial rfl (by omega) (sortsK _) (enters_of Tryz.func144 (by kernel_rfl) rfl) 189 #[.pointer (some ⟨w.heap.size, 0, none⟩)] trivial (enters_of Tryz.func189 (by kernel_rfl) rfl) _ _ hmax hbytes _ hseq
  change CallsIn _ _ Tryz.prog 130 _ _ _ at cS
  refine (callsIn_wide.1 cS).mono ?_
  rintro e w' ⟨v, ss, rfl, hS, hrow, hnil, hb⟩
  exact hR v ss w' hS (ownsRow_base_a hrow (by simp)) (((Below.refl _ w).alloc (Nat.le_refl _) _).trans (hb.mono (by simp)))
end Go.Proofs.YtgfhcmidnbahjaaGreatDoor
