/- The departures of the fixed network. -/
import Derived.Test.YtkabghifdedmfaaGreatDoorB33
set_option linter.unusedVariables false
set_option linter.unusedSimpArgs false
namespace Go.Proofs.YtkabghifdedmfaaGreatDoor
open Go.RowKit Go.Sort Go.Shelf

set_option maxRecDepth 100000 in
set_option maxHeartbeats 2000000 in
theorem calendarOf_c (a : Net) (w : World) (R) (hN : NetAt w a) (hR : ∀ w', Below w.heap.size w w' → R (.returned (.agg #[.int .i64 0, .slice (some ⟨a.week, 0, none⟩) 7 7, .slice none 0 0])) w') : Calls Tryz.prog 156 #[.agg (netC a), .int .i64 0] w R := by
  have HR := hide hR
  unfold netC
  obtain ⟨w1, hw1⟩ : ∃ w1, (w.alloc (.cells #[.slice (some ⟨a.cal, 0, none⟩) 1 1, .slice (some ⟨a.nam, 0, none⟩) 1 1, .slice (some ⟨a.opr, 0, none⟩) 2 2, .slice (some ⟨a.off, 0, none⟩) 2 2, .slice (some ⟨a.lin, 0, none⟩) 2 2, .slice (some ⟨a.cls, 0, none⟩) 1 1] 60)).alloc (.cells #[.int .i64 0, .slice none 0 0, .slice none 0 0] 104) = w1 := ⟨_, rfl⟩
  have hb1 : Below w.heap.size w w1 := hw1 ▸ balloc (balloc (Below.refl _ _) _) _
  have k1 : Blk w1 w.heap.size #[.slice (some ⟨a.cal, 0, none⟩) 1 1, .slice (some ⟨a.nam, 0, none⟩) 1 1, .slice (some ⟨a.opr, 0, none⟩) 2 2, .slice (some ⟨a.off, 0, none⟩) 2 2, .slice (some ⟨a.lin, 0, none⟩) 2 2, .slice (some ⟨a.cls, 0, none⟩) 1 1] 60 := by rw [← hw1]; exact (Blk.new _ _ _).next (balloc (Below.refl _ _) _)
  have k2 : Blk w1 (w.heap.size + 1) #[.int .i64 0, .slice none 0 0, .slice none 0 0] 104 := by rw [← hw1]; exact Blk.new_at (by simp)
  have hN1 := hN.next hb1
  have x0 := k1.cell (k := 0) rfl; have x3 := k1.cell (k := 3) rfl; have x4 := k1.cell (k := 4) rfl
  have l1 := hN1.lin.cell (k := 1) rfl
  have o2 := hN1.off.cell (k := 2) rfl
  have c0 := hN1.cal.cell (k := 0) rfl; have c1 := hN1.cal.cell (k := 1) rfl; have c2 := hN1.cal.cell (k := 2) rfl
  have HB := hide hb1.drew
  have HK := hide (k2.next (Below.refl _ _).drew)
  clear hR hN hb1 k1 k2 hN1
  go_enter Tryz.func156, Tryz.ntmps156
  go_wp2
  clear hw1
  go_still_tail 15, (by kernel_rfl)
  change wpList _ _ _ _ _ w1.drew
  clear x0 x3 x4 l1 o2 c0 c1 c2
  generalize w1.drew = w2 at *
  have y0 := HK.out.cell (k := 0) rfl; have y1 := HK.out.cell (k := 1) rfl; have y2 := HK.out.cell (k := 2) rfl
  have f0 := HK.out.free 0; have f1 := HK.out.free 1; have f2 := HK.out.free 2
  have HK3 := hide (((HK.out.set 0 (.int .i64 0)).set 1 (.slice (some ⟨a.week, 0, none⟩) 7 7)).set 2 (.slice none 0 0))
  have HF := hide (HR.out _ (((HB.out.setCell (p := ⟨w.heap.size + 1, 0, none⟩) (Nat.le_succ _) (.int .i64 0)).setCell (p := ⟨w.heap.size + 1, 1, none⟩) (Nat.le_succ _) (.slice (some ⟨a.week, 0, none⟩) 7 7)).setCell (p := ⟨w.heap.size + 1, 2, none⟩) (Nat.le_succ _) (.slice none 0 0)))
  clear HB HK
  go_wp2
  refine bodyPost_ret (v := .agg (calC a)) ?_ rfl HF.out
  have z0 := HK3.out.cell (k := 0) rfl; have z1 := HK3.out.cell (k := 1) rfl; have z2 := HK3.out.cell (k := 2) rfl
  rw [results_cell1 (p := 4) (ty := 104) Tryz.results156]
  simp [go_sem, z0, z1, z2, calC]
theorem workdays_c (g7 : Nat) (w : World) (R)
    (hR : R (.returned (.func (.func 175) #[] #[.pointer (some ⟨w.heap.size + 1, 0, none⟩), .pointer (some ⟨w.heap.size + 1 + 1, 0, none⟩), .pointer (some ⟨w.heap.size, 0, none⟩)])) (((w.alloc (.cells #[.int .i64 0, .slice (some ⟨g7, 0, none⟩) 7 7, .slice none 0 0] 104)).alloc (.cells #[.int .i64 0] 3)).alloc (.cells #[.int .i64 60] 3))) :
    Calls Tryz.prog 158 #[.agg #[.int .i64 0, .slice (some ⟨g7, 0, none⟩) 7 7, .slice none 0 0], .int .i64 0, .int .i64 60] w R := by
  have HR := hide hR
  clear hR
  go_enter Tryz.func158, Tryz.ntmps158
  go_wp2
  exact HR.out
set_option maxRecDepth 100000 in
set_option maxHeartbeats 2000000 in
theorem days_seq (n : Nat) (hn : 1 ≤ n) (g7 b3 b4 b5 : Nat) (w : World) (h3 : Blk w b3 #[.int .i64 0, .slice (some ⟨g7, 0, none⟩) 7 7, .slice none 0 0] 104) (h4 : Blk w b4 #[.int .i64 0] 3) (h5 : Blk w b5 #[.int .i64 60] 3) (hW : Blk w g7 #[.bool true, .bool true, .bool true, .bool true, .bool true, .bool false, .bool false] 4) :
    SeqR Fence.wide n Tryz.prog 175 #[.pointer (some ⟨b4, 0, none⟩), .pointer (some ⟨b5, 0, none⟩), .pointer (some ⟨b3, 0, none⟩)] #[.int .i64 0] w := by
  intro l J T W hbW hJs hY h0
  have HJs := hide hJs; have HY := hide hY; have HJ0 := hide h0; have HW := hide (hW.next hbW)
  have x0 := (h3.next hbW).cell (k := 0) rfl; have x1 := (h3.next hbW).cell (k := 1) rfl; have x2 := (h3.next hbW).cell (k := 2) rfl
  have y0 := (h4.next hbW).cell (k := 0) rfl
  have z0 := (h5.next hbW).cell (k := 0) rfl
  clear hJs hY h0 hW h3 h4 h5 hbW
  refine callsIn_of_wp Tryz.func175 rfl trivial ?_ rfl
  simp only [Tryz.ntmps175, List.size_toArray, List.length_cons, List.length_nil, Nat.reduceAdd, Nat.reduceSub, Array.replicate_succ, Array.replicate_zero, List.push_toArray, List.append_toArray, List.nil_append, List.cons_append]
  refine wpIn_wide.2 ?_
  go_wp2
  refine (wpIn_wide (n := n)).1 ?_
  gi_loopw [5] (fun sv wq => sv = .int .i64 0 ∧ wq = W) (fun _ _ => 0)
  case atStart => exact ⟨rfl, rfl⟩
  case round =>
    obtain ⟨rfl, rfl⟩ := hrel
    gi_wp2_with (gi_at_call 176; refine Stop.out ?_)
    refine Stop.go ⟨trivial, callsIn_wide.2 (work_c g7 _ _ HW.out ?_)⟩
    intro W1 hb
    obtain ⟨fn, tmps, assign, body, hy, hR⟩ := HY.out W1 (HJs.out _ _ HJ0.out hb)
    clear hb x0 x1 x2 y0 z0
    gi_wp2
    refine hR.mono ?_
    rintro e W3 ⟨rfl, hT⟩
    have HT := hide hT
    clear hT hR hy
    gi_wp2
    refine bodyPost_ret (results_none Tryz.results175 _ _ _) rfl ?_
    exact ⟨⟨_, rfl⟩, HT.out⟩
end Go.Proofs.YtkabghifdedmfaaGreatDoor
