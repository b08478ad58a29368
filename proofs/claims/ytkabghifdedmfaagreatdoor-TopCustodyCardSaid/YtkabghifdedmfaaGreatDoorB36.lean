/- Survey: check for the five kinds. -/
import Derived.Test.YtkabghifdedmfaaGreatDoorB35
set_option linter.unusedVariables false
set_option linter.unusedSimpArgs false
namespace Go.Proofs.YtkabghifdedmfaaGreatDoor
open Go.RowKit Go.Sort Go.Shelf

attribute [local go_sem] run_store_func
set_option maxRecDepth 100000 in
set_option maxHeartbeats 8000000 in
theorem checkCal_c (a : Net) (gn : Nat) (w : World) (R) (hk : KwAt w) (hB : Blk w gn #[.slice (some ⟨a.cal, 0, none⟩) 1 1, .slice (some ⟨a.nam, 0, none⟩) 1 1, .slice (some ⟨a.opr, 0, none⟩) 2 2, .slice (some ⟨a.off, 0, none⟩) 2 2, .slice (some ⟨a.lin, 0, none⟩) 2 2, .slice (some ⟨a.cls, 0, none⟩) 1 1] 60) (hN : NetAt w a) (hR : ∀ w', Below w.heap.size w w' → R (.returned (.slice none 0 0)) w') : Calls Tryz.prog 109 #[.int .i64 1, .int .i64 6, .slice (some ⟨a.cal, 0, none⟩) 1 1, .func (.func 108) #[] #[.pointer (some ⟨gn, 0, none⟩)], .func (.func 110) #[] #[]] w R := by
  have HR := hide hR
  obtain ⟨w1, hw1⟩ : ∃ w1, (((w.alloc (.cells #[.slice (some ⟨a.cal, 0, none⟩) 1 1] 54)).alloc (.cells #[.func (.func 108) #[] #[.pointer (some ⟨gn, 0, none⟩)]] 169)).alloc (.cells #[.func (.func 110) #[] #[]] 196)).alloc (.cells #[.func (.func 135) #[] #[.pointer (some ⟨w.heap.size + 1, 0, none⟩)], .func (.func 137) #[] #[.pointer (some ⟨w.heap.size + 1, 0, none⟩)], .func (.func 138) #[] #[.pointer (some ⟨w.heap.size + 1 + 1, 0, none⟩), .pointer (some ⟨w.heap.size, 0, none⟩)]] 215) = w1 := ⟨_, rfl⟩
  have hb1 : Below w.heap.size w w1 := hw1 ▸ balloc (balloc (balloc (balloc (Below.refl _ _) _) _) _) _
  have HI := hide (show CkI w a gn w.heap.size 54 196 (.slice (some ⟨a.cal, 0, none⟩) 1 1) (.func (.func 108) #[] #[.pointer (some ⟨gn, 0, none⟩)]) (.func (.func 110) #[] #[]) (.func (.func 135) #[] #[.pointer (some ⟨w.heap.size + 1, 0, none⟩)]) (.func (.func 137) #[] #[.pointer (some ⟨w.heap.size + 1, 0, none⟩)]) (.func (.func 138) #[] #[.pointer (some ⟨w.heap.size + 1 + 1, 0, none⟩), .pointer (some ⟨w.heap.size, 0, none⟩)]) w1 from ⟨hb1, hk.next hb1, hB.next hb1, hN.next hb1, by rw [← hw1]; repeat (first | exact Blk.new_at (by simp) | refine Blk.alloc ?_ _), by rw [← hw1]; repeat (first | exact Blk.new_at (by simp) | refine Blk.alloc ?_ _), by rw [← hw1]; repeat (first | exact Blk.new_at (by simp) | refine Blk.alloc ?_ _), by rw [← hw1]; repeat (first | exact Blk.new_at (by simp) | refine Blk.alloc ?_ _)⟩)
  have x7 := HI.out.b7.cell (k := 0) rfl
  clear hR hk hB hN hb1
  have hmin : min (1 : Int) 6 = 1 := by decide
  go_enter Tryz.func109, Tryz.ntmps109
  go_wp2
  clear hmin
  clear hw1 x7
  go_loopw [12, 25] (fun v si wr => v = .slice none 0 0 ∧ ∃ i : Nat, i ≤ 1 ∧ si = .int .i64 i ∧ Hid (CkI w a gn w.heap.size 54 196 (.slice (some ⟨a.cal, 0, none⟩) 1 1) (.func (.func 108) #[] #[.pointer (some ⟨gn, 0, none⟩)]) (.func (.func 110) #[] #[]) (.func (.func 135) #[] #[.pointer (some ⟨w.heap.size + 1, 0, none⟩)]) (.func (.func 137) #[] #[.pointer (some ⟨w.heap.size + 1, 0, none⟩)]) (.func (.func 138) #[] #[.pointer (some ⟨w.heap.size + 1 + 1, 0, none⟩), .pointer (some ⟨w.heap.size, 0, none⟩)]) wr)) (fun _ si _ => 1 - (intOf si).toNat)
  case atStart => exact ⟨rfl, 0, by decide, rfl, HI⟩
  case round =>
    clear HI
    obtain ⟨rfl, i, hi, rfl, HI⟩ := hrel
    have hi3 : i = 0 ∨ i = 1 := by omega
    have x7 := HI.out.b7.cell (k := 0) rfl
    have y0 := HI.out.b11.cell (k := 0) rfl; have y1 := HI.out.b11.cell (k := 1) rfl; have y2 := HI.out.b11.cell (k := 2) rfl
    rcases hi3 with rfl | hlast
    · rw [show ((0 : Nat) : Int) = 0 from rfl]
      go_wp2
      go_loopw [12, 29] (fun v sj wr => v = .slice none 0 0 ∧ ∃ j : Nat, j ≤ 3 ∧ sj = .int .i64 j ∧ Hid (CkI w a gn w.heap.size 54 196 (.slice (some ⟨a.cal, 0, none⟩) 1 1) (.func (.func 108) #[] #[.pointer (some ⟨gn, 0, none⟩)]) (.func (.func 110) #[] #[]) (.func (.func 135) #[] #[.pointer (some ⟨w.heap.size + 1, 0, none⟩)]) (.func (.func 137) #[] #[.pointer (some ⟨w.heap.size + 1, 0, none⟩)]) (.func (.func 138) #[] #[.pointer (some ⟨w.heap.size + 1 + 1, 0, none⟩), .pointer (some ⟨w.heap.size, 0, none⟩)]) wr)) (fun _ sj _ => 3 - (intOf sj).toNat)
      case atStart => exact ⟨rfl, 0, by decide, rfl, HI⟩
      case round =>
        clear HI x7 y0 y1 y2
        obtain ⟨rfl, j, hj, rfl, HJ⟩ := hrel
        have hj3 : j = 0 ∨ j = 1 ∨ j = 2 ∨ j = 3 := by omega
        rcases hj3 with rfl | rfl | rfl | hlast
        · have q : Sem.run Tryz.prog (Instr.index 215 (.agg #[.func (.func 135) #[] #[.pointer (some ⟨w.heap.size + 1, 0, none⟩)], .func (.func 137) #[] #[.pointer (some ⟨w.heap.size + 1, 0, none⟩)], .func (.func 138) #[] #[.pointer (some ⟨w.heap.size + 1 + 1, 0, none⟩), .pointer (some ⟨w.heap.size, 0, none⟩)]]) (.int .i64 0)) wr = .ok (.func (.func 135) #[] #[.pointer (some ⟨w.heap.size + 1, 0, none⟩)]) wr := run_index_arr wr (j := 0) und215 (by kernel_rfl) (fun w => by kernel_rfl) (by decide) rfl
          go_wp2_with (go_at_call 135; refine Stop.out ?_)
          refine Stop.go (r1Cal0_c w a gn w.heap.size _ _ HJ ?_)
          intro W' hb
          have HJ2 := hide (HJ.out.next hb)
          clear hb q
          go_wp2
          go_roundw
          case rel => exact ⟨rfl, 1, by omega, by go_num, HJ2⟩
          case measure => simp [intOf]
        · have q : Sem.run Tryz.prog (Instr.index 215 (.agg #[.func (.func 135) #[] #[.pointer (some ⟨w.heap.size + 1, 0, none⟩)], .func (.func 137) #[] #[.pointer (some ⟨w.heap.size + 1, 0, none⟩)], .func (.func 138) #[] #[.pointer (some ⟨w.heap.size + 1 + 1, 0, none⟩), .pointer (some ⟨w.heap.size, 0, none⟩)]]) (.int .i64 1)) wr = .ok (.func (.func 137) #[] #[.pointer (some ⟨w.heap.size + 1, 0, none⟩)]) wr := run_index_arr wr (j := 1) und215 (by kernel_rfl) (fun w => by kernel_rfl) (by decide) rfl
          go_wp2_with (go_at_call 137; refine Stop.out ?_)
          refine Stop.go (r2Cal0_c w a gn w.heap.size _ _ HJ ?_)
          intro W' hb
          have HJ2 := hide (HJ.out.next hb)
          clear hb q
          go_wp2
          go_roundw
          case rel => exact ⟨rfl, 2, by omega, by go_num, HJ2⟩
          case measure => simp [intOf]
        · have q : Sem.run Tryz.prog (Instr.index 215 (.agg #[.func (.func 135) #[] #[.pointer (some ⟨w.heap.size + 1, 0, none⟩)], .func (.func 137) #[] #[.pointer (some ⟨w.heap.size + 1, 0, none⟩)], .func (.func 138) #[] #[.pointer (some ⟨w.heap.size + 1 + 1, 0, none⟩), .pointer (some ⟨w.heap.size, 0, none⟩)]]) (.int .i64 2)) wr = .ok (.func (.func 138) #[] #[.pointer (some ⟨w.heap.size + 1 + 1, 0, none⟩), .pointer (some ⟨w.heap.size, 0, none⟩)]) wr := run_index_arr wr (j := 2) und215 (by kernel_rfl) (fun w => by kernel_rfl) (by decide) rfl
          go_wp2_with (go_at_call 138; refine Stop.out ?_)
          refine Stop.go (r3Cal0_c w a gn w.heap.size _ _ HJ ?_)
          intro W' hb
          have HJ2 := hide (HJ.out.next hb)
          clear hb q
          go_wp2
          go_roundw
          case rel => exact ⟨rfl, 3, by omega, by go_num, HJ2⟩
          case measure => simp [intOf]
        · have hjI : ¬ (j : Int) < 3 := by omega
          clear hj hlast
          go_wp2
          go_roundw
          case rel => exact ⟨rfl, 1, by omega, by go_num, HJ⟩
          case measure => simp [intOf]
    · have hiI : ¬ (i : Int) < 1 := by omega
      have HF := hide (HR.out _ HI.out.below)
      clear hi hlast
      go_wp2
      exact HF.out
set_option maxRecDepth 100000 in
set_option maxHeartbeats 8000000 in
theorem checkOpr_c (a : Net) (gn : Nat) (w : World) (R) (hk : KwAt w) (hB : Blk w gn #[.slice (some ⟨a.cal, 0, none⟩) 1 1, .slice (some ⟨a.nam, 0, none⟩) 1 1, .slice (some ⟨a.opr, 0, none⟩) 2 2, .slice (some ⟨a.off, 0, none⟩) 2 2, .slice (some ⟨a.lin, 0, none⟩) 2 2, .slice (some ⟨a.cls, 0, none⟩) 1 1] 60) (hN : NetAt w a) (hR : ∀ w', Below w.heap.size w w' → R (.returned (.slice none 0 0)) w') : Calls Tryz.prog 112 #[.int .i64 2, .int .i64 6, .slice (some ⟨a.opr, 0, none⟩) 2 2, .func (.func 111) #[] #[.pointer (some ⟨gn, 0, none⟩)], .func (.func 113) #[] #[]] w R := by
  have HR := hide hR
  obtain ⟨w1, hw1⟩ : ∃ w1, (((w.alloc (.cells #[.slice (some ⟨a.opr, 0, none⟩) 2 2] 55)).alloc (.cells #[.func (.func 111) #[] #[.pointer (some ⟨gn, 0, none⟩)]] 169)).alloc (.cells #[.func (.func 113) #[] #[]] 198)).alloc (.cells #[.func (.func 139) #[] #[.pointer (some ⟨w.heap.size + 1, 0, none⟩)], .func (.func 140) #[] #[.pointer (some ⟨w.heap.size + 1, 0, none⟩)], .func (.func 141) #[] #[.pointer (some ⟨w.heap.size + 1 + 1, 0, none⟩), .pointer (some ⟨w.heap.size, 0, none⟩)]] 215) = w1 := ⟨_, rfl⟩
  have hb1 : Below w.heap.size w w1 := hw1 ▸ balloc (balloc (balloc (balloc (Below.refl _ _) _) _) _) _
  have HI := hide (show CkI w a gn w.heap.size 55 198 (.slice (some ⟨a.opr, 0, none⟩) 2 2) (.func (.func 111) #[] #[.pointer (some ⟨gn, 0, none⟩)]) (.func (.func 113) #[] #[]) (.func (.func 139) #[] #[.pointer (some ⟨w.heap.size + 1, 0, none⟩)]) (.func (.func 140) #[] #[.pointer (some ⟨w.heap.size + 1, 0, none⟩)]) (.func (.func 141) #[] #[.pointer (some ⟨w.heap.size + 1 + 1, 0, none⟩), .pointer (some ⟨w.heap.size, 0, none⟩)]) w1 from ⟨hb1, hk.next hb1, hB.next hb1, hN.next hb1, by rw [← hw1]; repeat (first | exact Blk.new_at (by simp) | refine Blk.alloc ?_ _), by rw [← hw1]; repeat (first | exact Blk.new_at (by simp) | refine Blk.alloc ?_ _), by rw [← hw1]; repeat (first | exact Blk.new_at (by simp) | refine Blk.alloc ?_ _), by rw [← hw1]; repeat (first | exact Blk.new_at (by simp) | refine Blk.alloc ?_ _)⟩)
  have x7 := HI.out.b7.cell (k := 0) rfl
  clear hR hk hB hN hb1
  have hmin : min (2 : Int) 6 = 2 := by decide
  go_enter Tryz.func112, Tryz.ntmps112
  go_wp2
  clear hmin
  clear hw1 x7
  go_loopw [12, 25] (fun v si wr => v = .slice none 0 0 ∧ ∃ i : Nat, i ≤ 2 ∧ si = .int .i64 i ∧ Hid (CkI w a gn w.heap.size 55 198 (.slice (some ⟨a.opr, 0, none⟩) 2 2) (.func (.func 111) #[] #[.pointer (some ⟨gn, 0, none⟩)]) (.func (.func 113) #[] #[]) (.func (.func 139) #[] #[.pointer (some ⟨w.heap.size + 1, 0, none⟩)]) (.func (.func 140) #[] #[.pointer (some ⟨w.heap.size + 1, 0, none⟩)]) (.func (.func 141) #[] #[.pointer (some ⟨w.heap.size + 1 + 1, 0, none⟩), .pointer (some ⟨w.heap.size, 0, none⟩)]) wr)) (fun _ si _ => 2 - (intOf si).toNat)
  case atStart => exact ⟨rfl, 0, by decide, rfl, HI⟩
  case round =>
    clear HI
    obtain ⟨rfl, i, hi, rfl, HI⟩ := hrel
    have hi3 : i = 0 ∨ i = 1 ∨ i = 2 := by omega
    have x7 := HI.out.b7.cell (k := 0) rfl
    have y0 := HI.out.b11.cell (k := 0) rfl; have y1 := HI.out.b11.cell (k := 1) rfl; have y2 := HI.out.b11.cell (k := 2) rfl
    rcases hi3 with rfl | rfl | hlast
    · rw [show ((0 : Nat) : Int) = 0 from rfl]
      go_wp2
      go_loopw [12, 29] (fun v sj wr => v = .slice none 0 0 ∧ ∃ j : Nat, j ≤ 3 ∧ sj = .int .i64 j ∧ Hid (CkI w a gn w.heap.size 55 198 (.slice (some ⟨a.opr, 0, none⟩) 2 2) (.func (.func 111) #[] #[.pointer (some ⟨gn, 0, none⟩)]) (.func (.func 113) #[] #[]) (.func (.func 139) #[] #[.pointer (some ⟨w.heap.size + 1, 0, none⟩)]) (.func (.func 140) #[] #[.pointer (some ⟨w.heap.size + 1, 0, none⟩)]) (.func (.func 141) #[] #[.pointer (some ⟨w.heap.size + 1 + 1, 0, none⟩), .pointer (some ⟨w.heap.size, 0, none⟩)]) wr)) (fun _ sj _ => 3 - (intOf sj).toNat)
      case atStart => exact ⟨rfl, 0, by decide, rfl, HI⟩
      case round =>
        clear HI x7 y0 y1 y2
        obtain ⟨rfl, j, hj, rfl, HJ⟩ := hrel
        have hj3 : j = 0 ∨ j = 1 ∨ j = 2 ∨ j = 3 := by omega
        rcases hj3 with rfl | rfl | rfl | hlast
        · have q : Sem.run Tryz.prog (Instr.index 215 (.agg #[.func (.func 139) #[] #[.pointer (some ⟨w.heap.size + 1, 0, none⟩)], .func (.func 140) #[] #[.pointer (some ⟨w.heap.size + 1, 0, none⟩)], .func (.func 141) #[] #[.pointer (some ⟨w.heap.size + 1 + 1, 0, none⟩), .pointer (some ⟨w.heap.size, 0, none⟩)]]) (.int .i64 0)) wr = .ok (.func (.func 139) #[] #[.pointer (some ⟨w.heap.size + 1, 0, none⟩)]) wr := run_index_arr wr (j := 0) und215 (by kernel_rfl) (fun w => by kernel_rfl) (by decide) rfl
          go_wp2_with (go_at_call 139; refine Stop.out ?_)
          refine Stop.go (r1Opr0_c w a gn w.heap.size _ _ HJ ?_)
          intro W' hb
          have HJ2 := hide (HJ.out.next hb)
          clear hb q
          go_wp2
          go_roundw
          case rel => exact ⟨rfl, 1, by omega, by go_num, HJ2⟩
          case measure => simp [intOf]
        · have q : Sem.run Tryz.prog (Instr.index 215 (.agg #[.func (.func 139) #[] #[.pointer (some ⟨w.heap.size + 1, 0, none⟩)], .func (.func 140) #[] #[.pointer (some ⟨w.heap.size + 1, 0, none⟩)], .func (.func 141) #[] #[.pointer (some ⟨w.heap.size + 1 + 1, 0, none⟩), .pointer (some ⟨w.heap.size, 0, none⟩)]]) (.int .i64 1)) wr = .ok (.func (.func 140) #[] #[.pointer (some ⟨w.heap.size + 1, 0, none⟩)]) wr := run_index_arr wr (j := 1) und215 (by kernel_rfl) (fun w => by kernel_rfl) (by decide) rfl
          go_wp2_with (go_at_call 140; refine Stop.out ?_)
          refine Stop.go (r2Opr0_c w a gn w.heap.size _ _ HJ ?_)
          intro W' hb
          have HJ2 := hide (HJ.out.next hb)
          clear hb q
          go_wp2
          go_roundw
          case rel => exact ⟨rfl, 2, by omega, by go_num, HJ2⟩
          case measure => simp [intOf]
        · have q : Sem.run Tryz.prog (Instr.index 215 (.agg #[.func (.func 139) #[] #[.pointer (some ⟨w.heap.size + 1, 0, none⟩)], .func (.func 140) #[] #[.pointer (some ⟨w.heap.size + 1, 0, none⟩)], .func (.func 141) #[] #[.pointer (some ⟨w.heap.size + 1 + 1, 0, none⟩), .pointer (some ⟨w.heap.size, 0, none⟩)]]) (.int .i64 2)) wr = .ok (.func (.func 141) #[] #[.pointer (some ⟨w.heap.size + 1 + 1, 0, none⟩), .pointer (some ⟨w.heap.size, 0, none⟩)]) wr := run_index_arr wr (j := 2) und215 (by kernel_rfl) (fun w => by kernel_rfl) (by decide) rfl
          go_wp2_with (go_at_call 141; refine Stop.out ?_)
          refine Stop.go (r3Opr0_c w a gn w.heap.size _ _ HJ ?_)
          intro W' hb
          have HJ2 := hide (HJ.out.next hb)
          clear hb q
          go_wp2
          go_roundw
          case rel => exact ⟨rfl, 3, by omega, by go_num, HJ2⟩
          case measure => simp [intOf]
        · have hjI : ¬ (j : Int) < 3 := by omega
          clear hj hlast
          go_wp2
          go_roundw
          case rel => exact ⟨rfl, 1, by omega, by go_num, HJ⟩
          case measure => simp [intOf]
    · rw [show ((1 : Nat) : Int) = 1 from rfl]
      go_wp2
      go_loopw [12, 29] (fun v sj wr => v = .slice none 0 0 ∧ ∃ j : Nat, j ≤ 3 ∧ sj = .int .i64 j ∧ Hid (CkI w a gn w.heap.size 55 198 (.slice (some ⟨a.opr, 0, none⟩) 2 2) (.func (.func 111) #[] #[.pointer (some ⟨gn, 0, none⟩)]) (.func (.func 113) #[] #[]) (.func (.func 139) #[] #[.pointer (some ⟨w.heap.size + 1, 0, none⟩)]) (.func (.func 140) #[] #[.pointer (some ⟨w.heap.size + 1, 0, none⟩)]) (.func (.func 141) #[] #[.pointer (some ⟨w.heap.size + 1 + 1, 0, none⟩), .pointer (some ⟨w.heap.size, 0, none⟩)]) wr)) (fun _ sj _ => 3 - (intOf sj).toNat)
      case atStart => exact ⟨rfl, 0, by decide, rfl, HI⟩
      case round =>
        clear HI x7 y0 y1 y2
        obtain ⟨rfl, j, hj, rfl, HJ⟩ := hrel
        have hj3 : j = 0 ∨ j = 1 ∨ j = 2 ∨ j = 3 := by omega
        rcases hj3 with rfl | rfl | rfl | hlast
        · have q : Sem.run Tryz.prog (Instr.index 215 (.agg #[.func (.func 139) #[] #[.pointer (some ⟨w.heap.size + 1, 0, none⟩)], .func (.func 140) #[] #[.pointer (some ⟨w.heap.size + 1, 0, none⟩)], .func (.func 141) #[] #[.pointer (some ⟨w.heap.size + 1 + 1, 0, none⟩), .pointer (some ⟨w.heap.size, 0, none⟩)]]) (.int .i64 0)) wr = .ok (.func (.func 139) #[] #[.pointer (some ⟨w.heap.size + 1, 0, none⟩)]) wr := run_index_arr wr (j := 0) und215 (by kernel_rfl) (fun w => by kernel_rfl) (by decide) rfl
          go_wp2_with (go_at_call 139; refine Stop.out ?_)
          refine Stop.go (r1Opr1_c w a gn w.heap.size _ _ HJ ?_)
          intro W' hb
          have HJ2 := hide (HJ.out.next hb)
          clear hb q
          go_wp2
          go_roundw
          case rel => exact ⟨rfl, 1, by omega, by go_num, HJ2⟩
          case measure => simp [intOf]
        · have q : Sem.run Tryz.prog (Instr.index 215 (.agg #[.func (.func 139) #[] #[.pointer (some ⟨w.heap.size + 1, 0, none⟩)], .func (.func 140) #[] #[.pointer (some ⟨w.heap.size + 1, 0, none⟩)], .func (.func 141) #[] #[.pointer (some ⟨w.heap.size + 1 + 1, 0, none⟩), .pointer (some ⟨w.heap.size, 0, none⟩)]]) (.int .i64 1)) wr = .ok (.func (.func 140) #[] #[.pointer (some ⟨w.heap.size + 1, 0, none⟩)]) wr := run_index_arr wr (j := 1) und215 (by kernel_rfl) (fun w => by kernel_rfl) (by decide) rfl
          go_wp2_with (go_at_call 140; refine Stop.out ?_)
          refine Stop.go (r2Opr1_c w a gn w.heap.size _ _ HJ ?_)
          intro W' hb
          have HJ2 := hide (HJ.out.next hb)
          clear hb q
          go_wp2
          go_roundw
          case rel => exact ⟨rfl, 2, by omega, by go_num, HJ2⟩
          case measure => simp [intOf]
        · have q : Sem.run Tryz.prog (Instr.index 215 (.agg #[.func (.func 139) #[] #[.pointer (some ⟨w.heap.size + 1, 0, none⟩)], .func (.func 140) #[] #[.pointer (some ⟨w.heap.size + 1, 0, none⟩)], .func (.func 141) #[] #[.pointer (some ⟨w.heap.size + 1 + 1, 0, none⟩), .pointer (some ⟨w.heap.size, 0, none⟩)]]) (.int .i64 2)) wr = .ok (.func (.func 141) #[] #[.pointer (some ⟨w.heap.size + 1 + 1, 0, none⟩), .pointer (some ⟨w.heap.size, 0, none⟩)]) wr := run_index_arr wr (j := 2) und215 (by kernel_rfl) (fun w => by kernel_rfl) (by decide) rfl
          go_wp2_with (go_at_call 141; refine Stop.out ?_)
          refine Stop.go (r3Opr1_c w a gn w.heap.size _ _ HJ ?_)
          intro W' hb
          have HJ2 := hide (HJ.out.next hb)
          clear hb q
          go_wp2
          go_roundw
          case rel => exact ⟨rfl, 3, by omega, by go_num, HJ2⟩
          case measure => simp [intOf]
        · have hjI : ¬ (j : Int) < 3 := by omega
          clear hj hlast
          go_wp2
          go_roundw
          case rel => exact ⟨rfl, 2, by omega, by go_num, HJ⟩
          case measure => simp [intOf]
    · have hiI : ¬ (i : Int) < 2 := by omega
      have HF := hide (HR.out _ HI.out.below)
      clear hi hlast
      go_wp2
      exact HF.out
set_option maxRecDepth 100000 in
set_option maxHeartbeats 8000000 in
theorem checkOff_c (a : Net) (gn : Nat) (w : World) (R) (hk : KwAt w) (hB : Blk w gn #[.slice (some ⟨a.cal, 0, none⟩) 1 1, .slice (some ⟨a.nam, 0, none⟩) 1 1, .slice (some ⟨a.opr, 0, none⟩) 2 2, .slice (some ⟨a.off, 0, none⟩) 2 2, .slice (some ⟨a.lin, 0, none⟩) 2 2, .slice (some ⟨a.cls, 0, none⟩) 1 1] 60) (hN : NetAt w a) (hR : ∀ w', Below w.heap.size w w' → R (.returned (.slice none 0 0)) w') : Calls Tryz.prog 115 #[.int .i64 3, .int .i64 12, .slice (some ⟨a.off, 0, none⟩) 2 2, .func (.func 114) #[] #[.pointer (some ⟨gn, 0, none⟩)], .func (.func 116) #[] #[.pointer (some ⟨gn, 0, none⟩)]] w R := by
  have HR := hide hR
  obtain ⟨w1, hw1⟩ : ∃ w1, (((w.alloc (.cells #[.slice (some ⟨a.off, 0, none⟩) 2 2] 56)).alloc (.cells #[.func (.func 114) #[] #[.pointer (some ⟨gn, 0, none⟩)]] 169)).alloc (.cells #[.func (.func 116) #[] #[.pointer (some ⟨gn, 0, none⟩)]] 201)).alloc (.cells #[.func (.func 142) #[] #[.pointer (some ⟨w.heap.size + 1, 0, none⟩)], .func (.func 143) #[] #[.pointer (some ⟨w.heap.size + 1, 0, none⟩)], .func (.func 144) #[] #[.pointer (some ⟨w.heap.size + 1 + 1, 0, none⟩), .pointer (some ⟨w.heap.size, 0, none⟩)]] 215) = w1 := ⟨_, rfl⟩
  have hb1 : Below w.heap.size w w1 := hw1 ▸ balloc (balloc (balloc (balloc (Below.refl _ _) _) _) _) _
  have HI := hide (show CkI w a gn w.heap.size 56 201 (.slice (some ⟨a.off, 0, none⟩) 2 2) (.func (.func 114) #[] #[.pointer (some ⟨gn, 0, none⟩)]) (.func (.func 116) #[] #[.pointer (some ⟨gn, 0, none⟩)]) (.func (.func 142) #[] #[.pointer (some ⟨w.heap.size + 1, 0, none⟩)]) (.func (.func 143) #[] #[.pointer (some ⟨w.heap.size + 1, 0, none⟩)]) (.func (.func 144) #[] #[.pointer (some ⟨w.heap.size + 1 + 1, 0, none⟩), .pointer (some ⟨w.heap.size, 0, none⟩)]) w1 from ⟨hb1, hk.next hb1, hB.next hb1, hN.next hb1, by rw [← hw1]; repeat (first | exact Blk.new_at (by simp) | refine Blk.alloc ?_ _), by rw [← hw1]; repeat (first | exact Blk.new_at (by simp) | refine Blk.alloc ?_ _), by rw [← hw1]; repeat (first | exact Blk.new_at (by simp) | refine Blk.alloc ?_ _), by rw [← hw1]; repeat (first | exact Blk.new_at (by simp) | refine Blk.alloc ?_ _)⟩)
  have x7 := HI.out.b7.cell (k := 0) rfl
  clear hR hk hB hN hb1
  have hmin : min (2 : Int) 12 = 2 := by decide
  go_enter Tryz.func115, Tryz.ntmps115
  go_wp2
  clear hmin
  clear hw1 x7
  go_loopw [12, 25] (fun v si wr => v = .slice none 0 0 ∧ ∃ i : Nat, i ≤ 2 ∧ si = .int .i64 i ∧ Hid (CkI w a gn w.heap.size 56 201 (.slice (some ⟨a.off, 0, none⟩) 2 2) (.func (.func 114) #[] #[.pointer (some ⟨gn, 0, none⟩)]) (.func (.func 116) #[] #[.pointer (some ⟨gn, 0, none⟩)]) (.func (.func 142) #[] #[.pointer (some ⟨w.heap.size + 1, 0, none⟩)]) (.func (.func 143) #[] #[.pointer (some ⟨w.heap.size + 1, 0, none⟩)]) (.func (.func 144) #[] #[.pointer (some ⟨w.heap.size + 1 + 1, 0, none⟩), .pointer (some ⟨w.heap.size, 0, none⟩)]) wr)) (fun _ si _ => 2 - (intOf si).toNat)
  case atStart => exact ⟨rfl, 0, by decide, rfl, HI⟩
  case round =>
    clear HI
    obtain ⟨rfl, i, hi, rfl, HI⟩ := hrel
    have hi3 : i = 0 ∨ i = 1 ∨ i = 2 := by omega
    have x7 := HI.out.b7.cell (k := 0) rfl
    have y0 := HI.out.b11.cell (k := 0) rfl; have y1 := HI.out.b11.cell (k := 1) rfl; have y2 := HI.out.b11.cell (k := 2) rfl
    rcases hi3 with rfl | rfl | hlast
    · rw [show ((0 : Nat) : Int) = 0 from rfl]
      go_wp2
      go_loopw [12, 29] (fun v sj wr => v = .slice none 0 0 ∧ ∃ j : Nat, j ≤ 3 ∧ sj = .int .i64 j ∧ Hid (CkI w a gn w.heap.size 56 201 (.slice (some ⟨a.off, 0, none⟩) 2 2) (.func (.func 114) #[] #[.pointer (some ⟨gn, 0, none⟩)]) (.func (.func 116) #[] #[.pointer (some ⟨gn, 0, none⟩)]) (.func (.func 142) #[] #[.pointer (some ⟨w.heap.size + 1, 0, none⟩)]) (.func (.func 143) #[] #[.pointer (some ⟨w.heap.size + 1, 0, none⟩)]) (.func (.func 144) #[] #[.pointer (some ⟨w.heap.size + 1 + 1, 0, none⟩), .pointer (some ⟨w.heap.size, 0, none⟩)]) wr)) (fun _ sj _ => 3 - (intOf sj).toNat)
      case atStart => exact ⟨rfl, 0, by decide, rfl, HI⟩
      case round =>
        clear HI x7 y0 y1 y2
        obtain ⟨rfl, j, hj, rfl, HJ⟩ := hrel
        have hj3 : j = 0 ∨ j = 1 ∨ j = 2 ∨ j = 3 := by omega
        rcases hj3 with rfl | rfl | rfl | hlast
        · have q : Sem.run Tryz.prog (Instr.index 215 (.agg #[.func (.func 142) #[] #[.pointer (some ⟨w.heap.size + 1, 0, none⟩)], .func (.func 143) #[] #[.pointer (some ⟨w.heap.size + 1, 0, none⟩)], .func (.func 144) #[] #[.pointer (some ⟨w.heap.size + 1 + 1, 0, none⟩), .pointer (some ⟨w.heap.size, 0, none⟩)]]) (.int .i64 0)) wr = .ok (.func (.func 142) #[] #[.pointer (some ⟨w.heap.size + 1, 0, none⟩)]) wr := run_index_arr wr (j := 0) und215 (by kernel_rfl) (fun w => by kernel_rfl) (by decide) rfl
          go_wp2_with (go_at_call 142; refine Stop.out ?_)
          refine Stop.go (r1Off0_c w a gn w.heap.size _ _ HJ ?_)
          intro W' hb
          have HJ2 := hide (HJ.out.next hb)
          clear hb q
          go_wp2
          go_roundw
          case rel => exact ⟨rfl, 1, by omega, by go_num, HJ2⟩
          case measure => simp [intOf]
        · have q : Sem.run Tryz.prog (Instr.index 215 (.agg #[.func (.func 142) #[] #[.pointer (some ⟨w.heap.size + 1, 0, none⟩)], .func (.func 143) #[] #[.pointer (some ⟨w.heap.size + 1, 0, none⟩)], .func (.func 144) #[] #[.pointer (some ⟨w.heap.size + 1 + 1, 0, none⟩), .pointer (some ⟨w.heap.size, 0, none⟩)]]) (.int .i64 1)) wr = .ok (.func (.func 143) #[] #[.pointer (some ⟨w.heap.size + 1, 0, none⟩)]) wr := run_index_arr wr (j := 1) und215 (by kernel_rfl) (fun w => by kernel_rfl) (by decide) rfl
          go_wp2_with (go_at_call 143; refine Stop.out ?_)
          refine Stop.go (r2Off0_c w a gn w.heap.size _ _ HJ ?_)
          intro W' hb
          have HJ2 := hide (HJ.out.next hb)
          clear hb q
          go_wp2
          go_roundw
          case rel => exact ⟨rfl, 2, by omega, by go_num, HJ2⟩
          case measure => simp [intOf]
        · have q : Sem.run Tryz.prog (Instr.index 215 (.agg #[.func (.func 142) #[] #[.pointer (some ⟨w.heap.size + 1, 0, none⟩)], .func (.func 143) #[] #[.pointer (some ⟨w.heap.size + 1, 0, none⟩)], .func (.func 144) #[] #[.pointer (some ⟨w.heap.size + 1 + 1, 0, none⟩), .pointer (some ⟨w.heap.size, 0, none⟩)]]) (.int .i64 2)) wr = .ok (.func (.func 144) #[] #[.pointer (some ⟨w.heap.size + 1 + 1, 0, none⟩), .pointer (some ⟨w.heap.size, 0, none⟩)]) wr := run_index_arr wr (j := 2) und215 (by kernel_rfl) (fun w => by kernel_rfl) (by decide) rfl
          go_wp2_with (go_at_call 144; refine Stop.out ?_)
          refine Stop.go (r3Off0_c w a gn w.heap.size _ _ HJ ?_)
          intro W' hb
          have HJ2 := hide (HJ.out.next hb)
          clear hb q
          go_wp2
          go_roundw
          case rel => exact ⟨rfl, 3, by omega, by go_num, HJ2⟩
          case measure => simp [intOf]
        · have hjI : ¬ (j : Int) < 3 := by omega
          clear hj hlast
          go_wp2
          go_roundw
          case rel => exact ⟨rfl, 1, by omega, by go_num, HJ⟩
          case measure => simp [intOf]
    · rw [show ((1 : Nat) : Int) = 1 from rfl]
      go_wp2
      go_loopw [12, 29] (fun v sj wr => v = .slice none 0 0 ∧ ∃ j : Nat, j ≤ 3 ∧ sj = .int .i64 j ∧ Hid (CkI w a gn w.heap.size 56 201 (.slice (some ⟨a.off, 0, none⟩) 2 2) (.func (.func 114) #[] #[.pointer (some ⟨gn, 0, none⟩)]) (.func (.func 116) #[] #[.pointer (some ⟨gn, 0, none⟩)]) (.func (.func 142) #[] #[.pointer (some ⟨w.heap.size + 1, 0, none⟩)]) (.func (.func 143) #[] #[.pointer (some ⟨w.heap.size + 1, 0, none⟩)]) (.func (.func 144) #[] #[.pointer (some ⟨w.heap.size + 1 + 1, 0, none⟩), .pointer (some ⟨w.heap.size, 0, none⟩)]) wr)) (fun _ sj _ => 3 - (intOf sj).toNat)
      case atStart => exact ⟨rfl, 0, by decide, rfl, HI⟩
      case round =>
        clear HI x7 y0 y1 y2
        obtain ⟨rfl, j, hj, rfl, HJ⟩ := hrel
        have hj3 : j = 0 ∨ j = 1 ∨ j = 2 ∨ j = 3 := by omega
        rcases hj3 with rfl | rfl | rfl | hlast
        · have q : Sem.run Tryz.prog (Instr.index 215 (.agg #[.func (.func 142) #[] #[.pointer (some ⟨w.heap.size + 1, 0, none⟩)], .func (.func 143) #[] #[.pointer (some ⟨w.heap.size + 1, 0, none⟩)], .func (.func 144) #[] #[.pointer (some ⟨w.heap.size + 1 + 1, 0, none⟩), .pointer (some ⟨w.heap.size, 0, none⟩)]]) (.int .i64 0)) wr = .ok (.func (.func 142) #[] #[.pointer (some ⟨w.heap.size + 1, 0, none⟩)]) wr := run_index_arr wr (j := 0) und215 (by kernel_rfl) (fun w => by kernel_rfl) (by decide) rfl
          go_wp2_with (go_at_call 142; refine Stop.out ?_)
          refine Stop.go (r1Off1_c w a gn w.heap.size _ _ HJ ?_)
          intro W' hb
          have HJ2 := hide (HJ.out.next hb)
          clear hb q
          go_wp2
          go_roundw
          case rel => exact ⟨rfl, 1, by omega, by go_num, HJ2⟩
          case measure => simp [intOf]
        · have q : Sem.run Tryz.prog (Instr.index 215 (.agg #[.func (.func 142) #[] #[.pointer (some ⟨w.heap.size + 1, 0, none⟩)], .func (.func 143) #[] #[.pointer (some ⟨w.heap.size + 1, 0, none⟩)], .func (.func 144) #[] #[.pointer (some ⟨w.heap.size + 1 + 1, 0, none⟩), .pointer (some ⟨w.heap.size, 0, none⟩)]]) (.int .i64 1)) wr = .ok (.func (.func 143) #[] #[.pointer (some ⟨w.heap.size + 1, 0, none⟩)]) wr := run_index_arr wr (j := 1) und215 (by kernel_rfl) (fun w => by kernel_rfl) (by decide) rfl
          go_wp2_with (go_at_call 143; refine Stop.out ?_)
          refine Stop.go (r2Off1_c w a gn w.heap.size _ _ HJ ?_)
          intro W' hb
          have HJ2 := hide (HJ.out.next hb)
          clear hb q
          go_wp2
          go_roundw
          case rel => exact ⟨rfl, 2, by omega, by go_num, HJ2⟩
          case measure => simp [intOf]
        · have q : Sem.run Tryz.prog (Instr.index 215 (.agg #[.func (.func 142) #[] #[.pointer (some ⟨w.heap.size + 1, 0, none⟩)], .func (.func 143) #[] #[.pointer (some ⟨w.heap.size + 1, 0, none⟩)], .func (.func 144) #[] #[.pointer (some ⟨w.heap.size + 1 + 1, 0, none⟩), .pointer (some ⟨w.heap.size, 0, none⟩)]]) (.int .i64 2)) wr = .ok (.func (.func 144) #[] #[.pointer (some ⟨w.heap.size + 1 + 1, 0, none⟩), .pointer (some ⟨w.heap.size, 0, none⟩)]) wr := run_index_arr wr (j := 2) und215 (by kernel_rfl) (fun w => by kernel_rfl) (by decide) rfl
          go_wp2_with (go_at_call 144; refine Stop.out ?_)
          refine Stop.go (r3Off1_c w a gn w.heap.size _ _ HJ ?_)
          intro W' hb
          have HJ2 := hide (HJ.out.next hb)
          clear hb q
          go_wp2
          go_roundw
          case rel => exact ⟨rfl, 3, by omega, by go_num, HJ2⟩
          case measure => simp [intOf]
        · have hjI : ¬ (j : Int) < 3 := by omega
          clear hj hlast
          go_wp2
          go_roundw
          case rel => exact ⟨rfl, 2, by omega, by go_num, HJ⟩
          case measure => simp [intOf]
    · have hiI : ¬ (i : Int) < 2 := by omega
      have HF := hide (HR.out _ HI.out.below)
      clear hi hlast
      go_wp2
      exact HF.out
set_option maxRecDepth 100000 in
set_option maxHeartbeats 8000000 in
theorem checkLin_c (a : Net) (gn : Nat) (w : World) (R) (hk : KwAt w) (hB : Blk w gn #[.slice (some ⟨a.cal, 0, none⟩) 1 1, .slice (some ⟨a.nam, 0, none⟩) 1 1, .slice (some ⟨a.opr, 0, none⟩) 2 2, .slice (some ⟨a.off, 0, none⟩) 2 2, .slice (some ⟨a.lin, 0, none⟩) 2 2, .slice (some ⟨a.cls, 0, none⟩) 1 1] 60) (hN : NetAt w a) (hR : ∀ w', Below w.heap.size w w' → R (.returned (.slice none 0 0)) w') : Calls Tryz.prog 119 #[.int .i64 4, .int .i64 40, .slice (some ⟨a.lin, 0, none⟩) 2 2, .func (.func 118) #[] #[.pointer (some ⟨gn, 0, none⟩)], .func (.func 120) #[] #[.pointer (some ⟨gn, 0, none⟩)]] w R := by
  have HR := hide hR
  obtain ⟨w1, hw1⟩ : ∃ w1, (((w.alloc (.cells #[.slice (some ⟨a.lin, 0, none⟩) 2 2] 57)).alloc (.cells #[.func (.func 118) #[] #[.pointer (some ⟨gn, 0, none⟩)]] 169)).alloc (.cells #[.func (.func 120) #[] #[.pointer (some ⟨gn, 0, none⟩)]] 204)).alloc (.cells #[.func (.func 149) #[] #[.pointer (some ⟨w.heap.size + 1, 0, none⟩)], .func (.func 150) #[] #[.pointer (some ⟨w.heap.size + 1, 0, none⟩)], .func (.func 151) #[] #[.pointer (some ⟨w.heap.size + 1 + 1, 0, none⟩), .pointer (some ⟨w.heap.size, 0, none⟩)]] 215) = w1 := ⟨_, rfl⟩
  have hb1 : Below w.heap.size w w1 := hw1 ▸ balloc (balloc (balloc (balloc (Below.refl _ _) _) _) _) _
  have HI := hide (show CkI w a gn w.heap.size 57 204 (.slice (some ⟨a.lin, 0, none⟩) 2 2) (.func (.func 118) #[] #[.pointer (some ⟨gn, 0, none⟩)]) (.func (.func 120) #[] #[.pointer (some ⟨gn, 0, none⟩)]) (.func (.func 149) #[] #[.pointer (some ⟨w.heap.size + 1, 0, none⟩)]) (.func (.func 150) #[] #[.pointer (some ⟨w.heap.size + 1, 0, none⟩)]) (.func (.func 151) #[] #[.pointer (some ⟨w.heap.size + 1 + 1, 0, none⟩), .pointer (some ⟨w.heap.size, 0, none⟩)]) w1 from ⟨hb1, hk.next hb1, hB.next hb1, hN.next hb1, by rw [← hw1]; repeat (first | exact Blk.new_at (by simp) | refine Blk.alloc ?_ _), by rw [← hw1]; repeat (first | exact Blk.new_at (by simp) | refine Blk.alloc ?_ _), by rw [← hw1]; repeat (first | exact Blk.new_at (by simp) | refine Blk.alloc ?_ _), by rw [← hw1]; repeat (first | exact Blk.new_at (by simp) | refine Blk.alloc ?_ _)⟩)
  have x7 := HI.out.b7.cell (k := 0) rfl
  clear hR hk hB hN hb1
  have hmin : min (2 : Int) 40 = 2 := by decide
  go_enter Tryz.func119, Tryz.ntmps119
  go_wp2
  clear hmin
  clear hw1 x7
  go_loopw [12, 25] (fun v si wr => v = .slice none 0 0 ∧ ∃ i : Nat, i ≤ 2 ∧ si = .int .i64 i ∧ Hid (CkI w a gn w.heap.size 57 204 (.slice (some ⟨a.lin, 0, none⟩) 2 2) (.func (.func 118) #[] #[.pointer (some ⟨gn, 0, none⟩)]) (.func (.func 120) #[] #[.pointer (some ⟨gn, 0, none⟩)]) (.func (.func 149) #[] #[.pointer (some ⟨w.heap.size + 1, 0, none⟩)]) (.func (.func 150) #[] #[.pointer (some ⟨w.heap.size + 1, 0, none⟩)]) (.func (.func 151) #[] #[.pointer (some ⟨w.heap.size + 1 + 1, 0, none⟩), .pointer (some ⟨w.heap.size, 0, none⟩)]) wr)) (fun _ si _ => 2 - (intOf si).toNat)
  case atStart => exact ⟨rfl, 0, by decide, rfl, HI⟩
  case round =>
    clear HI
    obtain ⟨rfl, i, hi, rfl, HI⟩ := hrel
    have hi3 : i = 0 ∨ i = 1 ∨ i = 2 := by omega
    have x7 := HI.out.b7.cell (k := 0) rfl
    have y0 := HI.out.b11.cell (k := 0) rfl; have y1 := HI.out.b11.cell (k := 1) rfl; have y2 := HI.out.b11.cell (k := 2) rfl
    rcases hi3 with rfl | rfl | hlast
    · rw [show ((0 : Nat) : Int) = 0 from rfl]
      go_wp2
      go_loopw [12, 29] (fun v sj wr => v = .slice none 0 0 ∧ ∃ j : Nat, j ≤ 3 ∧ sj = .int .i64 j ∧ Hid (CkI w a gn w.heap.size 57 204 (.slice (some ⟨a.lin, 0, none⟩) 2 2) (.func (.func 118) #[] #[.pointer (some ⟨gn, 0, none⟩)]) (.func (.func 120) #[] #[.pointer (some ⟨gn, 0, none⟩)]) (.func (.func 149) #[] #[.pointer (some ⟨w.heap.size + 1, 0, none⟩)]) (.func (.func 150) #[] #[.pointer (some ⟨w.heap.size + 1, 0, none⟩)]) (.func (.func 151) #[] #[.pointer (some ⟨w.heap.size + 1 + 1, 0, none⟩), .pointer (some ⟨w.heap.size, 0, none⟩)]) wr)) (fun _ sj _ => 3 - (intOf sj).toNat)
      case atStart => exact ⟨rfl, 0, by decide, rfl, HI⟩
      case round =>
        clear HI x7 y0 y1 y2
        obtain ⟨rfl, j, hj, rfl, HJ⟩ := hrel
        have hj3 : j = 0 ∨ j = 1 ∨ j = 2 ∨ j = 3 := by omega
        rcases hj3 with rfl | rfl | rfl | hlast
        · have q : Sem.run Tryz.prog (Instr.index 215 (.agg #[.func (.func 149) #[] #[.pointer (some ⟨w.heap.size + 1, 0, none⟩)], .func (.func 150) #[] #[.pointer (some ⟨w.heap.size + 1, 0, none⟩)], .func (.func 151) #[] #[.pointer (some ⟨w.heap.size + 1 + 1, 0, none⟩), .pointer (some ⟨w.heap.size, 0, none⟩)]]) (.int .i64 0)) wr = .ok (.func (.func 149) #[] #[.pointer (some ⟨w.heap.size + 1, 0, none⟩)]) wr := run_index_arr wr (j := 0) und215 (by kernel_rfl) (fun w => by kernel_rfl) (by decide) rfl
          go_wp2_with (go_at_call 149; refine Stop.out ?_)
          refine Stop.go (r1Lin0_c w a gn w.heap.size _ _ HJ ?_)
          intro W' hb
          have HJ2 := hide (HJ.out.next hb)
          clear hb q
          go_wp2
          go_roundw
          case rel => exact ⟨rfl, 1, by omega, by go_num, HJ2⟩
          case measure => simp [intOf]
        · have q : Sem.run Tryz.prog (Instr.index 215 (.agg #[.func (.func 149) #[] #[.pointer (some ⟨w.heap.size + 1, 0, none⟩)], .func (.func 150) #[] #[.pointer (some ⟨w.heap.size + 1, 0, none⟩)], .func (.func 151) #[] #[.pointer (some ⟨w.heap.size + 1 + 1, 0, none⟩), .pointer (some ⟨w.heap.size, 0, none⟩)]]) (.int .i64 1)) wr = .ok (.func (.func 150) #[] #[.pointer (some ⟨w.heap.size + 1, 0, none⟩)]) wr := run_index_arr wr (j := 1) und215 (by kernel_rfl) (fun w => by kernel_rfl) (by decide) rfl
          go_wp2_with (go_at_call 150; refine Stop.out ?_)
          refine Stop.go (r2Lin0_c w a gn w.heap.size _ _ HJ ?_)
          intro W' hb
          have HJ2 := hide (HJ.out.next hb)
          clear hb q
          go_wp2
          go_roundw
          case rel => exact ⟨rfl, 2, by omega, by go_num, HJ2⟩
          case measure => simp [intOf]
        · have q : Sem.run Tryz.prog (Instr.index 215 (.agg #[.func (.func 149) #[] #[.pointer (some ⟨w.heap.size + 1, 0, none⟩)], .func (.func 150) #[] #[.pointer (some ⟨w.heap.size + 1, 0, none⟩)], .func (.func 151) #[] #[.pointer (some ⟨w.heap.size + 1 + 1, 0, none⟩), .pointer (some ⟨w.heap.size, 0, none⟩)]]) (.int .i64 2)) wr = .ok (.func (.func 151) #[] #[.pointer (some ⟨w.heap.size + 1 + 1, 0, none⟩), .pointer (some ⟨w.heap.size, 0, none⟩)]) wr := run_index_arr wr (j := 2) und215 (by kernel_rfl) (fun w => by kernel_rfl) (by decide) rfl
          go_wp2_with (go_at_call 151; refine Stop.out ?_)
          refine Stop.go (r3Lin0_c w a gn w.heap.size _ _ HJ ?_)
          intro W' hb
          have HJ2 := hide (HJ.out.next hb)
          clear hb q
          go_wp2
          go_roundw
          case rel => exact ⟨rfl, 3, by omega, by go_num, HJ2⟩
          case measure => simp [intOf]
        · have hjI : ¬ (j : Int) < 3 := by omega
          clear hj hlast
          go_wp2
          go_roundw
          case rel => exact ⟨rfl, 1, by omega, by go_num, HJ⟩
          case measure => simp [intOf]
    · rw [show ((1 : Nat) : Int) = 1 from rfl]
      go_wp2
      go_loopw [12, 29] (fun v sj wr => v = .slice none 0 0 ∧ ∃ j : Nat, j ≤ 3 ∧ sj = .int .i64 j ∧ Hid (CkI w a gn w.heap.size 57 204 (.slice (some ⟨a.lin, 0, none⟩) 2 2) (.func (.func 118) #[] #[.pointer (some ⟨gn, 0, none⟩)]) (.func (.func 120) #[] #[.pointer (some ⟨gn, 0, none⟩)]) (.func (.func 149) #[] #[.pointer (some ⟨w.heap.size + 1, 0, none⟩)]) (.func (.func 150) #[] #[.pointer (some ⟨w.heap.size + 1, 0, none⟩)]) (.func (.func 151) #[] #[.pointer (some ⟨w.heap.size + 1 + 1, 0, none⟩), .pointer (some ⟨w.heap.size, 0, none⟩)]) wr)) (fun _ sj _ => 3 - (intOf sj).toNat)
      case atStart => exact ⟨rfl, 0, by decide, rfl, HI⟩
      case round =>
        clear HI x7 y0 y1 y2
        obtain ⟨rfl, j, hj, rfl, HJ⟩ := hrel
        have hj3 : j = 0 ∨ j = 1 ∨ j = 2 ∨ j = 3 := by omega
        rcases hj3 with rfl | rfl | rfl | hlast
        · have q : Sem.run Tryz.prog (Instr.index 215 (.agg #[.func (.func 149) #[] #[.pointer (some ⟨w.heap.size + 1, 0, none⟩)], .func (.func 150) #[] #[.pointer (some ⟨w.heap.size + 1, 0, none⟩)], .func (.func 151) #[] #[.pointer (some ⟨w.heap.size + 1 + 1, 0, none⟩), .pointer (some ⟨w.heap.size, 0, none⟩)]]) (.int .i64 0)) wr = .ok (.func (.func 149) #[] #[.pointer (some ⟨w.heap.size + 1, 0, none⟩)]) wr := run_index_arr wr (j := 0) und215 (by kernel_rfl) (fun w => by kernel_rfl) (by decide) rfl
          go_wp2_with (go_at_call 149; refine Stop.out ?_)
          refine Stop.go (r1Lin1_c w a gn w.heap.size _ _ HJ ?_)
          intro W' hb
          have HJ2 := hide (HJ.out.next hb)
          clear hb q
          go_wp2
          go_roundw
          case rel => exact ⟨rfl, 1, by omega, by go_num, HJ2⟩
          case measure => simp [intOf]
        · have q : Sem.run Tryz.prog (Instr.index 215 (.agg #[.func (.func 149) #[] #[.pointer (some ⟨w.heap.size + 1, 0, none⟩)], .func (.func 150) #[] #[.pointer (some ⟨w.heap.size + 1, 0, none⟩)], .func (.func 151) #[] #[.pointer (some ⟨w.heap.size + 1 + 1, 0, none⟩), .pointer (some ⟨w.heap.size, 0, none⟩)]]) (.int .i64 1)) wr = .ok (.func (.func 150) #[] #[.pointer (some ⟨w.heap.size + 1, 0, none⟩)]) wr := run_index_arr wr (j := 1) und215 (by kernel_rfl) (fun w => by kernel_rfl) (by decide) rfl
          go_wp2_with (go_at_call 150; refine Stop.out ?_)
          refine Stop.go (r2Lin1_c w a gn w.heap.size _ _ HJ ?_)
          intro W' hb
          have HJ2 := hide (HJ.out.next hb)
          clear hb q
          go_wp2
          go_roundw
          case rel => exact ⟨rfl, 2, by omega, by go_num, HJ2⟩
          case measure => simp [intOf]
        · have q : Sem.run Tryz.prog (Instr.index 215 (.agg #[.func (.func 149) #[] #[.pointer (some ⟨w.heap.size + 1, 0, none⟩)], .func (.func 150) #[] #[.pointer (some ⟨w.heap.size + 1, 0, none⟩)], .func (.func 151) #[] #[.pointer (some ⟨w.heap.size + 1 + 1, 0, none⟩), .pointer (some ⟨w.heap.size, 0, none⟩)]]) (.int .i64 2)) wr = .ok (.func (.func 151) #[] #[.pointer (some ⟨w.heap.size + 1 + 1, 0, none⟩), .pointer (some ⟨w.heap.size, 0, none⟩)]) wr := run_index_arr wr (j := 2) und215 (by kernel_rfl) (fun w => by kernel_rfl) (by decide) rfl
          go_wp2_with (go_at_call 151; refine Stop.out ?_)
          refine Stop.go (r3Lin1_c w a gn w.heap.size _ _ HJ ?_)
          intro W' hb
          have HJ2 := hide (HJ.out.next hb)
          clear hb q
          go_wp2
          go_roundw
          case rel => exact ⟨rfl, 3, by omega, by go_num, HJ2⟩
          case measure => simp [intOf]
        · have hjI : ¬ (j : Int) < 3 := by omega
          clear hj hlast
          go_wp2
          go_roundw
          case rel => exact ⟨rfl, 2, by omega, by go_num, HJ⟩
          case measure => simp [intOf]
    · have hiI : ¬ (i : Int) < 2 := by omega
      have HF := hide (HR.out _ HI.out.below)
      clear hi hlast
      go_wp2
      exact HF.out
set_option maxRecDepth 100000 in
set_option maxHeartbeats 8000000 in
theorem checkCls_c (a : Net) (gn : Nat) (w : World) (R) (hk : KwAt w) (hB : Blk w gn #[.slice (some ⟨a.cal, 0, none⟩) 1 1, .slice (some ⟨a.nam, 0, none⟩) 1 1, .slice (some ⟨a.opr, 0, none⟩) 2 2, .slice (some ⟨a.off, 0, none⟩) 2 2, .slice (some ⟨a.lin, 0, none⟩) 2 2, .slice (some ⟨a.cls, 0, none⟩) 1 1] 60) (hN : NetAt w a) (hR : ∀ w', Below w.heap.size w w' → R (.returned (.slice none 0 0)) w') : Calls Tryz.prog 123 #[.int .i64 5, .int .i64 4, .slice (some ⟨a.cls, 0, none⟩) 1 1, .func (.func 122) #[] #[.pointer (some ⟨gn, 0, none⟩)], .func (.func 124) #[] #[]] w R := by
  have HR := hide hR
  obtain ⟨w1, hw1⟩ : ∃ w1, (((w.alloc (.cells #[.slice (some ⟨a.cls, 0, none⟩) 1 1] 58)).alloc (.cells #[.func (.func 122) #[] #[.pointer (some ⟨gn, 0, none⟩)]] 169)).alloc (.cells #[.func (.func 124) #[] #[]] 206)).alloc (.cells #[.func (.func 153) #[] #[.pointer (some ⟨w.heap.size + 1, 0, none⟩)], .func (.func 154) #[] #[.pointer (some ⟨w.heap.size + 1, 0, none⟩)], .func (.func 155) #[] #[.pointer (some ⟨w.heap.size + 1 + 1, 0, none⟩), .pointer (some ⟨w.heap.size, 0, none⟩)]] 215) = w1 := ⟨_, rfl⟩
  have hb1 : Below w.heap.size w w1 := hw1 ▸ balloc (balloc (balloc (balloc (Below.refl _ _) _) _) _) _
  have HI := hide (show CkI w a gn w.heap.size 58 206 (.slice (some ⟨a.cls, 0, none⟩) 1 1) (.func (.func 122) #[] #[.pointer (some ⟨gn, 0, none⟩)]) (.func (.func 124) #[] #[]) (.func (.func 153) #[] #[.pointer (some ⟨w.heap.size + 1, 0, none⟩)]) (.func (.func 154) #[] #[.pointer (some ⟨w.heap.size + 1, 0, none⟩)]) (.func (.func 155) #[] #[.pointer (some ⟨w.heap.size + 1 + 1, 0, none⟩), .pointer (some ⟨w.heap.size, 0, none⟩)]) w1 from ⟨hb1, hk.next hb1, hB.next hb1, hN.next hb1, by rw [← hw1]; repeat (first | exact Blk.new_at (by simp) | refine Blk.alloc ?_ _), by rw [← hw1]; repeat (first | exact Blk.new_at (by simp) | refine Blk.alloc ?_ _), by rw [← hw1]; repeat (first | exact Blk.new_at (by simp) | refine Blk.alloc ?_ _), by rw [← hw1]; repeat (first | exact Blk.new_at (by simp) | refine Blk.alloc ?_ _)⟩)
  have x7 := HI.out.b7.cell (k := 0) rfl
  clear hR hk hB hN hb1
  have hmin : min (1 : Int) 4 = 1 := by decide
  go_enter Tryz.func123, Tryz.ntmps123
  go_wp2
  clear hmin
  clear hw1 x7
  go_loopw [12, 25] (fun v si wr => v = .slice none 0 0 ∧ ∃ i : Nat, i ≤ 1 ∧ si = .int .i64 i ∧ Hid (CkI w a gn w.heap.size 58 206 (.slice (some ⟨a.cls, 0, none⟩) 1 1) (.func (.func 122) #[] #[.pointer (some ⟨gn, 0, none⟩)]) (.func (.func 124) #[] #[]) (.func (.func 153) #[] #[.pointer (some ⟨w.heap.size + 1, 0, none⟩)]) (.func (.func 154) #[] #[.pointer (some ⟨w.heap.size + 1, 0, none⟩)]) (.func (.func 155) #[] #[.pointer (some ⟨w.heap.size + 1 + 1, 0, none⟩), .pointer (some ⟨w.heap.size, 0, none⟩)]) wr)) (fun _ si _ => 1 - (intOf si).toNat)
  case atStart => exact ⟨rfl, 0, by decide, rfl, HI⟩
  case round =>
    clear HI
    obtain ⟨rfl, i, hi, rfl, HI⟩ := hrel
    have hi3 : i = 0 ∨ i = 1 := by omega
    have x7 := HI.out.b7.cell (k := 0) rfl
    have y0 := HI.out.b11.cell (k := 0) rfl; have y1 := HI.out.b11.cell (k := 1) rfl; have y2 := HI.out.b11.cell (k := 2) rfl
    rcases hi3 with rfl | hlast
    · rw [show ((0 : Nat) : Int) = 0 from rfl]
      go_wp2
      go_loopw [12, 29] (fun v sj wr => v = .slice none 0 0 ∧ ∃ j : Nat, j ≤ 3 ∧ sj = .int .i64 j ∧ Hid (CkI w a gn w.heap.size 58 206 (.slice (some ⟨a.cls, 0, none⟩) 1 1) (.func (.func 122) #[] #[.pointer (some ⟨gn, 0, none⟩)]) (.func (.func 124) #[] #[]) (.func (.func 153) #[] #[.pointer (some ⟨w.heap.size + 1, 0, none⟩)]) (.func (.func 154) #[] #[.pointer (some ⟨w.heap.size + 1, 0, none⟩)]) (.func (.func 155) #[] #[.pointer (some ⟨w.heap.size + 1 + 1, 0, none⟩), .pointer (some ⟨w.heap.size, 0, none⟩)]) wr)) (fun _ sj _ => 3 - (intOf sj).toNat)
      case atStart => exact ⟨rfl, 0, by decide, rfl, HI⟩
      case round =>
        clear HI x7 y0 y1 y2
        obtain ⟨rfl, j, hj, rfl, HJ⟩ := hrel
        have hj3 : j = 0 ∨ j = 1 ∨ j = 2 ∨ j = 3 := by omega
        rcases hj3 with rfl | rfl | rfl | hlast
        · have q : Sem.run Tryz.prog (Instr.index 215 (.agg #[.func (.func 153) #[] #[.pointer (some ⟨w.heap.size + 1, 0, none⟩)], .func (.func 154) #[] #[.pointer (some ⟨w.heap.size + 1, 0, none⟩)], .func (.func 155) #[] #[.pointer (some ⟨w.heap.size + 1 + 1, 0, none⟩), .pointer (some ⟨w.heap.size, 0, none⟩)]]) (.int .i64 0)) wr = .ok (.func (.func 153) #[] #[.pointer (some ⟨w.heap.size + 1, 0, none⟩)]) wr := run_index_arr wr (j := 0) und215 (by kernel_rfl) (fun w => by kernel_rfl) (by decide) rfl
          go_wp2_with (go_at_call 153; refine Stop.out ?_)
          refine Stop.go (r1Cls0_c w a gn w.heap.size _ _ HJ ?_)
          intro W' hb
          have HJ2 := hide (HJ.out.next hb)
          clear hb q
          go_wp2
          go_roundw
          case rel => exact ⟨rfl, 1, by omega, by go_num, HJ2⟩
          case measure => simp [intOf]
        · have q : Sem.run Tryz.prog (Instr.index 215 (.agg #[.func (.func 153) #[] #[.pointer (some ⟨w.heap.size + 1, 0, none⟩)], .func (.func 154) #[] #[.pointer (some ⟨w.heap.size + 1, 0, none⟩)], .func (.func 155) #[] #[.pointer (some ⟨w.heap.size + 1 + 1, 0, none⟩), .pointer (some ⟨w.heap.size, 0, none⟩)]]) (.int .i64 1)) wr = .ok (.func (.func 154) #[] #[.pointer (some ⟨w.heap.size + 1, 0, none⟩)]) wr := run_index_arr wr (j := 1) und215 (by kernel_rfl) (fun w => by kernel_rfl) (by decide) rfl
          go_wp2_with (go_at_call 154; refine Stop.out ?_)
          refine Stop.go (r2Cls0_c w a gn w.heap.size _ _ HJ ?_)
          intro W' hb
          have HJ2 := hide (HJ.out.next hb)
          clear hb q
          go_wp2
          go_roundw
          case rel => exact ⟨rfl, 2, by omega, by go_num, HJ2⟩
          case measure => simp [intOf]
        · have q : Sem.run Tryz.prog (Instr.index 215 (.agg #[.func (.func 153) #[] #[.pointer (some ⟨w.heap.size + 1, 0, none⟩)], .func (.func 154) #[] #[.pointer (some ⟨w.heap.size + 1, 0, none⟩)], .func (.func 155) #[] #[.pointer (some ⟨w.heap.size + 1 + 1, 0, none⟩), .pointer (some ⟨w.heap.size, 0, none⟩)]]) (.int .i64 2)) wr = .ok (.func (.func 155) #[] #[.pointer (some ⟨w.heap.size + 1 + 1, 0, none⟩), .pointer (some ⟨w.heap.size, 0, none⟩)]) wr := run_index_arr wr (j := 2) und215 (by kernel_rfl) (fun w => by kernel_rfl) (by decide) rfl
          go_wp2_with (go_at_call 155; refine Stop.out ?_)
          refine Stop.go (r3Cls0_c w a gn w.heap.size _ _ HJ ?_)
          intro W' hb
          have HJ2 := hide (HJ.out.next hb)
          clear hb q
          go_wp2
          go_roundw
          case rel => exact ⟨rfl, 3, by omega, by go_num, HJ2⟩
          case measure => simp [intOf]
        · have hjI : ¬ (j : Int) < 3 := by omega
          clear hj hlast
          go_wp2
          go_roundw
          case rel => exact ⟨rfl, 1, by omega, by go_num, HJ⟩
          case measure => simp [intOf]
    · have hiI : ¬ (i : Int) < 1 := by omega
      have HF := hide (HR.out _ HI.out.below)
      clear hi hlast
      go_wp2
      exact HF.out
end Go.Proofs.YtkabghifdedmfaaGreatDoor
