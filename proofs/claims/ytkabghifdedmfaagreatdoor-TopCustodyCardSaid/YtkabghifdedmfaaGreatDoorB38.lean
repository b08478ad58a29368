/- Survey: the network has no faults. The first departure of the fixed network's first line. -/
import Derived.Test.YtkabghifdedmfaaGreatDoorB36
import Derived.Test.YtkabghifdedmfaaGreatDoorB37
import Derived.Test.YtkabghifdedmfaaGreatDoorB34
import Derived.WalkMore
set_option linter.unusedVariables false
set_option linter.unusedSimpArgs false
namespace Go.Proofs.YtkabghifdedmfaaGreatDoor
open Go.RowKit Go.Sort Go.Shelf

theorem und158 : Tryz.prog.underlying 158 = some (.slice 183) := by kernel_rfl
theorem app_nn (w : World) : (Builtin.append_ #[158, 158] 158 #[.slice none 0 0, .slice none 0 0]).run Tryz.prog w = .ok (.slice none 0 0) w := by
  obtain ⟨i, hi⟩ : ∃ i, Tryz.prog.info? 183 = some i := Option.isSome_iff_exists.1 (by kernel_rfl)
  simp [Builtin.append_, run_underlying und158, sizeOf, typeInfo, hi, Builtin.lenOf, Builtin.firstCells]
theorem wpList_app_nn {w : World} {ops : Array Oper} {rest : List Oper} {o : Oper} {a : Act} {Q : Exit → Act → World → Prop} (hgd : o.guard = none) (s x : Operand)
    (ho : o.op = .call { callee := .builtin .append, args := #[s, x], argTypes := #[158, 158] }) (hty : o.type = 158) (hs : a.eval s = .slice none 0 0) (hx : a.eval x = .slice none 0 0)
    (h : wpList Tryz.prog ops Q rest (a.put o.dst (.slice none 0 0)) w) : wpList Tryz.prog ops Q (o :: rest) a w :=
  wpList_plain hgd fun K hK => by
    unfold Oper.wp execOp
    simp only [ho, hty, resolve, invoke, builtin, Sem.run_bind, Sem.run_pure, Result.andThen_ok, List.map_toArray, List.map_cons, List.map_nil, hs, hx, app_nn]
    exact hK _ _ h
set_option maxRecDepth 100000 in
set_option maxHeartbeats 4000000 in
theorem incons_c (a : Net) (w : World) (R) (hk : KwAt w) (hN : NetAt w a) (hR : ∀ w', Below w.heap.size w w' → R (.returned (.slice none 0 0)) w') : Calls Tryz.prog 94 #[.agg (netC a)] w R := by
  have HR := hide hR
  unfold netC
  obtain ⟨w1, hw1⟩ : ∃ w1, w.alloc (.cells #[.slice (some ⟨a.cal, 0, none⟩) 1 1, .slice (some ⟨a.nam, 0, none⟩) 1 1, .slice (some ⟨a.opr, 0, none⟩) 2 2, .slice (some ⟨a.off, 0, none⟩) 2 2, .slice (some ⟨a.lin, 0, none⟩) 2 2, .slice (some ⟨a.cls, 0, none⟩) 1 1] 60) = w1 := ⟨_, rfl⟩
  have hb1 : Below w.heap.size w w1 := hw1 ▸ balloc (Below.refl _ _) _
  have k1 : Blk w1 w.heap.size #[.slice (some ⟨a.cal, 0, none⟩) 1 1, .slice (some ⟨a.nam, 0, none⟩) 1 1, .slice (some ⟨a.opr, 0, none⟩) 2 2, .slice (some ⟨a.off, 0, none⟩) 2 2, .slice (some ⟨a.lin, 0, none⟩) 2 2, .slice (some ⟨a.cls, 0, none⟩) 1 1] 60 := hw1 ▸ Blk.new _ _ _
  have HI := hide (show KwAt w1 ∧ NetAt w1 a ∧ Blk w1 w.heap.size #[.slice (some ⟨a.cal, 0, none⟩) 1 1, .slice (some ⟨a.nam, 0, none⟩) 1 1, .slice (some ⟨a.opr, 0, none⟩) 2 2, .slice (some ⟨a.off, 0, none⟩) 2 2, .slice (some ⟨a.lin, 0, none⟩) 2 2, .slice (some ⟨a.cls, 0, none⟩) 1 1] 60 ∧ Below w.heap.size w w1 from ⟨hk.next hb1, hN.next hb1, k1, hb1⟩)
  have x0 := k1.cell (k := 0) rfl; have x1 := k1.cell (k := 1) rfl; have x2 := k1.cell (k := 2) rfl; have x3 := k1.cell (k := 3) rfl; have x4 := k1.cell (k := 4) rfl; have x5 := k1.cell (k := 5) rfl
  clear hR hk hN hb1 k1
  go_enter Tryz.func94, Tryz.ntmps94
  go_wp2_with (first | (at_builtin; refine wpList_app_nn rfl _ _ rfl rfl rfl rfl ?_) | (go_at_call 109; refine Stop.out ?_))
  refine Stop.go (checkCal_c a w.heap.size _ _ HI.out.1 HI.out.2.2.1 HI.out.2.1 ?_)
  intro w2 hb
  have HI0 := hide (show KwAt w2 ∧ NetAt w2 a ∧ Blk w2 w.heap.size #[.slice (some ⟨a.cal, 0, none⟩) 1 1, .slice (some ⟨a.nam, 0, none⟩) 1 1, .slice (some ⟨a.opr, 0, none⟩) 2 2, .slice (some ⟨a.off, 0, none⟩) 2 2, .slice (some ⟨a.lin, 0, none⟩) 2 2, .slice (some ⟨a.cls, 0, none⟩) 1 1] 60 ∧ Below w.heap.size w w2 from ⟨HI.out.1.next hb, HI.out.2.1.next hb, HI.out.2.2.1.next hb, bseq HI.out.2.2.2 hb⟩)
  clear hb hw1 x0 x1 x2 x3 x4 x5
  have x0 := HI0.out.2.2.1.cell (k := 0) rfl; have x1 := HI0.out.2.2.1.cell (k := 1) rfl; have x2 := HI0.out.2.2.1.cell (k := 2) rfl; have x3 := HI0.out.2.2.1.cell (k := 3) rfl; have x4 := HI0.out.2.2.1.cell (k := 4) rfl; have x5 := HI0.out.2.2.1.cell (k := 5) rfl
  go_wp2_with (first | (at_builtin; refine wpList_app_nn rfl _ _ rfl rfl rfl rfl ?_) | (go_at_call 112; refine Stop.out ?_))
  refine Stop.go (checkOpr_c a w.heap.size _ _ HI0.out.1 HI0.out.2.2.1 HI0.out.2.1 ?_)
  intro w3 hb
  have HI1 := hide (show KwAt w3 ∧ NetAt w3 a ∧ Blk w3 w.heap.size #[.slice (some ⟨a.cal, 0, none⟩) 1 1, .slice (some ⟨a.nam, 0, none⟩) 1 1, .slice (some ⟨a.opr, 0, none⟩) 2 2, .slice (some ⟨a.off, 0, none⟩) 2 2, .slice (some ⟨a.lin, 0, none⟩) 2 2, .slice (some ⟨a.cls, 0, none⟩) 1 1] 60 ∧ Below w.heap.size w w3 from ⟨HI0.out.1.next hb, HI0.out.2.1.next hb, HI0.out.2.2.1.next hb, bseq HI0.out.2.2.2 hb⟩)
  clear hb x0 x1 x2 x3 x4 x5
  have x0 := HI1.out.2.2.1.cell (k := 0) rfl; have x1 := HI1.out.2.2.1.cell (k := 1) rfl; have x2 := HI1.out.2.2.1.cell (k := 2) rfl; have x3 := HI1.out.2.2.1.cell (k := 3) rfl; have x4 := HI1.out.2.2.1.cell (k := 4) rfl; have x5 := HI1.out.2.2.1.cell (k := 5) rfl
  go_wp2_with (first | (at_builtin; refine wpList_app_nn rfl _ _ rfl rfl rfl rfl ?_) | (go_at_call 115; refine Stop.out ?_))
  refine Stop.go (checkOff_c a w.heap.size _ _ HI1.out.1 HI1.out.2.2.1 HI1.out.2.1 ?_)
  intro w4 hb
  have HI2 := hide (show KwAt w4 ∧ NetAt w4 a ∧ Blk w4 w.heap.size #[.slice (some ⟨a.cal, 0, none⟩) 1 1, .slice (some ⟨a.nam, 0, none⟩) 1 1, .slice (some ⟨a.opr, 0, none⟩) 2 2, .slice (some ⟨a.off, 0, none⟩) 2 2, .slice (some ⟨a.lin, 0, none⟩) 2 2, .slice (some ⟨a.cls, 0, none⟩) 1 1] 60 ∧ Below w.heap.size w w4 from ⟨HI1.out.1.next hb, HI1.out.2.1.next hb, HI1.out.2.2.1.next hb, bseq HI1.out.2.2.2 hb⟩)
  clear hb x0 x1 x2 x3 x4 x5
  have x0 := HI2.out.2.2.1.cell (k := 0) rfl; have x1 := HI2.out.2.2.1.cell (k := 1) rfl; have x2 := HI2.out.2.2.1.cell (k := 2) rfl; have x3 := HI2.out.2.2.1.cell (k := 3) rfl; have x4 := HI2.out.2.2.1.cell (k := 4) rfl; have x5 := HI2.out.2.2.1.cell (k := 5) rfl
  go_wp2_with (first | (at_builtin; refine wpList_app_nn rfl _ _ rfl rfl rfl rfl ?_) | (go_at_call 119; refine Stop.out ?_))
  refine Stop.go (checkLin_c a w.heap.size _ _ HI2.out.1 HI2.out.2.2.1 HI2.out.2.1 ?_)
  intro w5 hb
  have HI3 := hide (show KwAt w5 ∧ NetAt w5 a ∧ Blk w5 w.heap.size #[.slice (some ⟨a.cal, 0, none⟩) 1 1, .slice (some ⟨a.nam, 0, none⟩) 1 1, .slice (some ⟨a.opr, 0, none⟩) 2 2, .slice (some ⟨a.off, 0, none⟩) 2 2, .slice (some ⟨a.lin, 0, none⟩) 2 2, .slice (some ⟨a.cls, 0, none⟩) 1 1] 60 ∧ Below w.heap.size w w5 from ⟨HI2.out.1.next hb, HI2.out.2.1.next hb, HI2.out.2.2.1.next hb, bseq HI2.out.2.2.2 hb⟩)
  clear hb x0 x1 x2 x3 x4 x5
  have x0 := HI3.out.2.2.1.cell (k := 0) rfl; have x1 := HI3.out.2.2.1.cell (k := 1) rfl; have x2 := HI3.out.2.2.1.cell (k := 2) rfl; have x3 := HI3.out.2.2.1.cell (k := 3) rfl; have x4 := HI3.out.2.2.1.cell (k := 4) rfl; have x5 := HI3.out.2.2.1.cell (k := 5) rfl
  go_wp2_with (first | (at_builtin; refine wpList_app_nn rfl _ _ rfl rfl rfl rfl ?_) | (go_at_call 123; refine Stop.out ?_))
  refine Stop.go (checkCls_c a w.heap.size _ _ HI3.out.1 HI3.out.2.2.1 HI3.out.2.1 ?_)
  intro w6 hb
  have HI4 := hide (show KwAt w6 ∧ NetAt w6 a ∧ Blk w6 w.heap.size #[.slice (some ⟨a.cal, 0, none⟩) 1 1, .slice (some ⟨a.nam, 0, none⟩) 1 1, .slice (some ⟨a.opr, 0, none⟩) 2 2, .slice (some ⟨a.off, 0, none⟩) 2 2, .slice (some ⟨a.lin, 0, none⟩) 2 2, .slice (some ⟨a.cls, 0, none⟩) 1 1] 60 ∧ Below w.heap.size w w6 from ⟨HI3.out.1.next hb, HI3.out.2.1.next hb, HI3.out.2.2.1.next hb, bseq HI3.out.2.2.2 hb⟩)
  clear hb x0 x1 x2 x3 x4 x5
  have x0 := HI4.out.2.2.1.cell (k := 0) rfl; have x1 := HI4.out.2.2.1.cell (k := 1) rfl; have x2 := HI4.out.2.2.1.cell (k := 2) rfl; have x3 := HI4.out.2.2.1.cell (k := 3) rfl; have x4 := HI4.out.2.2.1.cell (k := 4) rfl; have x5 := HI4.out.2.2.1.cell (k := 5) rfl
  have HF := hide (HR.out _ HI4.out.2.2.2)
  go_wp2_with (at_builtin; refine wpList_app_nn rfl _ _ rfl rfl rfl rfl ?_)
  exact HF.out
set_option maxRecDepth 100000 in
set_option maxHeartbeats 4000000 in
theorem surveyCheck_c (a : Net) (w : World) (R) (hk : KwAt w) (hN : NetAt w a) (hR : ∀ w', Below w.heap.size w w' → R (.returned (.slice none 0 0)) w') : Calls Tryz.prog 65 #[.agg (netC a)] w R := by
  have HR := hide hR
  unfold netC
  obtain ⟨w1, hw1⟩ : ∃ w1, w.alloc (.cells #[.slice (some ⟨a.cal, 0, none⟩) 1 1, .slice (some ⟨a.nam, 0, none⟩) 1 1, .slice (some ⟨a.opr, 0, none⟩) 2 2, .slice (some ⟨a.off, 0, none⟩) 2 2, .slice (some ⟨a.lin, 0, none⟩) 2 2, .slice (some ⟨a.cls, 0, none⟩) 1 1] 60) = w1 := ⟨_, rfl⟩
  have hb1 : Below w.heap.size w w1 := hw1 ▸ balloc (Below.refl _ _) _
  have k1 : Blk w1 w.heap.size #[.slice (some ⟨a.cal, 0, none⟩) 1 1, .slice (some ⟨a.nam, 0, none⟩) 1 1, .slice (some ⟨a.opr, 0, none⟩) 2 2, .slice (some ⟨a.off, 0, none⟩) 2 2, .slice (some ⟨a.lin, 0, none⟩) 2 2, .slice (some ⟨a.cls, 0, none⟩) 1 1] 60 := hw1 ▸ Blk.new _ _ _
  have HI := hide (show KwAt w1 ∧ NetAt w1 a ∧ Blk w1 w.heap.size #[.slice (some ⟨a.cal, 0, none⟩) 1 1, .slice (some ⟨a.nam, 0, none⟩) 1 1, .slice (some ⟨a.opr, 0, none⟩) 2 2, .slice (some ⟨a.off, 0, none⟩) 2 2, .slice (some ⟨a.lin, 0, none⟩) 2 2, .slice (some ⟨a.cls, 0, none⟩) 1 1] 60 ∧ Below w.heap.size w w1 from ⟨hk.next hb1, hN.next hb1, k1, hb1⟩)
  have x0 := k1.cell (k := 0) rfl; have x1 := k1.cell (k := 1) rfl; have x2 := k1.cell (k := 2) rfl; have x3 := k1.cell (k := 3) rfl; have x4 := k1.cell (k := 4) rfl; have x5 := k1.cell (k := 5) rfl
  clear hR hk hN hb1 k1
  go_enter Tryz.func65, Tryz.ntmps65
  go_wp2_with (go_at_call 94; refine Stop.out ?_)
  refine Stop.go (incons_c a _ _ HI.out.1 HI.out.2.1 ?_)
  intro w2 hb
  have HI2 := hide (show KwAt w2 ∧ NetAt w2 a ∧ Blk w2 w.heap.size #[.slice (some ⟨a.cal, 0, none⟩) 1 1, .slice (some ⟨a.nam, 0, none⟩) 1 1, .slice (some ⟨a.opr, 0, none⟩) 2 2, .slice (some ⟨a.off, 0, none⟩) 2 2, .slice (some ⟨a.lin, 0, none⟩) 2 2, .slice (some ⟨a.cls, 0, none⟩) 1 1] 60 ∧ Below w.heap.size w w2 from ⟨HI.out.1.next hb, HI.out.2.1.next hb, HI.out.2.2.1.next hb, bseq HI.out.2.2.2 hb⟩)
  clear hb hw1 HI x0 x1 x2 x3 x4 x5
  have x0 := HI2.out.2.2.1.cell (k := 0) rfl; have x1 := HI2.out.2.2.1.cell (k := 1) rfl; have x2 := HI2.out.2.2.1.cell (k := 2) rfl; have x3 := HI2.out.2.2.1.cell (k := 3) rfl; have x4 := HI2.out.2.2.1.cell (k := 4) rfl; have x5 := HI2.out.2.2.1.cell (k := 5) rfl
  go_wp2_with (go_at_call 95; refine Stop.out ?_)
  refine Stop.go (relaxed_c a _ _ HI2.out.2.1 ?_)
  intro w3 hb
  have HI3 := hide (show Blk w3 w.heap.size #[.slice (some ⟨a.cal, 0, none⟩) 1 1, .slice (some ⟨a.nam, 0, none⟩) 1 1, .slice (some ⟨a.opr, 0, none⟩) 2 2, .slice (some ⟨a.off, 0, none⟩) 2 2, .slice (some ⟨a.lin, 0, none⟩) 2 2, .slice (some ⟨a.cls, 0, none⟩) 1 1] 60 ∧ Below w.heap.size w w3 from ⟨HI2.out.2.2.1.next hb, bseq HI2.out.2.2.2 hb⟩)
  clear hb HI2 x0 x1 x2 x3 x4 x5
  obtain ⟨w4, hw4⟩ : ∃ w4, w3.alloc (.cells Tryz.zeroCells180 180) = w4 := ⟨_, rfl⟩
  have k4 : Blk w4 w3.heap.size (mat (initM 0 0)) 180 := by rw [← hw4, ← zero_mat]; exact Blk.new _ _ _
  have hb4 : Below w3.heap.size w3 w4 := hw4 ▸ balloc (Below.refl _ _) _
  have hst := store_mat (mat relM) (mat (initM 0 0)) w3.heap.size w4 k4 (by kernel_rfl) (by kernel_rfl) (by kernel_rfl)
  rw [← hw4] at hst
  have hb5 : Below w3.heap.size w3 ((w3.alloc (.cells Tryz.zeroCells180 180)).setRow w3.heap.size (mat relM)) := by
    rw [hw4]; exact below_setRow hb4 (Nat.le_refl _) _
  have k5 : Blk ((w3.alloc (.cells Tryz.zeroCells180 180)).setRow w3.heap.size (mat relM)) w3.heap.size (mat relM) 180 := by
    rw [hw4]; exact setRow_heap w4 _ _ _ 180 (0, 0) k4
  have hsz : (mat relM).size = 144 := by kernel_rfl
  have HI5 := hide (And.intro (HI3.out.1.next hb5) (And.intro (bseq HI3.out.2 hb5) k5))
  have x3 := (HI3.out.1.next hb5).cell (k := 3) rfl
  clear hb4 hb5 k4 k5 hw4 HI3
  go_wp2
  clear hst
  generalize ((w3.alloc (.cells Tryz.zeroCells180 180)).setRow w3.heap.size (mat relM)) = w5 at *
  go_loopw [3, 18] (fun v si wr => v = .slice none 0 0 ∧ ∃ i : Nat, i ≤ 2 ∧ si = .int .i64 i ∧ wr = w5) (fun _ si _ => 2 - (intOf si).toNat)
  case atStart => exact ⟨rfl, 0, by decide, rfl, rfl⟩
  case round =>
    obtain ⟨rfl, i, hi, rfl, rfl⟩ := hrel
    by_cases hlt : i < 2
    · have hltI : (i : Int) < 2 := by omega
      have hi12 : i < 12 := by omega
      go_wp2
      go_loopw [3, 24] (fun v sj wq => v = .slice none 0 0 ∧ ∃ j : Nat, j ≤ 2 ∧ sj = .int .i64 j ∧ wq = wr) (fun _ sj _ => 2 - (intOf sj).toNat)
      case atStart => exact ⟨rfl, 0, by decide, rfl, rfl⟩
      case round =>
        obtain ⟨rfl, j, hj, rfl, rfl⟩ := hrel
        by_cases hlj : j < 2
        · have hljI : (j : Int) < 2 := by omega
          have hj12 : j < 12 := by omega
          have c1 := HI5.out.2.2.cell (mat_get relM hj12 hi12)
          have q1 : (relM j i == -1) = false := by simpa using relM_ne hlj hlt
          go_wp2
          go_roundw
          case rel => exact ⟨rfl, j + 1, by omega, by go_num, by trivial⟩
          case measure => simp [intOf]; omega
        · have hljI : ¬ (j : Int) < 2 := by omega
          go_wp2
          go_roundw
          case rel => exact ⟨rfl, i + 1, by omega, by go_num, by trivial⟩
          case measure => simp [intOf]; omega
    · have hltI : ¬ (i : Int) < 2 := by omega
      have HF := hide (HR.out _ HI5.out.2.1)
      go_wp2
      exact HF.out
theorem sound_c (a : Net) (w : World) (R) (hk : KwAt w) (hN : NetAt w a) (hR : ∀ w', Below w.heap.size w w' → R (.returned (.bool true)) w') : Calls Tryz.prog 35 #[.agg (netC a)] w R := by
  have HR := hide hR
  unfold netC
  obtain ⟨w1, hw1⟩ : ∃ w1, w.alloc (.cells #[.slice (some ⟨a.cal, 0, none⟩) 1 1, .slice (some ⟨a.nam, 0, none⟩) 1 1, .slice (some ⟨a.opr, 0, none⟩) 2 2, .slice (some ⟨a.off, 0, none⟩) 2 2, .slice (some ⟨a.lin, 0, none⟩) 2 2, .slice (some ⟨a.cls, 0, none⟩) 1 1] 60) = w1 := ⟨_, rfl⟩
  have hb1 : Below w.heap.size w w1 := hw1 ▸ balloc (Below.refl _ _) _
  have k1 : Blk w1 w.heap.size #[.slice (some ⟨a.cal, 0, none⟩) 1 1, .slice (some ⟨a.nam, 0, none⟩) 1 1, .slice (some ⟨a.opr, 0, none⟩) 2 2, .slice (some ⟨a.off, 0, none⟩) 2 2, .slice (some ⟨a.lin, 0, none⟩) 2 2, .slice (some ⟨a.cls, 0, none⟩) 1 1] 60 := hw1 ▸ Blk.new _ _ _
  have HI := hide (show KwAt w1 ∧ NetAt w1 a ∧ Below w.heap.size w w1 from ⟨hk.next hb1, hN.next hb1, hb1⟩)
  have x0 := k1.cell (k := 0) rfl; have x1 := k1.cell (k := 1) rfl; have x2 := k1.cell (k := 2) rfl; have x3 := k1.cell (k := 3) rfl; have x4 := k1.cell (k := 4) rfl; have x5 := k1.cell (k := 5) rfl
  clear hR hk hN hb1 k1
  go_enter Tryz.func35, Tryz.ntmps35
  go_wp2_with (go_at_call 65; refine Stop.out ?_)
  refine Stop.go (surveyCheck_c a _ _ HI.out.1 HI.out.2.1 ?_)
  intro w2 hb
  have HF := hide (HR.out _ (bseq HI.out.2.2 hb))
  clear hb hw1
  go_wp2
  exact HF.out
end Go.Proofs.YtkabghifdedmfaaGreatDoor

namespace Go.Proofs.YtkabghifdedmfaaGreatDoor
open Go.RowKit Go.Sort Go.Shelf
attribute [local go_sem] Oper.semAt_some

theorem own_blk2 {W W' : World} {row : Option Nat} {B k : Nat} {cs : Array Value} {t : TypeId} (hg : W.grownBy W' row) (hr : ∀ r, row = some r → B ≤ r ∧ ∃ o : Obj, W.heap[r]? = some o ∧ o.isCells = false) (hk : Blk W k cs t) : Blk W' k cs t := by
  refine hk.same (hg.block k (Array.getElem?_eq_some_iff.1 hk).1 ?_)
  intro e
  obtain ⟨_, o, ho, hc⟩ := hr k e.symm
  have hk' : W.heap[k]? = some (.cells cs t (0, 0)) := hk
  rw [hk'] at ho
  injection ho with ho
  subst ho
  exact absurd hc (by simp [Obj.isCells])
theorem NetAt.own {W W' : World} {row : Option Nat} {B : Nat} {a : Net} (h : NetAt W a) (hg : W.grownBy W' row) (hr : ∀ r, row = some r → B ≤ r ∧ ∃ o : Obj, W.heap[r]? = some o ∧ o.isCells = false) : NetAt W' a :=
  ⟨own_blk2 hg hr h.week, own_blk2 hg hr h.cal, own_blk2 hg hr h.nam, own_blk2 hg hr h.opr, own_blk2 hg hr h.off, own_blk2 hg hr h.lin, own_blk2 hg hr h.cls⟩
/-- What stands while the first departure is looked for. -/
structure FI (w : World) (a : Net) (g s2 : Nat) (v3 v4 : Value) (W : World) : Prop where
  below : Below w.heap.size w W
  net : NetAt W a
  k0 : Blk W g #[.slice (some ⟨a.cal, 0, none⟩) 1 1, .slice (some ⟨a.nam, 0, none⟩) 1 1, .slice (some ⟨a.opr, 0, none⟩) 2 2, .slice (some ⟨a.off, 0, none⟩) 2 2, .slice (some ⟨a.lin, 0, none⟩) 2 2, .slice (some ⟨a.cls, 0, none⟩) 1 1] 60
  k1 : Blk W (g + 1) #[.int .i64 0] 3
  k2 : Blk W (g + 1 + 1) #[.int .i64 110] 3
  k3 : Blk W (g + 1 + 1 + 1) #[v3] 3
  k4 : Blk W (g + 1 + 1 + 1 + 1) #[v4] 4
  k8 : Blk W s2 #[.int .i64 0, .slice (some ⟨a.week, 0, none⟩) 7 7, .slice none 0 0] 104
theorem FI.next {w W W' : World} {a : Net} {g s2 : Nat} {v3 v4 : Value} (h : FI w a g s2 v3 v4 W) (hb : Below W.heap.size W W') : FI w a g s2 v3 v4 W' :=
  ⟨bseq h.below hb, h.net.next hb, h.k0.next hb, h.k1.next hb, h.k2.next hb, h.k3.next hb, h.k4.next hb, h.k8.next hb⟩
theorem FI.own {w W W' : World} {a : Net} {g s2 : Nat} {v3 v4 : Value} {row : Option Nat} {B : Nat} (h : FI w a g s2 v3 v4 W) (hB : w.heap.size ≤ B) (hg : W.grownBy W' row) (hr : ∀ r, row = some r → B ≤ r ∧ ∃ o : Obj, W.heap[r]? = some o ∧ o.isCells = false) : FI w a g s2 v3 v4 W' :=
  ⟨h.below.grown hg h.below.size (fun k e => Nat.le_trans hB (hr k e).1), h.net.own hg hr, own_blk2 hg hr h.k0, own_blk2 hg hr h.k1, own_blk2 hg hr h.k2, own_blk2 hg hr h.k3, own_blk2 hg hr h.k4, own_blk2 hg hr h.k8⟩
theorem FI.fin {w W : World} {a : Net} {g s2 : Nat} {v3 v4 : Value} (h : FI w a g s2 v3 v4 W) (hN : NetAt w a) (hg : w.heap.size ≤ g) (hs : g + 1 + 1 + 1 + 1 < s2) (u3 u4 : Value) : FI w a g s2 u3 u4 ((W.setCell ⟨g + 1 + 1 + 1, 0, none⟩ u3).setCell ⟨g + 1 + 1 + 1 + 1, 0, none⟩ u4) := by
  have hb : Below w.heap.size w ((W.setCell ⟨g + 1 + 1 + 1, 0, none⟩ u3).setCell ⟨g + 1 + 1 + 1 + 1, 0, none⟩ u4) := (h.below.setCell (p := ⟨g + 1 + 1 + 1, 0, none⟩) (show w.heap.size ≤ g + 1 + 1 + 1 by omega) _).setCell (p := ⟨g + 1 + 1 + 1 + 1, 0, none⟩) (show w.heap.size ≤ g + 1 + 1 + 1 + 1 by omega) _
  have ot : ∀ {k : Nat} {cs : Array Value} {t : TypeId}, Blk W k cs t → k ≠ g + 1 + 1 + 1 → k ≠ g + 1 + 1 + 1 + 1 → Blk ((W.setCell ⟨g + 1 + 1 + 1, 0, none⟩ u3).setCell ⟨g + 1 + 1 + 1 + 1, 0, none⟩ u4) k cs t := fun hk h1 h2 => (hk.set_other (fun e => h1 e.symm) _).set_other (fun e => h2 e.symm) _
  exact ⟨hb, hN.next hb, ot h.k0 (by omega) (by omega), ot h.k1 (by omega) (by omega), ot h.k2 (by omega) (by omega), (h.k3.set 0 u3).set_other (show g + 1 + 1 + 1 + 1 ≠ g + 1 + 1 + 1 by omega) _, (h.k4.set_other (show g + 1 + 1 + 1 ≠ g + 1 + 1 + 1 + 1 by omega) _).set 0 u4, ot h.k8 (by omega) (by omega)⟩
set_option maxRecDepth 100000 in
set_option maxHeartbeats 4000000 in
theorem first_c' (a : Net) (w : World) (R) (hN : NetAt w a) (hR : ∀ w', Below w.heap.size w w' → R (.returned (.tuple #[.int .i64 480, .bool true])) w') : Calls Tryz.prog 128 #[.agg (netC a), .int .i64 0, .int .i64 110] w R := by
  have HR := hide hR
  unfold netC
  obtain ⟨w1, hw1⟩ : ∃ w1, ((((w.alloc (.cells #[.slice (some ⟨a.cal, 0, none⟩) 1 1, .slice (some ⟨a.nam, 0, none⟩) 1 1, .slice (some ⟨a.opr, 0, none⟩) 2 2, .slice (some ⟨a.off, 0, none⟩) 2 2, .slice (some ⟨a.lin, 0, none⟩) 2 2, .slice (some ⟨a.cls, 0, none⟩) 1 1] 60)).alloc (.cells #[.int .i64 0] 3)).alloc (.cells #[.int .i64 110] 3)).alloc (.cells #[.int .i64 0] 3)).alloc (.cells #[.bool false] 4) = w1 := ⟨_, rfl⟩
  have hb1 : Below w.heap.size w w1 := hw1 ▸ balloc (balloc (balloc (balloc (balloc (Below.refl _ _) _) _) _) _) _
  have k0 : Blk w1 w.heap.size #[.slice (some ⟨a.cal, 0, none⟩) 1 1, .slice (some ⟨a.nam, 0, none⟩) 1 1, .slice (some ⟨a.opr, 0, none⟩) 2 2, .slice (some ⟨a.off, 0, none⟩) 2 2, .slice (some ⟨a.lin, 0, none⟩) 2 2, .slice (some ⟨a.cls, 0, none⟩) 1 1] 60 := by rw [← hw1]; repeat (first | exact Blk.new_at (by simp) | refine Blk.alloc ?_ _)
  have k1 : Blk w1 (w.heap.size + 1) #[.int .i64 0] 3 := by rw [← hw1]; exact Blk.alloc (Blk.alloc (Blk.alloc (Blk.new_at (by simp)) _) _) _
  have k2 : Blk w1 (w.heap.size + 1 + 1) #[.int .i64 110] 3 := by rw [← hw1]; exact Blk.alloc (Blk.alloc (Blk.new_at (by simp)) _) _
  have k3 : Blk w1 (w.heap.size + 1 + 1 + 1) #[.int .i64 0] 3 := by rw [← hw1]; exact Blk.alloc (Blk.new_at (by simp)) _
  have k4 : Blk w1 (w.heap.size + 1 + 1 + 1 + 1) #[.bool false] 4 := by rw [← hw1]; exact Blk.new_at (by simp)
  have HN1 := hide (hN.next hb1)
  have HN0 := hide hN
  have hs1 : w.heap.size + 1 + 1 + 1 + 1 < w1.heap.size := k4.lt
  have HK := hide (And.intro k0 (And.intro k1 (And.intro k2 (And.intro k3 (And.intro k4 hb1)))))
  have x0 := k0.cell (k := 0) rfl; have x1 := k0.cell (k := 1) rfl; have x2 := k0.cell (k := 2) rfl; have x3 := k0.cell (k := 3) rfl; have x4 := k0.cell (k := 4) rfl; have x5 := k0.cell (k := 5) rfl
  have y1 := k1.cell (k := 0) rfl
  clear hR hN hb1 k0 k1 k2 k3 k4
  refine (callsIn_wide (n := 5)).1 ?_
  refine callsIn_of_wp_marks Tryz.func128 rfl trivial ?_ rfl
  simp only [Tryz.ntmps128, List.size_toArray, List.length_cons, List.length_nil, Nat.reduceAdd, Nat.reduceSub, Array.replicate_succ, Array.replicate_zero, List.push_toArray, List.append_toArray, List.nil_append, List.cons_append]
  refine wpIn_wide.2 ?_
  go_wp2
  go_step3
  go_wp2_with (go_at_call 156; refine Stop.out ?_)
  refine Stop.go (calendarOf_c a _ _ HN1.out ?_)
  intro w2 hb2
  have hs2 : w.heap.size + 1 + 1 + 1 + 1 < w2.heap.size := Nat.lt_of_lt_of_le hs1 hb2.size
  have hb3 : Below w1.heap.size w1 (w2.alloc (.cells #[.int .i64 0, .slice (some ⟨a.week, 0, none⟩) 7 7, .slice none 0 0] 104)) := balloc hb2 _
  have HI3 := hide (show FI w a w.heap.size w2.heap.size (.int .i64 0) (.bool false) (w2.alloc (.cells #[.int .i64 0, .slice (some ⟨a.week, 0, none⟩) 7 7, .slice none 0 0] 104)) from
    ⟨bseq HK.out.2.2.2.2.2 hb3, HN1.out.next hb3, HK.out.1.next hb3, HK.out.2.1.next hb3, HK.out.2.2.1.next hb3, HK.out.2.2.2.1.next hb3, HK.out.2.2.2.2.1.next hb3, Blk.new _ _ _⟩)
  have z2 := (HK.out.2.2.1.next hb3).cell (k := 0) rfl
  clear hb2 hb3 HK HN1 hw1 x0 x1 x2 x3 x4 x5 y1
  go_wp2_with (go_at_call 157; refine Stop.out ?_)
  refine Stop.go (local_c a.week _ _ ?_)
  intro w4 hb4
  have HI4 := hide (HI3.out.next hb4)
  have c0 := HI4.out.k8.cell (k := 0) rfl; have c1 := HI4.out.k8.cell (k := 1) rfl; have c2 := HI4.out.k8.cell (k := 2) rfl
  clear hb4 z2 HI3
  generalize w2.heap.size = s2 at *
  go_wp2
  go_step3
  go_wp2_with (go_at_call 158; refine Stop.out ?_)
  refine Stop.go (workdays_c a.week _ _ ?_)
  obtain ⟨w5, hw5⟩ : ∃ w5, ((w4.alloc (.cells #[.int .i64 0, .slice (some ⟨a.week, 0, none⟩) 7 7, .slice none 0 0] 104)).alloc (.cells #[.int .i64 0] 3)).alloc (.cells #[.int .i64 60] 3) = w5 := ⟨_, rfl⟩
  have hb5 : Below w4.heap.size w4 w5 := hw5 ▸ balloc (balloc (balloc (Below.refl _ _) _) _) _
  have d3 : Blk w5 w4.heap.size #[.int .i64 0, .slice (some ⟨a.week, 0, none⟩) 7 7, .slice none 0 0] 104 := by rw [← hw5]; repeat (first | exact Blk.new_at (by simp) | refine Blk.alloc ?_ _)
  have d4 : Blk w5 (w4.heap.size + 1) #[.int .i64 0] 3 := by rw [← hw5]; exact Blk.alloc (Blk.new_at (by simp)) _
  have d5 : Blk w5 (w4.heap.size + 1 + 1) #[.int .i64 60] 3 := by rw [← hw5]; exact Blk.new_at (by simp)
  have HI5 := hide (HI4.out.next hb5)
  have HD := hide (And.intro d3 (And.intro d4 d5))
  clear hb5 d3 d4 d5 c0 c1 c2 HI4
  rw [hw5]
  clear hw5
  go_wp2
  refine (wpIn_wide (n := 5)).1 ?_
  refine rangeFunc_R rfl (by omega) (gf := 175) (lb := #[.pointer (some ⟨w4.heap.size + 1, 0, none⟩), .pointer (some ⟨w4.heap.size + 1 + 1, 0, none⟩), .pointer (some ⟨w4.heap.size, 0, none⟩)]) rfl trivial (enters_of Tryz.func175 (by kernel_rfl) rfl)
    (days_seq 4 (by omega) a.week w4.heap.size (w4.heap.size + 1) (w4.heap.size + 1 + 1) w5 HD.out.1 HD.out.2.1 HD.out.2.2 HI5.out.net.week) rfl
    (FI w a w.heap.size s2 (.int .i64 0) (.bool false)) (FI w a w.heap.size s2 (.int .i64 480) (.bool true)) ?hI ?hRb HI5.out ?hround ?hstop
  case hI => exact fun _ W W' row h hg hr => h.own HI5.out.below.size hg hr
  case hRb => exact fun _ W W' row h hg hr => h.own HI5.out.below.size hg hr
  case hround =>
    intro l W K' hI hK
    have HI := hide hI
    clear hI
    gi_wp2
    intro W2 hI2
    have HI2 := hide hI2
    have c0 := hI2.k8.cell (k := 0) rfl; have c1 := hI2.k8.cell (k := 1) rfl; have c2 := hI2.k8.cell (k := 2) rfl
    have x4 := hI2.k0.cell (k := 4) rfl
    have y0 := hI2.k1.cell (k := 0) rfl
    have l3 := hI2.net.lin.cell (k := 3) rfl
    clear hI2 HI
    gi_wp2
    refine rnd_still_tail 8 (by kernel_rfl) (by kernel_rfl) (by rintro _ _ ⟨h, _⟩; cases h) (by kernel_rfl) ?_
    simp only [List.take_succ_cons, List.take_zero, List.drop_succ_cons, List.drop_zero]
    repeat still_step
    try refine wpStill_nil ?_
    change wpList _ _ _ _ _ W2.drew
    have HI3 := hide (HI2.out.next (Below.refl _ _).drew)
    have HB3 := hide (show Below W2.heap.size W2 W2.drew from (Below.refl _ _).drew)
    clear c0 c1 c2 x4 y0 l3
    generalize W2.drew = W3 at *
    go_wp2_with (go_at_call 159; refine Stop.out ?_)
    refine Stop.go (time_c a.week _ _ ?_)
    intro W4 hb4
    have HI4 := hide (HI3.out.next hb4)
    have HK4 := hide (KeepsFrom.of_grownBy (B := w5.heap.size) (grown_of_below (bseq HB3.out hb4)) (fun j e => by cases e))
    have z2 := HI4.out.k2.cell (k := 0) rfl
    have z3 := HI4.out.k3.cell (k := 0) rfl; have f3 := HI4.out.k3.free 0
    have z4 := HI4.out.k4.cell (k := 0) rfl; have f4 := HI4.out.k4.free 0
    clear hb4
    go_wp2
    gi_wp2
    exact ⟨HK4.out.trans (((KeepsOthers.setCell _ _ _).trans (KeepsOthers.setCell _ _ _)).from _), HI4.out.fin HN0.out (Nat.le_refl _) hs2 _ _⟩
  case hstop =>
    rintro D W hD hI hd
    have HI := hide hI; have Hd := hide hd
    clear hI hd
    refine wpIn_wide.2 ?_
    go_wp2
    rw [Exit.noGoto_ret]
    refine ⟨by simp, .inl ⟨_, _, rfl, run_takeDeferred Hd.out, ?_⟩⟩
    have hg := grownBy_putObj' W D (.deferred none)
    have hI2 := HI.out.own (B := w5.heap.size) HI5.out.below.size hg (fun r e => by cases e; exact ⟨hD, _, Hd.out, rfl⟩)
    have z3 := hI2.k3.cell (k := 0) rfl
    have z4 := hI2.k4.cell (k := 0) rfl
    refine ⟨.tuple #[.int .i64 480, .bool true], ?_, HR.out _ hI2.below⟩
    clear hg hI2
    simp [results, Tryz.results128, go_sem, z3, z4]
end Go.Proofs.YtkabghifdedmfaaGreatDoor
