/- World: the fixed handover is handed over. -/
import Derived.Test.YtkabghifdedmfaaGreatDoorB47
set_option linter.unusedVariables false
set_option linter.unusedSimpArgs false
namespace Go.Proofs.YtkabghifdedmfaaGreatDoor
open Go.RowKit Go.Sort Go.Shelf

set_option maxRecDepth 100000 in
set_option maxHeartbeats 8000000 in
theorem w09_c (w : World) (R) (hk : KwAt w) (htab : ∀ W, Below w.heap.size w W → Lib.TabIs Tryz.prog W "internal/strconv.uint64pow10" .u64 Lib.pow10Tab)
    (hR : ∀ w', Below w.heap.size w w' → R (.returned (.bool true)) w') : Calls Tryz.prog 4 #[] w R := by
  have HR := hide hR; have Hk := hide hk; have Htab := hide htab
  clear hR hk htab
  go_enter Tryz.func4, Tryz.ntmps4
  go_wp2_with (go_at_call 14; refine Stop.out ?_)
  refine Stop.go (net_c _ _ ?_)
  intro w1 a hb1 hN
  obtain ⟨w2, hw2⟩ : ∃ w2, ((((((w1.alloc (.cells #[.slice (some ⟨a.cal, 0, none⟩) 1 1, .slice (some ⟨a.nam, 0, none⟩) 1 1, .slice (some ⟨a.opr, 0, none⟩) 2 2, .slice (some ⟨a.off, 0, none⟩) 2 2, .slice (some ⟨a.lin, 0, none⟩) 2 2, .slice (some ⟨a.cls, 0, none⟩) 1 1] 60)).alloc (.cells #[.int .i64 (-1), .int .i64 0] 3)).alloc (.cells #[.int .i64 1, .int .i64 (-1)] 3)).alloc (.cells #[.slice (some ⟨w1.heap.size + 1, 0, none⟩) 2 2, .slice (some ⟨w1.heap.size + 1 + 1, 0, none⟩) 2 2] 24)).alloc (.cells #[.int .i64 0, .int .i64 0, .slice (some ⟨w1.heap.size + 1 + 1 + 1, 0, none⟩) 2 2, .slice none 0 0] 65)).alloc (.cells #[.int .i64 1, .int .i64 100, .string ⟨#[65]⟩, .int .i64 0, .int .i64 1, .int .i64 0, .int .i64 100, .string ⟨#[]⟩, .string ⟨#[]⟩, .int .i64 0, .int .i64 1, .int .i64 100, .string ⟨#[66]⟩, .int .i64 0, .int .i64 1, .int .i64 0, .int .i64 100, .string ⟨#[]⟩, .string ⟨#[]⟩, .int .i64 0] 67)) = w2 := ⟨_, rfl⟩
  have hb2 : Below w1.heap.size w1 w2 := hw2 ▸ balloc (balloc (balloc (balloc (balloc (balloc (Below.refl _ _) _) _) _) _) _) _
  have k0 : Blk w2 (w1.heap.size) #[.slice (some ⟨a.cal, 0, none⟩) 1 1, .slice (some ⟨a.nam, 0, none⟩) 1 1, .slice (some ⟨a.opr, 0, none⟩) 2 2, .slice (some ⟨a.off, 0, none⟩) 2 2, .slice (some ⟨a.lin, 0, none⟩) 2 2, .slice (some ⟨a.cls, 0, none⟩) 1 1] 60 := by rw [← hw2]; exact Blk.alloc (Blk.alloc (Blk.alloc (Blk.alloc (Blk.alloc (Blk.new_at (by simp)) _) _) _) _) _
  have k1 : Blk w2 (w1.heap.size + 1) #[.int .i64 (-1), .int .i64 0] 3 := by rw [← hw2]; exact Blk.alloc (Blk.alloc (Blk.alloc (Blk.alloc (Blk.new_at (by simp)) _) _) _) _
  have k2 : Blk w2 (w1.heap.size + 1 + 1) #[.int .i64 1, .int .i64 (-1)] 3 := by rw [← hw2]; exact Blk.alloc (Blk.alloc (Blk.alloc (Blk.new_at (by simp)) _) _) _
  have k3 : Blk w2 (w1.heap.size + 1 + 1 + 1) #[.slice (some ⟨w1.heap.size + 1, 0, none⟩) 2 2, .slice (some ⟨w1.heap.size + 1 + 1, 0, none⟩) 2 2] 24 := by rw [← hw2]; exact Blk.alloc (Blk.alloc (Blk.new_at (by simp)) _) _
  have k4 : Blk w2 (w1.heap.size + 1 + 1 + 1 + 1) #[.int .i64 0, .int .i64 0, .slice (some ⟨w1.heap.size + 1 + 1 + 1, 0, none⟩) 2 2, .slice none 0 0] 65 := by rw [← hw2]; exact Blk.alloc (Blk.new_at (by simp)) _
  have k5 : Blk w2 (w1.heap.size + 1 + 1 + 1 + 1 + 1) deedsC 67 := by rw [← hw2]; exact Blk.new_at (by simp)

  have x0 := k0.cell (k := 0) rfl; have x1 := k0.cell (k := 1) rfl; have x2 := k0.cell (k := 2) rfl; have x3 := k0.cell (k := 3) rfl; have x4 := k0.cell (k := 4) rfl; have x5 := k0.cell (k := 5) rfl
  have p0 := k4.cell (k := 0) rfl; have p1 := k4.cell (k := 1) rfl; have p2 := k4.cell (k := 2) rfl; have p3 := k4.cell (k := 3) rfl
  have HP := hide (show PlanAt w2 (w1.heap.size + 1 + 1 + 1) (w1.heap.size + 1) (w1.heap.size + 1 + 1) from ⟨k3, k1, k2⟩)
  have HD := hide k5
  have HN := hide (hN.next hb2)
  have HB2 := hide (bseq hb1 hb2)
  have HK2 := hide (Hk.out.next (bseq hb1 hb2))
  clear hb1 hN hb2 k0 k1 k2 k3 k4 k5
  unfold netC
  go_wp2_with (go_at_call 15; refine Stop.out ?_)
  clear hw2 x0 x1 x2 x3 x4 x5 p0 p1 p2 p3
  refine Stop.go (run_c a _ _ _ _ w2 _ HK2.out HN.out HP.out HD.out (fun W hb => Htab.out W (bseq HB2.out hb)) ?_)
  intro w3 p c ts hb3 hT hF
  have HB3 := hide (bseq HB2.out hb3)
  have HT := hide hT; have HF := hide hF
  have hm : ts.length = 2 := by have := congrArg List.length hF; rw [List.length_map] at this; exact this
  clear hb3 hT hF
  go_wp2_with (go_at_call 7; refine Stop.out ?_)
  have hb4 : Below w3.heap.size w3 (w3.alloc (.cells #[.int .i64 0, .int .i64 0, .int .i64 0, .int .i64 1, .int .i64 1, .int .i64 0] 72)) := balloc (Below.refl _ _) _
  refine Stop.go (records_c (some ⟨w3.heap.size, 0, none⟩) 2 2 fixS p 2 c ts _ _ rfl (fix_scns (Blk.new _ _ _)) fix_scnsOk hm (HT.out.keep (Keeps.of_below hb4)) (HF.out ▸ fix_tksOk) ?_)
  intro w4 q c4 rl hb5 hq hrl
  rw [HF.out] at hrl
  have HB4 := hide (bseq HB3.out (bseq hb4 hb5))
  obtain ⟨h6, rb, ro, cp, cc, rfl, r2, r3, r4, r5, hS⟩ := fix_third hq hrl
  have HS := hide hS
  rw [h6]
  clear hb4 hb5 hq hrl h6 hS
  have hb5 : Below w4.heap.size w4 (w4.alloc (.cells #[.int .i64 5, .int .i64 6] 3)) := balloc (Below.refl _ _) _
  have HKy := hide (show KeysAt (w4.alloc (.cells #[.int .i64 5, .int .i64 6] 3)) w4.heap.size 0 2 [5, 6] from ⟨rfl, by decide, by intro x hx; simp at hx; rcases hx with rfl | rfl <;> (unfold Rem; decide), IntsAt.lit [5, 6]⟩)
  have hr : (w4.alloc (.cells #[.int .i64 5, .int .i64 6] 3)).cell? ⟨rb, ro + 12 + 4, none⟩ = some (.string fC) ∧ (w4.alloc (.cells #[.int .i64 5, .int .i64 6] 3)).cell? ⟨rb, ro + 12 + 3, none⟩ = some (.int .i64 480) ∧ (w4.alloc (.cells #[.int .i64 5, .int .i64 6] 3)).cell? ⟨rb, ro + 12 + 5, none⟩ = some (.slice cp 2 cc) := ⟨cell_later hb5 r4, cell_later hb5 r3, cell_later hb5 r5⟩
  have Hr := hide hr; have HB5 := hide (bseq HB4.out hb5)
  have HS5 := hide (HS.out.keep (Keeps.of_below hb5))
  unfold fC at r4
  go_wp2
  clear r2 r3 r4 r5 hr hb5
  refine w9_reg _ rb ro _ w4.heap.size [5, 6] 480 fC cp 2 cc 1 [fA, fB] _ HKy (by decide) (by decide) rfl (by decide) (by decide) HS5 Hr.out (hide ?_)
  intro W5 d e g v64 v65 v66 v67 v68 v69 v70 v71 v72 v73 v74 v75 v76 v77 v78 v79 v80 hbW hblk hcase
  rcases hcase with ⟨rfl, hc1, hc2, hd⟩ | ⟨_, _, hno⟩
  case inr => exact absurd hno (by decide +kernel)
  have Hd := hide hd; have HBlk := hide hblk; have Hc1 := hide hc1; have Hc2 := hide hc2
  have HKy6 := hide (HKy.out.next hbW)
  have HS6 := hide (HS5.out.keep (Keeps.of_below hbW))
  have HB6 := hide (bseq HB5.out hbW)
  have r5 := cell_later hbW Hr.out.2.2
  have Hr5 := hide r5
  clear HKy HS5 Hr HB5 hbW hblk hd hc1 hc2
  go_wp2_with (go_at_call 12; refine Stop.out ?_)
  refine Stop.go (prove_c cp 2 cc 1 1 [fA, fB] _ _ rfl Hc1.out (by decide) (by decide) HS6.out ?_)
  intro W7 q c' hb7 hI
  have hln : (pathP 1 (leavesP [fA, fB]) 1).length = 1 := fix_path
  rw [hln]
  have HI := hide hI
  obtain ⟨W8, hW8⟩ : ∃ W8, W7.alloc (.cells #[.int .i64 1, .slice q 1 c'] 47) = W8 := ⟨_, rfl⟩
  have hb8 : Below W7.heap.size W7 W8 := hW8 ▸ balloc (Below.refl _ _) _
  have k8 : Blk W8 W7.heap.size #[.int .i64 1, .slice q 1 c'] 47 := hW8 ▸ Blk.new _ _ _
  have HB8 := hide (bseq hb7 hb8)
  have HI8 := hide (hI.keep (Keeps.of_below hb8))
  have HK8 := hide k8
  have HD8 := hide (HBlk.out.next HB8.out)
  have HKy8 := hide (HKy6.out.next HB8.out)
  have HS8 := hide (HS6.out.keep (Keeps.of_below HB8.out))
  clear hb7 hI hb8 k8 r5
  have HDo := hide (show DocOk 2 d from Hd.out ▸ (doc_ok (d := doc0 [fA, fB] 1 0 1 fC 480) ⟨by decide, by decide, by decide, by decide, by decide, root_rem _ _, by unfold Rem; decide, by unfold Rem; decide⟩).2)
  have HLab := hide (show isLabB d.sl = true from Hd.out ▸ Hc2.out)
  have HG := hide (show sumP (dFirst [5, 6] d) = d.give from Hd.out ▸ rfl)
  have HTk := hide (show sumP (dSecond [5, 6] d) = d.take from Hd.out ▸ rfl)
  have HCt := hide (show ((1 : Nat) : Int) < d.count from Hd.out ▸ (by decide : ((1 : Nat) : Int) < (([fA, fB] : List ByteArray).length : Int)))
  have HRt := hide (show d.root = rootP 1 (leavesP [fA, fB]) from Hd.out ▸ rfl)
  have HRg := hide (path_range 1 (leavesP [fA, fB]) 1 (fun y hy => by obtain ⟨s, _, rfl⟩ := List.mem_map.1 hy; exact sumP_range _))
  have HV1 := hide (show (if climbP (pathP 1 (leavesP [fA, fB]) 1) (leafP fB) 1 != d.root then (190 : Int) else 0) = 0 from by
    rw [HRt.out, climb_root 1 (leavesP [fA, fB]) 1 (leafP fB) (by decide) (fun y hy => by obtain ⟨s, _, rfl⟩ := List.mem_map.1 hy; exact (sumP_range _).1) rfl]; simp)
  have HV2 := hide (show (if climbP (pathP 1 (leavesP [fA, fB]) 1) (leafP fX) 1 != d.root then (190 : Int) else 0) = 190 from by
    rw [HRt.out]; exact if_pos (by rw [bne_iff_ne]; exact fix_proof))
  have r8 := cell_later HB8.out Hr5.out
  have z0 : W8.cell? ⟨g, 0, none⟩ = some (.string d.sl) := HD8.out.cell (k := 0) rfl; have z1 : W8.cell? ⟨g, 1, none⟩ = some (.int .i64 d.frm) := HD8.out.cell (k := 1) rfl; have z2 : W8.cell? ⟨g, 2, none⟩ = some (.int .i64 d.to_) := HD8.out.cell (k := 2) rfl; have z3 : W8.cell? ⟨g, 3, none⟩ = some (.int .i64 d.time) := HD8.out.cell (k := 3) rfl; have z4 : W8.cell? ⟨g, 4, none⟩ = some (.int .i64 d.count) := HD8.out.cell (k := 4) rfl; have z5 : W8.cell? ⟨g, 5, none⟩ = some (.int .i64 d.root) := HD8.out.cell (k := 5) rfl; have z6 : W8.cell? ⟨g, 6, none⟩ = some (.int .i64 d.give) := HD8.out.cell (k := 6) rfl; have z7 : W8.cell? ⟨g, 7, none⟩ = some (.int .i64 d.take) := HD8.out.cell (k := 7) rfl
  have y0 : W8.cell? ⟨W7.heap.size, 0, none⟩ = some (.int .i64 1) := HK8.out.cell (k := 0) rfl; have y1 : W8.cell? ⟨W7.heap.size, 1, none⟩ = some (.slice q 1 c') := HK8.out.cell (k := 1) rfl
  go_wp2_with (go_at_call 13; refine Stop.out ?_)
  clear hW8
  refine Stop.go (verify_c w4.heap.size 0 2 2 [5, 6] d fB 1 q 1 c' (pathP 1 (leavesP [fA, fB]) 1) _ _ HKy8.out HDo.out HLab.out HG.out HTk.out (by decide +kernel) HCt.out hln (by decide) HI8.out HRg.out ?_)
  intro W9 hb9
  rw [HV1.out]
  have HB9 := hide (bseq HB8.out hb9)
  have HI9 := hide (HI8.out.keep (Keeps.of_below hb9))
  have HK9 := hide (HK8.out.next hb9)
  have HD9 := hide (HD8.out.next hb9)
  have HKy9 := hide (HKy8.out.next hb9)
  have HS9 := hide (HS8.out.keep (Keeps.of_below hb9))
  clear hb9 z0 z1 z2 z3 z4 z5 z6 z7 y0 y1
  have z0 : W9.cell? ⟨g, 0, none⟩ = some (.string d.sl) := HD9.out.cell (k := 0) rfl; have z1 : W9.cell? ⟨g, 1, none⟩ = some (.int .i64 d.frm) := HD9.out.cell (k := 1) rfl; have z2 : W9.cell? ⟨g, 2, none⟩ = some (.int .i64 d.to_) := HD9.out.cell (k := 2) rfl; have z3 : W9.cell? ⟨g, 3, none⟩ = some (.int .i64 d.time) := HD9.out.cell (k := 3) rfl; have z4 : W9.cell? ⟨g, 4, none⟩ = some (.int .i64 d.count) := HD9.out.cell (k := 4) rfl; have z5 : W9.cell? ⟨g, 5, none⟩ = some (.int .i64 d.root) := HD9.out.cell (k := 5) rfl; have z6 : W9.cell? ⟨g, 6, none⟩ = some (.int .i64 d.give) := HD9.out.cell (k := 6) rfl; have z7 : W9.cell? ⟨g, 7, none⟩ = some (.int .i64 d.take) := HD9.out.cell (k := 7) rfl
  have y0 : W9.cell? ⟨W7.heap.size, 0, none⟩ = some (.int .i64 1) := HK9.out.cell (k := 0) rfl; have y1 : W9.cell? ⟨W7.heap.size, 1, none⟩ = some (.slice q 1 c') := HK9.out.cell (k := 1) rfl
  go_wp2_with (go_at_call 13; refine Stop.out ?_)
  refine Stop.go (verify_c w4.heap.size 0 2 2 [5, 6] d fX 1 q 1 c' (pathP 1 (leavesP [fA, fB]) 1) _ _ HKy9.out HDo.out HLab.out HG.out HTk.out (by decide +kernel) HCt.out hln (by decide) HI9.out HRg.out ?_)
  intro W10 hb10
  rw [HV2.out]
  have HB10 := hide (bseq HB9.out hb10)
  have HI10 := hide (HI9.out.keep (Keeps.of_below hb10))
  have HK10 := hide (HK9.out.next hb10)
  have HD10 := hide (HD9.out.next hb10)
  have HKy10 := hide (HKy9.out.next hb10)
  have HS10 := hide (HS9.out.keep (Keeps.of_below hb10))
  clear hb10 z0 z1 z2 z3 z4 z5 z6 z7 y0 y1
  have z0 : W10.cell? ⟨g, 0, none⟩ = some (.string d.sl) := HD10.out.cell (k := 0) rfl; have z1 : W10.cell? ⟨g, 1, none⟩ = some (.int .i64 d.frm) := HD10.out.cell (k := 1) rfl; have z2 : W10.cell? ⟨g, 2, none⟩ = some (.int .i64 d.to_) := HD10.out.cell (k := 2) rfl; have z3 : W10.cell? ⟨g, 3, none⟩ = some (.int .i64 d.time) := HD10.out.cell (k := 3) rfl; have z4 : W10.cell? ⟨g, 4, none⟩ = some (.int .i64 d.count) := HD10.out.cell (k := 4) rfl; have z5 : W10.cell? ⟨g, 5, none⟩ = some (.int .i64 d.root) := HD10.out.cell (k := 5) rfl; have z6 : W10.cell? ⟨g, 6, none⟩ = some (.int .i64 d.give) := HD10.out.cell (k := 6) rfl; have z7 : W10.cell? ⟨g, 7, none⟩ = some (.int .i64 d.take) := HD10.out.cell (k := 7) rfl
  have y0 : W10.cell? ⟨W7.heap.size, 0, none⟩ = some (.int .i64 1) := HK10.out.cell (k := 0) rfl; have y1 : W10.cell? ⟨W7.heap.size, 1, none⟩ = some (.slice q 1 c') := HK10.out.cell (k := 1) rfl
  have r10 := cell_later HB10.out Hr5.out
  go_wp2_with (go_at_call 16; refine Stop.out ?_)
  refine Stop.go (path_c cp 2 cc 1 1 [fA, fB] _ _ rfl (by decide) (by decide) (by decide) (by decide) HS10.out ?_)
  intro W11 q2 c2 hb11 _ _
  rw [hln]
  have HF := hide (HR.out _ (bseq HB6.out (bseq HB10.out hb11)))
  clear hb11 z0 z1 z2 z3 z4 z5 z6 z7 y0 y1 r8 r10
  go_wp2
  exact HF.out
end Go.Proofs.YtkabghifdedmfaaGreatDoor
