/- Survey: the checks of the fixed network's things. -/
import Derived.Test.YtkabghifdedmfaaGreatDoorB32
import Derived.StillTailTactics
import Derived.BigQuiet
set_option linter.unusedVariables false
set_option linter.unusedSimpArgs false
namespace Go.Proofs.YtkabghifdedmfaaGreatDoor
open Go.RowKit Go.Sort Go.Shelf

/-- What stands while a kind of things is checked. -/
structure CkI (w : World) (a : Net) (gn g : Nat) (T TG : TypeId) (tv nv gv f1 f2 f3 : Value) (W : World) : Prop where
  below : Below w.heap.size w W
  kw : KwAt W
  net : Blk W gn #[.slice (some ⟨a.cal, 0, none⟩) 1 1, .slice (some ⟨a.nam, 0, none⟩) 1 1, .slice (some ⟨a.opr, 0, none⟩) 2 2, .slice (some ⟨a.off, 0, none⟩) 2 2, .slice (some ⟨a.lin, 0, none⟩) 2 2, .slice (some ⟨a.cls, 0, none⟩) 1 1] 60
  data : NetAt W a
  b7 : Blk W g #[tv] T
  b8 : Blk W (g + 1) #[nv] 169
  b9 : Blk W (g + 1 + 1) #[gv] TG
  b11 : Blk W (g + 1 + 1 + 1) #[f1, f2, f3] 215
theorem CkI.next {w : World} {a : Net} {gn g : Nat} {T TG : TypeId} {tv nv gv f1 f2 f3 : Value} {W W' : World} (h : CkI w a gn g T TG tv nv gv f1 f2 f3 W) (hb : Below W.heap.size W W') : CkI w a gn g T TG tv nv gv f1 f2 f3 W' :=
  ⟨bseq h.below hb, h.kw.next hb, h.net.next hb, h.data.next hb, h.b7.next hb, h.b8.next hb, h.b9.next hb, h.b11.next hb⟩
theorem und215 : Tryz.prog.underlying 215 = some (.array 3 214) := by kernel_rfl
set_option maxRecDepth 100000 in
theorem r1Cal0_c (w : World) (a : Net) (gn g : Nat) (W : World) (R) (hI : Hid (CkI w a gn (g) 54 196 (.slice (some ⟨a.cal, 0, none⟩) 1 1) (.func (.func 108) #[] #[.pointer (some ⟨gn, 0, none⟩)]) (.func (.func 110) #[] #[]) (.func (.func 135) #[] #[.pointer (some ⟨g + 1, 0, none⟩)]) (.func (.func 137) #[] #[.pointer (some ⟨g + 1, 0, none⟩)]) (.func (.func 138) #[] #[.pointer (some ⟨g + 1 + 1, 0, none⟩), .pointer (some ⟨g, 0, none⟩)]) W)) (hR : ∀ W', Below W.heap.size W W' → R (.returned (.int .i64 0)) W') : Calls Tryz.prog 135 #[.int .i64 0, .pointer (some ⟨g + 1, 0, none⟩)] W R := by
  have HR := hide hR
  have x8 := hI.out.b8.cell (k := 0) rfl
  clear hR
  go_enter Tryz.func135, Tryz.ntmps135
  go_wp2_with (go_at_call 108; refine Stop.out ?_)
  refine Stop.go (nameCal0_c a gn _ _ hI.out.net hI.out.data ?_)
  go_wp2_with (go_at_call 136; refine Stop.out ?_)
  refine Stop.go (isName_c 99 _ _ hI.out.kw (by decide) (by decide) ?_)
  intro W' hb
  have HF := hide (HR.out _ hb)
  clear hb x8
  go_wp2
  exact HF.out
set_option maxRecDepth 100000 in
set_option maxHeartbeats 2000000 in
theorem r2Cal0_c (w : World) (a : Net) (gn g : Nat) (W : World) (R) (hI : Hid (CkI w a gn (g) 54 196 (.slice (some ⟨a.cal, 0, none⟩) 1 1) (.func (.func 108) #[] #[.pointer (some ⟨gn, 0, none⟩)]) (.func (.func 110) #[] #[]) (.func (.func 135) #[] #[.pointer (some ⟨g + 1, 0, none⟩)]) (.func (.func 137) #[] #[.pointer (some ⟨g + 1, 0, none⟩)]) (.func (.func 138) #[] #[.pointer (some ⟨g + 1 + 1, 0, none⟩), .pointer (some ⟨g, 0, none⟩)]) W)) (hR : ∀ W', Below W.heap.size W W' → R (.returned (.int .i64 0)) W') : Calls Tryz.prog 137 #[.int .i64 0, .pointer (some ⟨g + 1, 0, none⟩)] W R := by
  have HR := hide hR
  clear hR
  go_enter Tryz.func137, Tryz.ntmps137
  go_wp2
  go_loopw [6] (fun si wr => ∃ j : Nat, j ≤ 0 ∧ si = .int .i64 j ∧ Hid (CkI w a gn (g) 54 196 (.slice (some ⟨a.cal, 0, none⟩) 1 1) (.func (.func 108) #[] #[.pointer (some ⟨gn, 0, none⟩)]) (.func (.func 110) #[] #[]) (.func (.func 135) #[] #[.pointer (some ⟨g + 1, 0, none⟩)]) (.func (.func 137) #[] #[.pointer (some ⟨g + 1, 0, none⟩)]) (.func (.func 138) #[] #[.pointer (some ⟨g + 1 + 1, 0, none⟩), .pointer (some ⟨g, 0, none⟩)]) wr) ∧ Hid (Below W.heap.size W wr)) (fun si _ => 0 - (intOf si).toNat)
  case atStart => exact ⟨0, by decide, rfl, hI, hide (Below.refl _ _)⟩
  case round =>
    obtain ⟨j, hj, rfl, HJ, HB⟩ := hrel
    have hjI : ¬ (j : Int) < 0 := by omega
    have HF := hide (HR.out _ HB.out)
    clear hj
    go_wp2
    exact HF.out
set_option maxRecDepth 100000 in
set_option maxHeartbeats 2000000 in
theorem r3Cal0_c (w : World) (a : Net) (gn g : Nat) (W : World) (R) (hI : Hid (CkI w a gn (g) 54 196 (.slice (some ⟨a.cal, 0, none⟩) 1 1) (.func (.func 108) #[] #[.pointer (some ⟨gn, 0, none⟩)]) (.func (.func 110) #[] #[]) (.func (.func 135) #[] #[.pointer (some ⟨g + 1, 0, none⟩)]) (.func (.func 137) #[] #[.pointer (some ⟨g + 1, 0, none⟩)]) (.func (.func 138) #[] #[.pointer (some ⟨g + 1 + 1, 0, none⟩), .pointer (some ⟨g, 0, none⟩)]) W)) (hR : ∀ W', Below W.heap.size W W' → R (.returned (.int .i64 0)) W') : Calls Tryz.prog 138 #[.int .i64 0, .pointer (some ⟨g + 1 + 1, 0, none⟩), .pointer (some ⟨g, 0, none⟩)] W R := by
  have HR := hide hR
  have x9 := hI.out.b9.cell (k := 0) rfl
  have x7 := hI.out.b7.cell (k := 0) rfl
  have y0 := hI.out.data.cal.cell (k := 0) rfl; have y1 := hI.out.data.cal.cell (k := 1) rfl; have y2 := hI.out.data.cal.cell (k := 2) rfl
  clear hR
  go_enter Tryz.func138, Tryz.ntmps138
  go_wp2
  go_still_tail 5, (by kernel_rfl)
  change wpList _ _ _ _ _ W.drew
  have HB := hide ((Below.refl W.heap.size W).drew)
  have hI := hide (hI.out.next HB.out)
  generalize W.drew = w2 at *
  go_wp2_with (go_at_call 110; refine Stop.out ?_)
  refine Stop.go (validCal_c a.week _ _ ?_)
  intro W' hb
  have HF := hide (HR.out _ (bseq HB.out hb))
  clear hb x9 x7 y0 y1 y2
  go_wp2
  exact HF.out
set_option maxRecDepth 100000 in
theorem r1Opr0_c (w : World) (a : Net) (gn g : Nat) (W : World) (R) (hI : Hid (CkI w a gn (g) 55 198 (.slice (some ⟨a.opr, 0, none⟩) 2 2) (.func (.func 111) #[] #[.pointer (some ⟨gn, 0, none⟩)]) (.func (.func 113) #[] #[]) (.func (.func 139) #[] #[.pointer (some ⟨g + 1, 0, none⟩)]) (.func (.func 140) #[] #[.pointer (some ⟨g + 1, 0, none⟩)]) (.func (.func 141) #[] #[.pointer (some ⟨g + 1 + 1, 0, none⟩), .pointer (some ⟨g, 0, none⟩)]) W)) (hR : ∀ W', Below W.heap.size W W' → R (.returned (.int .i64 0)) W') : Calls Tryz.prog 139 #[.int .i64 0, .pointer (some ⟨g + 1, 0, none⟩)] W R := by
  have HR := hide hR
  have x8 := hI.out.b8.cell (k := 0) rfl
  clear hR
  go_enter Tryz.func139, Tryz.ntmps139
  go_wp2_with (go_at_call 111; refine Stop.out ?_)
  refine Stop.go (nameOpr0_c a gn _ _ hI.out.net hI.out.data ?_)
  go_wp2_with (go_at_call 136; refine Stop.out ?_)
  refine Stop.go (isName_c 112 _ _ hI.out.kw (by decide) (by decide) ?_)
  intro W' hb
  have HF := hide (HR.out _ hb)
  clear hb x8
  go_wp2
  exact HF.out
set_option maxRecDepth 100000 in
set_option maxHeartbeats 2000000 in
theorem r2Opr0_c (w : World) (a : Net) (gn g : Nat) (W : World) (R) (hI : Hid (CkI w a gn (g) 55 198 (.slice (some ⟨a.opr, 0, none⟩) 2 2) (.func (.func 111) #[] #[.pointer (some ⟨gn, 0, none⟩)]) (.func (.func 113) #[] #[]) (.func (.func 139) #[] #[.pointer (some ⟨g + 1, 0, none⟩)]) (.func (.func 140) #[] #[.pointer (some ⟨g + 1, 0, none⟩)]) (.func (.func 141) #[] #[.pointer (some ⟨g + 1 + 1, 0, none⟩), .pointer (some ⟨g, 0, none⟩)]) W)) (hR : ∀ W', Below W.heap.size W W' → R (.returned (.int .i64 0)) W') : Calls Tryz.prog 140 #[.int .i64 0, .pointer (some ⟨g + 1, 0, none⟩)] W R := by
  have HR := hide hR
  clear hR
  go_enter Tryz.func140, Tryz.ntmps140
  go_wp2
  go_loopw [6] (fun si wr => ∃ j : Nat, j ≤ 0 ∧ si = .int .i64 j ∧ Hid (CkI w a gn (g) 55 198 (.slice (some ⟨a.opr, 0, none⟩) 2 2) (.func (.func 111) #[] #[.pointer (some ⟨gn, 0, none⟩)]) (.func (.func 113) #[] #[]) (.func (.func 139) #[] #[.pointer (some ⟨g + 1, 0, none⟩)]) (.func (.func 140) #[] #[.pointer (some ⟨g + 1, 0, none⟩)]) (.func (.func 141) #[] #[.pointer (some ⟨g + 1 + 1, 0, none⟩), .pointer (some ⟨g, 0, none⟩)]) wr) ∧ Hid (Below W.heap.size W wr)) (fun si _ => 0 - (intOf si).toNat)
  case atStart => exact ⟨0, by decide, rfl, hI, hide (Below.refl _ _)⟩
  case round =>
    obtain ⟨j, hj, rfl, HJ, HB⟩ := hrel
    have hjI : ¬ (j : Int) < 0 := by omega
    have HF := hide (HR.out _ HB.out)
    clear hj
    go_wp2
    exact HF.out
set_option maxRecDepth 100000 in
set_option maxHeartbeats 2000000 in
theorem r3Opr0_c (w : World) (a : Net) (gn g : Nat) (W : World) (R) (hI : Hid (CkI w a gn (g) 55 198 (.slice (some ⟨a.opr, 0, none⟩) 2 2) (.func (.func 111) #[] #[.pointer (some ⟨gn, 0, none⟩)]) (.func (.func 113) #[] #[]) (.func (.func 139) #[] #[.pointer (some ⟨g + 1, 0, none⟩)]) (.func (.func 140) #[] #[.pointer (some ⟨g + 1, 0, none⟩)]) (.func (.func 141) #[] #[.pointer (some ⟨g + 1 + 1, 0, none⟩), .pointer (some ⟨g, 0, none⟩)]) W)) (hR : ∀ W', Below W.heap.size W W' → R (.returned (.int .i64 0)) W') : Calls Tryz.prog 141 #[.int .i64 0, .pointer (some ⟨g + 1 + 1, 0, none⟩), .pointer (some ⟨g, 0, none⟩)] W R := by
  have HR := hide hR
  have x9 := hI.out.b9.cell (k := 0) rfl
  have x7 := hI.out.b7.cell (k := 0) rfl
  have y0 := hI.out.data.opr.cell (k := 0) rfl
  clear hR
  go_enter Tryz.func141, Tryz.ntmps141
  go_wp2
  go_still_tail 5, (by kernel_rfl)
  change wpList _ _ _ _ _ W.drew
  have HB := hide ((Below.refl W.heap.size W).drew)
  have hI := hide (hI.out.next HB.out)
  generalize W.drew = w2 at *
  go_wp2_with (go_at_call 113; refine Stop.out ?_)
  refine Stop.go (goodOpr_c (.bool true) (str1 112) _ _ ?_)
  intro W' hb
  have HF := hide (HR.out _ (bseq HB.out hb))
  clear hb x9 x7 y0
  go_wp2
  exact HF.out
set_option maxRecDepth 100000 in
theorem r1Opr1_c (w : World) (a : Net) (gn g : Nat) (W : World) (R) (hI : Hid (CkI w a gn (g) 55 198 (.slice (some ⟨a.opr, 0, none⟩) 2 2) (.func (.func 111) #[] #[.pointer (some ⟨gn, 0, none⟩)]) (.func (.func 113) #[] #[]) (.func (.func 139) #[] #[.pointer (some ⟨g + 1, 0, none⟩)]) (.func (.func 140) #[] #[.pointer (some ⟨g + 1, 0, none⟩)]) (.func (.func 141) #[] #[.pointer (some ⟨g + 1 + 1, 0, none⟩), .pointer (some ⟨g, 0, none⟩)]) W)) (hR : ∀ W', Below W.heap.size W W' → R (.returned (.int .i64 0)) W') : Calls Tryz.prog 139 #[.int .i64 1, .pointer (some ⟨g + 1, 0, none⟩)] W R := by
  have HR := hide hR
  have x8 := hI.out.b8.cell (k := 0) rfl
  clear hR
  go_enter Tryz.func139, Tryz.ntmps139
  go_wp2_with (go_at_call 111; refine Stop.out ?_)
  refine Stop.go (nameOpr1_c a gn _ _ hI.out.net hI.out.data ?_)
  go_wp2_with (go_at_call 136; refine Stop.out ?_)
  refine Stop.go (isName_c 113 _ _ hI.out.kw (by decide) (by decide) ?_)
  intro W' hb
  have HF := hide (HR.out _ hb)
  clear hb x8
  go_wp2
  exact HF.out
set_option maxRecDepth 100000 in
set_option maxHeartbeats 2000000 in
theorem r2Opr1_c (w : World) (a : Net) (gn g : Nat) (W : World) (R) (hI : Hid (CkI w a gn (g) 55 198 (.slice (some ⟨a.opr, 0, none⟩) 2 2) (.func (.func 111) #[] #[.pointer (some ⟨gn, 0, none⟩)]) (.func (.func 113) #[] #[]) (.func (.func 139) #[] #[.pointer (some ⟨g + 1, 0, none⟩)]) (.func (.func 140) #[] #[.pointer (some ⟨g + 1, 0, none⟩)]) (.func (.func 141) #[] #[.pointer (some ⟨g + 1 + 1, 0, none⟩), .pointer (some ⟨g, 0, none⟩)]) W)) (hR : ∀ W', Below W.heap.size W W' → R (.returned (.int .i64 0)) W') : Calls Tryz.prog 140 #[.int .i64 1, .pointer (some ⟨g + 1, 0, none⟩)] W R := by
  have HR := hide hR
  clear hR
  go_enter Tryz.func140, Tryz.ntmps140
  go_wp2
  go_loopw [6] (fun si wr => ∃ j : Nat, j ≤ 1 ∧ si = .int .i64 j ∧ Hid (CkI w a gn (g) 55 198 (.slice (some ⟨a.opr, 0, none⟩) 2 2) (.func (.func 111) #[] #[.pointer (some ⟨gn, 0, none⟩)]) (.func (.func 113) #[] #[]) (.func (.func 139) #[] #[.pointer (some ⟨g + 1, 0, none⟩)]) (.func (.func 140) #[] #[.pointer (some ⟨g + 1, 0, none⟩)]) (.func (.func 141) #[] #[.pointer (some ⟨g + 1 + 1, 0, none⟩), .pointer (some ⟨g, 0, none⟩)]) wr) ∧ Hid (Below W.heap.size W wr)) (fun si _ => 1 - (intOf si).toNat)
  case atStart => exact ⟨0, by decide, rfl, hI, hide (Below.refl _ _)⟩
  case round =>
    obtain ⟨j, hj, rfl, HJ, HB⟩ := hrel
    have hj2 : j = 0 ∨ j = 1 := by omega
    rcases hj2 with rfl | hj2
    · have x8 : wr.cell? ⟨g + 1, 0, none⟩ = some (.func (.func 111) #[] #[.pointer (some ⟨gn, 0, none⟩)]) := HJ.out.b8.cell (k := 0) rfl
      have q0 : ((str1 112).toList == (str1 113).toList) = false := by rw [ByteArray.toList_eq, ByteArray.toList_eq]; decide
      go_wp2
      go_quiet ((first | (go_at_call 111; exact quiet_dr (nameOpr0_q a gn _ (HJ.out.net.drewN _) (HJ.out.data.drewN _))) | (go_at_call 111; exact quiet_dr (nameOpr1_q a gn _ (HJ.out.net.drewN _) (HJ.out.data.drewN _)))))
      go_wp2
      go_roundw
      case rel => exact ⟨1, by omega, by go_num, hide (HJ.out.next (below_drewN' (Below.refl _ _) _)), hide (below_drewN' HB.out _)⟩
      case measure => simp [intOf]
    · have hjI : ¬ (j : Int) < 1 := by omega
      have HF := hide (HR.out _ HB.out)
      clear hj hj2
      go_wp2
      exact HF.out
set_option maxRecDepth 100000 in
set_option maxHeartbeats 2000000 in
theorem r3Opr1_c (w : World) (a : Net) (gn g : Nat) (W : World) (R) (hI : Hid (CkI w a gn (g) 55 198 (.slice (some ⟨a.opr, 0, none⟩) 2 2) (.func (.func 111) #[] #[.pointer (some ⟨gn, 0, none⟩)]) (.func (.func 113) #[] #[]) (.func (.func 139) #[] #[.pointer (some ⟨g + 1, 0, none⟩)]) (.func (.func 140) #[] #[.pointer (some ⟨g + 1, 0, none⟩)]) (.func (.func 141) #[] #[.pointer (some ⟨g + 1 + 1, 0, none⟩), .pointer (some ⟨g, 0, none⟩)]) W)) (hR : ∀ W', Below W.heap.size W W' → R (.returned (.int .i64 0)) W') : Calls Tryz.prog 141 #[.int .i64 1, .pointer (some ⟨g + 1 + 1, 0, none⟩), .pointer (some ⟨g, 0, none⟩)] W R := by
  have HR := hide hR
  have x9 := hI.out.b9.cell (k := 0) rfl
  have x7 := hI.out.b7.cell (k := 0) rfl
  have y0 := hI.out.data.opr.cell (k := 1) rfl
  clear hR
  go_enter Tryz.func141, Tryz.ntmps141
  go_wp2
  go_still_tail 5, (by kernel_rfl)
  change wpList _ _ _ _ _ W.drew
  have HB := hide ((Below.refl W.heap.size W).drew)
  have hI := hide (hI.out.next HB.out)
  generalize W.drew = w2 at *
  go_wp2_with (go_at_call 113; refine Stop.out ?_)
  refine Stop.go (goodOpr_c (.bool true) (str1 113) _ _ ?_)
  intro W' hb
  have HF := hide (HR.out _ (bseq HB.out hb))
  clear hb x9 x7 y0
  go_wp2
  exact HF.out
set_option maxRecDepth 100000 in
theorem r1Off0_c (w : World) (a : Net) (gn g : Nat) (W : World) (R) (hI : Hid (CkI w a gn (g) 56 201 (.slice (some ⟨a.off, 0, none⟩) 2 2) (.func (.func 114) #[] #[.pointer (some ⟨gn, 0, none⟩)]) (.func (.func 116) #[] #[.pointer (some ⟨gn, 0, none⟩)]) (.func (.func 142) #[] #[.pointer (some ⟨g + 1, 0, none⟩)]) (.func (.func 143) #[] #[.pointer (some ⟨g + 1, 0, none⟩)]) (.func (.func 144) #[] #[.pointer (some ⟨g + 1 + 1, 0, none⟩), .pointer (some ⟨g, 0, none⟩)]) W)) (hR : ∀ W', Below W.heap.size W W' → R (.returned (.int .i64 0)) W') : Calls Tryz.prog 142 #[.int .i64 0, .pointer (some ⟨g + 1, 0, none⟩)] W R := by
  have HR := hide hR
  have x8 := hI.out.b8.cell (k := 0) rfl
  clear hR
  go_enter Tryz.func142, Tryz.ntmps142
  go_wp2_with (go_at_call 114; refine Stop.out ?_)
  refine Stop.go (nameOff0_c a gn _ _ hI.out.net hI.out.data ?_)
  go_wp2_with (go_at_call 136; refine Stop.out ?_)
  refine Stop.go (isName_c 97 _ _ hI.out.kw (by decide) (by decide) ?_)
  intro W' hb
  have HF := hide (HR.out _ hb)
  clear hb x8
  go_wp2
  exact HF.out
set_option maxRecDepth 100000 in
set_option maxHeartbeats 2000000 in
theorem r2Off0_c (w : World) (a : Net) (gn g : Nat) (W : World) (R) (hI : Hid (CkI w a gn (g) 56 201 (.slice (some ⟨a.off, 0, none⟩) 2 2) (.func (.func 114) #[] #[.pointer (some ⟨gn, 0, none⟩)]) (.func (.func 116) #[] #[.pointer (some ⟨gn, 0, none⟩)]) (.func (.func 142) #[] #[.pointer (some ⟨g + 1, 0, none⟩)]) (.func (.func 143) #[] #[.pointer (some ⟨g + 1, 0, none⟩)]) (.func (.func 144) #[] #[.pointer (some ⟨g + 1 + 1, 0, none⟩), .pointer (some ⟨g, 0, none⟩)]) W)) (hR : ∀ W', Below W.heap.size W W' → R (.returned (.int .i64 0)) W') : Calls Tryz.prog 143 #[.int .i64 0, .pointer (some ⟨g + 1, 0, none⟩)] W R := by
  have HR := hide hR
  clear hR
  go_enter Tryz.func143, Tryz.ntmps143
  go_wp2
  go_loopw [6] (fun si wr => ∃ j : Nat, j ≤ 0 ∧ si = .int .i64 j ∧ Hid (CkI w a gn (g) 56 201 (.slice (some ⟨a.off, 0, none⟩) 2 2) (.func (.func 114) #[] #[.pointer (some ⟨gn, 0, none⟩)]) (.func (.func 116) #[] #[.pointer (some ⟨gn, 0, none⟩)]) (.func (.func 142) #[] #[.pointer (some ⟨g + 1, 0, none⟩)]) (.func (.func 143) #[] #[.pointer (some ⟨g + 1, 0, none⟩)]) (.func (.func 144) #[] #[.pointer (some ⟨g + 1 + 1, 0, none⟩), .pointer (some ⟨g, 0, none⟩)]) wr) ∧ Hid (Below W.heap.size W wr)) (fun si _ => 0 - (intOf si).toNat)
  case atStart => exact ⟨0, by decide, rfl, hI, hide (Below.refl _ _)⟩
  case round =>
    obtain ⟨j, hj, rfl, HJ, HB⟩ := hrel
    have hjI : ¬ (j : Int) < 0 := by omega
    have HF := hide (HR.out _ HB.out)
    clear hj
    go_wp2
    exact HF.out
set_option maxRecDepth 100000 in
set_option maxHeartbeats 2000000 in
theorem r3Off0_c (w : World) (a : Net) (gn g : Nat) (W : World) (R) (hI : Hid (CkI w a gn (g) 56 201 (.slice (some ⟨a.off, 0, none⟩) 2 2) (.func (.func 114) #[] #[.pointer (some ⟨gn, 0, none⟩)]) (.func (.func 116) #[] #[.pointer (some ⟨gn, 0, none⟩)]) (.func (.func 142) #[] #[.pointer (some ⟨g + 1, 0, none⟩)]) (.func (.func 143) #[] #[.pointer (some ⟨g + 1, 0, none⟩)]) (.func (.func 144) #[] #[.pointer (some ⟨g + 1 + 1, 0, none⟩), .pointer (some ⟨g, 0, none⟩)]) W)) (hR : ∀ W', Below W.heap.size W W' → R (.returned (.int .i64 0)) W') : Calls Tryz.prog 144 #[.int .i64 0, .pointer (some ⟨g + 1 + 1, 0, none⟩), .pointer (some ⟨g, 0, none⟩)] W R := by
  have HR := hide hR
  have x9 := hI.out.b9.cell (k := 0) rfl
  have x7 := hI.out.b7.cell (k := 0) rfl
  have y0 := hI.out.data.off.cell (k := 0) rfl; have y1 := hI.out.data.off.cell (k := 1) rfl; have y2 := hI.out.data.off.cell (k := 2) rfl; have y3 := hI.out.data.off.cell (k := 3) rfl; have y4 := hI.out.data.off.cell (k := 4) rfl; have y5 := hI.out.data.off.cell (k := 5) rfl; have y6 := hI.out.data.off.cell (k := 6) rfl
  clear hR
  go_enter Tryz.func144, Tryz.ntmps144
  go_wp2
  go_still_tail 5, (by kernel_rfl)
  change wpList _ _ _ _ _ W.drew
  have HB := hide ((Below.refl W.heap.size W).drew)
  have hI := hide (hI.out.next HB.out)
  generalize W.drew = w2 at *
  go_wp2_with (go_at_call 116; refine Stop.out ?_)
  refine Stop.go (okOff0_c a gn _ _ hI.out.net ?_)
  intro W' hb
  have HF := hide (HR.out _ (bseq HB.out hb))
  clear hb x9 x7 y0 y1 y2 y3 y4 y5 y6
  go_wp2
  exact HF.out
set_option maxRecDepth 100000 in
theorem r1Off1_c (w : World) (a : Net) (gn g : Nat) (W : World) (R) (hI : Hid (CkI w a gn (g) 56 201 (.slice (some ⟨a.off, 0, none⟩) 2 2) (.func (.func 114) #[] #[.pointer (some ⟨gn, 0, none⟩)]) (.func (.func 116) #[] #[.pointer (some ⟨gn, 0, none⟩)]) (.func (.func 142) #[] #[.pointer (some ⟨g + 1, 0, none⟩)]) (.func (.func 143) #[] #[.pointer (some ⟨g + 1, 0, none⟩)]) (.func (.func 144) #[] #[.pointer (some ⟨g + 1 + 1, 0, none⟩), .pointer (some ⟨g, 0, none⟩)]) W)) (hR : ∀ W', Below W.heap.size W W' → R (.returned (.int .i64 0)) W') : Calls Tryz.prog 142 #[.int .i64 1, .pointer (some ⟨g + 1, 0, none⟩)] W R := by
  have HR := hide hR
  have x8 := hI.out.b8.cell (k := 0) rfl
  clear hR
  go_enter Tryz.func142, Tryz.ntmps142
  go_wp2_with (go_at_call 114; refine Stop.out ?_)
  refine Stop.go (nameOff1_c a gn _ _ hI.out.net hI.out.data ?_)
  go_wp2_with (go_at_call 136; refine Stop.out ?_)
  refine Stop.go (isName_c 98 _ _ hI.out.kw (by decide) (by decide) ?_)
  intro W' hb
  have HF := hide (HR.out _ hb)
  clear hb x8
  go_wp2
  exact HF.out
set_option maxRecDepth 100000 in
set_option maxHeartbeats 2000000 in
theorem r2Off1_c (w : World) (a : Net) (gn g : Nat) (W : World) (R) (hI : Hid (CkI w a gn (g) 56 201 (.slice (some ⟨a.off, 0, none⟩) 2 2) (.func (.func 114) #[] #[.pointer (some ⟨gn, 0, none⟩)]) (.func (.func 116) #[] #[.pointer (some ⟨gn, 0, none⟩)]) (.func (.func 142) #[] #[.pointer (some ⟨g + 1, 0, none⟩)]) (.func (.func 143) #[] #[.pointer (some ⟨g + 1, 0, none⟩)]) (.func (.func 144) #[] #[.pointer (some ⟨g + 1 + 1, 0, none⟩), .pointer (some ⟨g, 0, none⟩)]) W)) (hR : ∀ W', Below W.heap.size W W' → R (.returned (.int .i64 0)) W') : Calls Tryz.prog 143 #[.int .i64 1, .pointer (some ⟨g + 1, 0, none⟩)] W R := by
  have HR := hide hR
  clear hR
  go_enter Tryz.func143, Tryz.ntmps143
  go_wp2
  go_loopw [6] (fun si wr => ∃ j : Nat, j ≤ 1 ∧ si = .int .i64 j ∧ Hid (CkI w a gn (g) 56 201 (.slice (some ⟨a.off, 0, none⟩) 2 2) (.func (.func 114) #[] #[.pointer (some ⟨gn, 0, none⟩)]) (.func (.func 116) #[] #[.pointer (some ⟨gn, 0, none⟩)]) (.func (.func 142) #[] #[.pointer (some ⟨g + 1, 0, none⟩)]) (.func (.func 143) #[] #[.pointer (some ⟨g + 1, 0, none⟩)]) (.func (.func 144) #[] #[.pointer (some ⟨g + 1 + 1, 0, none⟩), .pointer (some ⟨g, 0, none⟩)]) wr) ∧ Hid (Below W.heap.size W wr)) (fun si _ => 1 - (intOf si).toNat)
  case atStart => exact ⟨0, by decide, rfl, hI, hide (Below.refl _ _)⟩
  case round =>
    obtain ⟨j, hj, rfl, HJ, HB⟩ := hrel
    have hj2 : j = 0 ∨ j = 1 := by omega
    rcases hj2 with rfl | hj2
    · have x8 : wr.cell? ⟨g + 1, 0, none⟩ = some (.func (.func 114) #[] #[.pointer (some ⟨gn, 0, none⟩)]) := HJ.out.b8.cell (k := 0) rfl
      have q0 : ((str1 97).toList == (str1 98).toList) = false := by rw [ByteArray.toList_eq, ByteArray.toList_eq]; decide
      go_wp2
      go_quiet ((first | (go_at_call 114; exact quiet_dr (nameOff0_q a gn _ (HJ.out.net.drewN _) (HJ.out.data.drewN _))) | (go_at_call 114; exact quiet_dr (nameOff1_q a gn _ (HJ.out.net.drewN _) (HJ.out.data.drewN _)))))
      go_wp2
      go_roundw
      case rel => exact ⟨1, by omega, by go_num, hide (HJ.out.next (below_drewN' (Below.refl _ _) _)), hide (below_drewN' HB.out _)⟩
      case measure => simp [intOf]
    · have hjI : ¬ (j : Int) < 1 := by omega
      have HF := hide (HR.out _ HB.out)
      clear hj hj2
      go_wp2
      exact HF.out
set_option maxRecDepth 100000 in
set_option maxHeartbeats 2000000 in
theorem r3Off1_c (w : World) (a : Net) (gn g : Nat) (W : World) (R) (hI : Hid (CkI w a gn (g) 56 201 (.slice (some ⟨a.off, 0, none⟩) 2 2) (.func (.func 114) #[] #[.pointer (some ⟨gn, 0, none⟩)]) (.func (.func 116) #[] #[.pointer (some ⟨gn, 0, none⟩)]) (.func (.func 142) #[] #[.pointer (some ⟨g + 1, 0, none⟩)]) (.func (.func 143) #[] #[.pointer (some ⟨g + 1, 0, none⟩)]) (.func (.func 144) #[] #[.pointer (some ⟨g + 1 + 1, 0, none⟩), .pointer (some ⟨g, 0, none⟩)]) W)) (hR : ∀ W', Below W.heap.size W W' → R (.returned (.int .i64 0)) W') : Calls Tryz.prog 144 #[.int .i64 1, .pointer (some ⟨g + 1 + 1, 0, none⟩), .pointer (some ⟨g, 0, none⟩)] W R := by
  have HR := hide hR
  have x9 := hI.out.b9.cell (k := 0) rfl
  have x7 := hI.out.b7.cell (k := 0) rfl
  have y0 := hI.out.data.off.cell (k := 7) rfl; have y1 := hI.out.data.off.cell (k := 8) rfl; have y2 := hI.out.data.off.cell (k := 9) rfl; have y3 := hI.out.data.off.cell (k := 10) rfl; have y4 := hI.out.data.off.cell (k := 11) rfl; have y5 := hI.out.data.off.cell (k := 12) rfl; have y6 := hI.out.data.off.cell (k := 13) rfl
  clear hR
  go_enter Tryz.func144, Tryz.ntmps144
  go_wp2
  go_still_tail 5, (by kernel_rfl)
  change wpList _ _ _ _ _ W.drew
  have HB := hide ((Below.refl W.heap.size W).drew)
  have hI := hide (hI.out.next HB.out)
  generalize W.drew = w2 at *
  go_wp2_with (go_at_call 116; refine Stop.out ?_)
  refine Stop.go (okOff1_c a gn _ _ hI.out.net ?_)
  intro W' hb
  have HF := hide (HR.out _ (bseq HB.out hb))
  clear hb x9 x7 y0 y1 y2 y3 y4 y5 y6
  go_wp2
  exact HF.out
set_option maxRecDepth 100000 in
theorem r1Lin0_c (w : World) (a : Net) (gn g : Nat) (W : World) (R) (hI : Hid (CkI w a gn (g) 57 204 (.slice (some ⟨a.lin, 0, none⟩) 2 2) (.func (.func 118) #[] #[.pointer (some ⟨gn, 0, none⟩)]) (.func (.func 120) #[] #[.pointer (some ⟨gn, 0, none⟩)]) (.func (.func 149) #[] #[.pointer (some ⟨g + 1, 0, none⟩)]) (.func (.func 150) #[] #[.pointer (some ⟨g + 1, 0, none⟩)]) (.func (.func 151) #[] #[.pointer (some ⟨g + 1 + 1, 0, none⟩), .pointer (some ⟨g, 0, none⟩)]) W)) (hR : ∀ W', Below W.heap.size W W' → R (.returned (.int .i64 0)) W') : Calls Tryz.prog 149 #[.int .i64 0, .pointer (some ⟨g + 1, 0, none⟩)] W R := by
  have HR := hide hR
  have x8 := hI.out.b8.cell (k := 0) rfl
  clear hR
  go_enter Tryz.func149, Tryz.ntmps149
  go_wp2_with (go_at_call 118; refine Stop.out ?_)
  refine Stop.go (nameLin0_c a gn _ _ hI.out.net hI.out.data ?_)
  go_wp2_with (go_at_call 136; refine Stop.out ?_)
  refine Stop.go (isName_c 108 _ _ hI.out.kw (by decide) (by decide) ?_)
  intro W' hb
  have HF := hide (HR.out _ hb)
  clear hb x8
  go_wp2
  exact HF.out
set_option maxRecDepth 100000 in
set_option maxHeartbeats 2000000 in
theorem r2Lin0_c (w : World) (a : Net) (gn g : Nat) (W : World) (R) (hI : Hid (CkI w a gn (g) 57 204 (.slice (some ⟨a.lin, 0, none⟩) 2 2) (.func (.func 118) #[] #[.pointer (some ⟨gn, 0, none⟩)]) (.func (.func 120) #[] #[.pointer (some ⟨gn, 0, none⟩)]) (.func (.func 149) #[] #[.pointer (some ⟨g + 1, 0, none⟩)]) (.func (.func 150) #[] #[.pointer (some ⟨g + 1, 0, none⟩)]) (.func (.func 151) #[] #[.pointer (some ⟨g + 1 + 1, 0, none⟩), .pointer (some ⟨g, 0, none⟩)]) W)) (hR : ∀ W', Below W.heap.size W W' → R (.returned (.int .i64 0)) W') : Calls Tryz.prog 150 #[.int .i64 0, .pointer (some ⟨g + 1, 0, none⟩)] W R := by
  have HR := hide hR
  clear hR
  go_enter Tryz.func150, Tryz.ntmps150
  go_wp2
  go_loopw [6] (fun si wr => ∃ j : Nat, j ≤ 0 ∧ si = .int .i64 j ∧ Hid (CkI w a gn (g) 57 204 (.slice (some ⟨a.lin, 0, none⟩) 2 2) (.func (.func 118) #[] #[.pointer (some ⟨gn, 0, none⟩)]) (.func (.func 120) #[] #[.pointer (some ⟨gn, 0, none⟩)]) (.func (.func 149) #[] #[.pointer (some ⟨g + 1, 0, none⟩)]) (.func (.func 150) #[] #[.pointer (some ⟨g + 1, 0, none⟩)]) (.func (.func 151) #[] #[.pointer (some ⟨g + 1 + 1, 0, none⟩), .pointer (some ⟨g, 0, none⟩)]) wr) ∧ Hid (Below W.heap.size W wr)) (fun si _ => 0 - (intOf si).toNat)
  case atStart => exact ⟨0, by decide, rfl, hI, hide (Below.refl _ _)⟩
  case round =>
    obtain ⟨j, hj, rfl, HJ, HB⟩ := hrel
    have hjI : ¬ (j : Int) < 0 := by omega
    have HF := hide (HR.out _ HB.out)
    clear hj
    go_wp2
    exact HF.out
set_option maxRecDepth 100000 in
set_option maxHeartbeats 2000000 in
theorem r3Lin0_c (w : World) (a : Net) (gn g : Nat) (W : World) (R) (hI : Hid (CkI w a gn (g) 57 204 (.slice (some ⟨a.lin, 0, none⟩) 2 2) (.func (.func 118) #[] #[.pointer (some ⟨gn, 0, none⟩)]) (.func (.func 120) #[] #[.pointer (some ⟨gn, 0, none⟩)]) (.func (.func 149) #[] #[.pointer (some ⟨g + 1, 0, none⟩)]) (.func (.func 150) #[] #[.pointer (some ⟨g + 1, 0, none⟩)]) (.func (.func 151) #[] #[.pointer (some ⟨g + 1 + 1, 0, none⟩), .pointer (some ⟨g, 0, none⟩)]) W)) (hR : ∀ W', Below W.heap.size W W' → R (.returned (.int .i64 0)) W') : Calls Tryz.prog 151 #[.int .i64 0, .pointer (some ⟨g + 1 + 1, 0, none⟩), .pointer (some ⟨g, 0, none⟩)] W R := by
  have HR := hide hR
  have x9 := hI.out.b9.cell (k := 0) rfl
  have x7 := hI.out.b7.cell (k := 0) rfl
  have y0 := hI.out.data.lin.cell (k := 0) rfl; have y1 := hI.out.data.lin.cell (k := 1) rfl; have y2 := hI.out.data.lin.cell (k := 2) rfl; have y3 := hI.out.data.lin.cell (k := 3) rfl; have y4 := hI.out.data.lin.cell (k := 4) rfl; have y5 := hI.out.data.lin.cell (k := 5) rfl
  clear hR
  go_enter Tryz.func151, Tryz.ntmps151
  go_wp2
  go_still_tail 5, (by kernel_rfl)
  change wpList _ _ _ _ _ W.drew
  have HB := hide ((Below.refl W.heap.size W).drew)
  have hI := hide (hI.out.next HB.out)
  generalize W.drew = w2 at *
  go_wp2_with (go_at_call 120; refine Stop.out ?_)
  refine Stop.go (okLin0_c a gn _ _ hI.out.net ?_)
  intro W' hb
  have HF := hide (HR.out _ (bseq HB.out hb))
  clear hb x9 x7 y0 y1 y2 y3 y4 y5
  go_wp2
  exact HF.out
set_option maxRecDepth 100000 in
theorem r1Lin1_c (w : World) (a : Net) (gn g : Nat) (W : World) (R) (hI : Hid (CkI w a gn (g) 57 204 (.slice (some ⟨a.lin, 0, none⟩) 2 2) (.func (.func 118) #[] #[.pointer (some ⟨gn, 0, none⟩)]) (.func (.func 120) #[] #[.pointer (some ⟨gn, 0, none⟩)]) (.func (.func 149) #[] #[.pointer (some ⟨g + 1, 0, none⟩)]) (.func (.func 150) #[] #[.pointer (some ⟨g + 1, 0, none⟩)]) (.func (.func 151) #[] #[.pointer (some ⟨g + 1 + 1, 0, none⟩), .pointer (some ⟨g, 0, none⟩)]) W)) (hR : ∀ W', Below W.heap.size W W' → R (.returned (.int .i64 0)) W') : Calls Tryz.prog 149 #[.int .i64 1, .pointer (some ⟨g + 1, 0, none⟩)] W R := by
  have HR := hide hR
  have x8 := hI.out.b8.cell (k := 0) rfl
  clear hR
  go_enter Tryz.func149, Tryz.ntmps149
  go_wp2_with (go_at_call 118; refine Stop.out ?_)
  refine Stop.go (nameLin1_c a gn _ _ hI.out.net hI.out.data ?_)
  go_wp2_with (go_at_call 136; refine Stop.out ?_)
  refine Stop.go (isName_c 109 _ _ hI.out.kw (by decide) (by decide) ?_)
  intro W' hb
  have HF := hide (HR.out _ hb)
  clear hb x8
  go_wp2
  exact HF.out
set_option maxRecDepth 100000 in
set_option maxHeartbeats 2000000 in
theorem r2Lin1_c (w : World) (a : Net) (gn g : Nat) (W : World) (R) (hI : Hid (CkI w a gn (g) 57 204 (.slice (some ⟨a.lin, 0, none⟩) 2 2) (.func (.func 118) #[] #[.pointer (some ⟨gn, 0, none⟩)]) (.func (.func 120) #[] #[.pointer (some ⟨gn, 0, none⟩)]) (.func (.func 149) #[] #[.pointer (some ⟨g + 1, 0, none⟩)]) (.func (.func 150) #[] #[.pointer (some ⟨g + 1, 0, none⟩)]) (.func (.func 151) #[] #[.pointer (some ⟨g + 1 + 1, 0, none⟩), .pointer (some ⟨g, 0, none⟩)]) W)) (hR : ∀ W', Below W.heap.size W W' → R (.returned (.int .i64 0)) W') : Calls Tryz.prog 150 #[.int .i64 1, .pointer (some ⟨g + 1, 0, none⟩)] W R := by
  have HR := hide hR
  clear hR
  go_enter Tryz.func150, Tryz.ntmps150
  go_wp2
  go_loopw [6] (fun si wr => ∃ j : Nat, j ≤ 1 ∧ si = .int .i64 j ∧ Hid (CkI w a gn (g) 57 204 (.slice (some ⟨a.lin, 0, none⟩) 2 2) (.func (.func 118) #[] #[.pointer (some ⟨gn, 0, none⟩)]) (.func (.func 120) #[] #[.pointer (some ⟨gn, 0, none⟩)]) (.func (.func 149) #[] #[.pointer (some ⟨g + 1, 0, none⟩)]) (.func (.func 150) #[] #[.pointer (some ⟨g + 1, 0, none⟩)]) (.func (.func 151) #[] #[.pointer (some ⟨g + 1 + 1, 0, none⟩), .pointer (some ⟨g, 0, none⟩)]) wr) ∧ Hid (Below W.heap.size W wr)) (fun si _ => 1 - (intOf si).toNat)
  case atStart => exact ⟨0, by decide, rfl, hI, hide (Below.refl _ _)⟩
  case round =>
    obtain ⟨j, hj, rfl, HJ, HB⟩ := hrel
    have hj2 : j = 0 ∨ j = 1 := by omega
    rcases hj2 with rfl | hj2
    · have x8 : wr.cell? ⟨g + 1, 0, none⟩ = some (.func (.func 118) #[] #[.pointer (some ⟨gn, 0, none⟩)]) := HJ.out.b8.cell (k := 0) rfl
      have q0 : ((str1 108).toList == (str1 109).toList) = false := by rw [ByteArray.toList_eq, ByteArray.toList_eq]; decide
      go_wp2
      go_quiet ((first | (go_at_call 118; exact quiet_dr (nameLin0_q a gn _ (HJ.out.net.drewN _) (HJ.out.data.drewN _))) | (go_at_call 118; exact quiet_dr (nameLin1_q a gn _ (HJ.out.net.drewN _) (HJ.out.data.drewN _)))))
      go_wp2
      go_roundw
      case rel => exact ⟨1, by omega, by go_num, hide (HJ.out.next (below_drewN' (Below.refl _ _) _)), hide (below_drewN' HB.out _)⟩
      case measure => simp [intOf]
    · have hjI : ¬ (j : Int) < 1 := by omega
      have HF := hide (HR.out _ HB.out)
      clear hj hj2
      go_wp2
      exact HF.out
set_option maxRecDepth 100000 in
set_option maxHeartbeats 2000000 in
theorem r3Lin1_c (w : World) (a : Net) (gn g : Nat) (W : World) (R) (hI : Hid (CkI w a gn (g) 57 204 (.slice (some ⟨a.lin, 0, none⟩) 2 2) (.func (.func 118) #[] #[.pointer (some ⟨gn, 0, none⟩)]) (.func (.func 120) #[] #[.pointer (some ⟨gn, 0, none⟩)]) (.func (.func 149) #[] #[.pointer (some ⟨g + 1, 0, none⟩)]) (.func (.func 150) #[] #[.pointer (some ⟨g + 1, 0, none⟩)]) (.func (.func 151) #[] #[.pointer (some ⟨g + 1 + 1, 0, none⟩), .pointer (some ⟨g, 0, none⟩)]) W)) (hR : ∀ W', Below W.heap.size W W' → R (.returned (.int .i64 0)) W') : Calls Tryz.prog 151 #[.int .i64 1, .pointer (some ⟨g + 1 + 1, 0, none⟩), .pointer (some ⟨g, 0, none⟩)] W R := by
  have HR := hide hR
  have x9 := hI.out.b9.cell (k := 0) rfl
  have x7 := hI.out.b7.cell (k := 0) rfl
  have y0 := hI.out.data.lin.cell (k := 6) rfl; have y1 := hI.out.data.lin.cell (k := 7) rfl; have y2 := hI.out.data.lin.cell (k := 8) rfl; have y3 := hI.out.data.lin.cell (k := 9) rfl; have y4 := hI.out.data.lin.cell (k := 10) rfl; have y5 := hI.out.data.lin.cell (k := 11) rfl
  clear hR
  go_enter Tryz.func151, Tryz.ntmps151
  go_wp2
  go_still_tail 5, (by kernel_rfl)
  change wpList _ _ _ _ _ W.drew
  have HB := hide ((Below.refl W.heap.size W).drew)
  have hI := hide (hI.out.next HB.out)
  generalize W.drew = w2 at *
  go_wp2_with (go_at_call 120; refine Stop.out ?_)
  refine Stop.go (okLin1_c a gn _ _ hI.out.net ?_)
  intro W' hb
  have HF := hide (HR.out _ (bseq HB.out hb))
  clear hb x9 x7 y0 y1 y2 y3 y4 y5
  go_wp2
  exact HF.out
set_option maxRecDepth 100000 in
theorem r1Cls0_c (w : World) (a : Net) (gn g : Nat) (W : World) (R) (hI : Hid (CkI w a gn (g) 58 206 (.slice (some ⟨a.cls, 0, none⟩) 1 1) (.func (.func 122) #[] #[.pointer (some ⟨gn, 0, none⟩)]) (.func (.func 124) #[] #[]) (.func (.func 153) #[] #[.pointer (some ⟨g + 1, 0, none⟩)]) (.func (.func 154) #[] #[.pointer (some ⟨g + 1, 0, none⟩)]) (.func (.func 155) #[] #[.pointer (some ⟨g + 1 + 1, 0, none⟩), .pointer (some ⟨g, 0, none⟩)]) W)) (hR : ∀ W', Below W.heap.size W W' → R (.returned (.int .i64 0)) W') : Calls Tryz.prog 153 #[.int .i64 0, .pointer (some ⟨g + 1, 0, none⟩)] W R := by
  have HR := hide hR
  have x8 := hI.out.b8.cell (k := 0) rfl
  clear hR
  go_enter Tryz.func153, Tryz.ntmps153
  go_wp2_with (go_at_call 122; refine Stop.out ?_)
  refine Stop.go (nameCls0_c a gn _ _ hI.out.net hI.out.data ?_)
  go_wp2_with (go_at_call 136; refine Stop.out ?_)
  refine Stop.go (isName_c 107 _ _ hI.out.kw (by decide) (by decide) ?_)
  intro W' hb
  have HF := hide (HR.out _ hb)
  clear hb x8
  go_wp2
  exact HF.out
set_option maxRecDepth 100000 in
set_option maxHeartbeats 2000000 in
theorem r2Cls0_c (w : World) (a : Net) (gn g : Nat) (W : World) (R) (hI : Hid (CkI w a gn (g) 58 206 (.slice (some ⟨a.cls, 0, none⟩) 1 1) (.func (.func 122) #[] #[.pointer (some ⟨gn, 0, none⟩)]) (.func (.func 124) #[] #[]) (.func (.func 153) #[] #[.pointer (some ⟨g + 1, 0, none⟩)]) (.func (.func 154) #[] #[.pointer (some ⟨g + 1, 0, none⟩)]) (.func (.func 155) #[] #[.pointer (some ⟨g + 1 + 1, 0, none⟩), .pointer (some ⟨g, 0, none⟩)]) W)) (hR : ∀ W', Below W.heap.size W W' → R (.returned (.int .i64 0)) W') : Calls Tryz.prog 154 #[.int .i64 0, .pointer (some ⟨g + 1, 0, none⟩)] W R := by
  have HR := hide hR
  clear hR
  go_enter Tryz.func154, Tryz.ntmps154
  go_wp2
  go_loopw [6] (fun si wr => ∃ j : Nat, j ≤ 0 ∧ si = .int .i64 j ∧ Hid (CkI w a gn (g) 58 206 (.slice (some ⟨a.cls, 0, none⟩) 1 1) (.func (.func 122) #[] #[.pointer (some ⟨gn, 0, none⟩)]) (.func (.func 124) #[] #[]) (.func (.func 153) #[] #[.pointer (some ⟨g + 1, 0, none⟩)]) (.func (.func 154) #[] #[.pointer (some ⟨g + 1, 0, none⟩)]) (.func (.func 155) #[] #[.pointer (some ⟨g + 1 + 1, 0, none⟩), .pointer (some ⟨g, 0, none⟩)]) wr) ∧ Hid (Below W.heap.size W wr)) (fun si _ => 0 - (intOf si).toNat)
  case atStart => exact ⟨0, by decide, rfl, hI, hide (Below.refl _ _)⟩
  case round =>
    obtain ⟨j, hj, rfl, HJ, HB⟩ := hrel
    have hjI : ¬ (j : Int) < 0 := by omega
    have HF := hide (HR.out _ HB.out)
    clear hj
    go_wp2
    exact HF.out
set_option maxRecDepth 100000 in
set_option maxHeartbeats 2000000 in
theorem r3Cls0_c (w : World) (a : Net) (gn g : Nat) (W : World) (R) (hI : Hid (CkI w a gn (g) 58 206 (.slice (some ⟨a.cls, 0, none⟩) 1 1) (.func (.func 122) #[] #[.pointer (some ⟨gn, 0, none⟩)]) (.func (.func 124) #[] #[]) (.func (.func 153) #[] #[.pointer (some ⟨g + 1, 0, none⟩)]) (.func (.func 154) #[] #[.pointer (some ⟨g + 1, 0, none⟩)]) (.func (.func 155) #[] #[.pointer (some ⟨g + 1 + 1, 0, none⟩), .pointer (some ⟨g, 0, none⟩)]) W)) (hR : ∀ W', Below W.heap.size W W' → R (.returned (.int .i64 0)) W') : Calls Tryz.prog 155 #[.int .i64 0, .pointer (some ⟨g + 1 + 1, 0, none⟩), .pointer (some ⟨g, 0, none⟩)] W R := by
  have HR := hide hR
  have x9 := hI.out.b9.cell (k := 0) rfl
  have x7 := hI.out.b7.cell (k := 0) rfl
  have y0 := hI.out.data.cls.cell (k := 0) rfl; have y1 := hI.out.data.cls.cell (k := 1) rfl; have y2 := hI.out.data.cls.cell (k := 2) rfl
  clear hR
  go_enter Tryz.func155, Tryz.ntmps155
  go_wp2
  go_still_tail 5, (by kernel_rfl)
  change wpList _ _ _ _ _ W.drew
  have HB := hide ((Below.refl W.heap.size W).drew)
  have hI := hide (hI.out.next HB.out)
  generalize W.drew = w2 at *
  go_wp2_with (go_at_call 124; refine Stop.out ?_)
  refine Stop.go (goodCls_c _ _ ?_)
  intro W' hb
  have HF := hide (HR.out _ (bseq HB.out hb))
  clear hb x9 x7 y0 y1 y2
  go_wp2
  exact HF.out
end Go.Proofs.YtkabghifdedmfaaGreatDoor
