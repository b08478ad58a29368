/- Survey: the names of a network's things, and whether they are right, as closures. -/
import Derived.Test.YtgfhcmidnbahjaaGreatDoorJ6
import Derived.StillTailTactics
set_option linter.unusedVariables false
set_option linter.unusedSimpArgs false
namespace Go.Proofs.YtgfhcmidnbahjaaGreatDoor
open Go.RowKit
theorem NetAt.lens {w : World} {N : Net} (h : NetAt w N) : N.cals.length ≤ 9223372036854775807 ∧ N.names.length ≤ 9223372036854775807 ∧ N.oprs.length ≤ 9223372036854775807 ∧ N.offs.length ≤ 9223372036854775807 ∧ N.lins.length ≤ 9223372036854775807 ∧ N.clss.length ≤ 9223372036854775807 := by
 have h1 := h.len; have h2 := h.names.2.2; have h3 := h.oprs.2.2
 unfold maxLen at h1 h2 h3
 omega
set_option maxRecDepth 100000 in
theorem nmCal_c (N : Net) (gn i : Nat) (w : World) (R) (hB : Blk w gn N.cells 29) (hN : NetAt w N) (hi : i < N.cals.length) (hR : R (.returned (.string (calNm N i))) w) : Calls Tryz.prog 225 #[.int .i64 (i : Int), .pointer (some ⟨gn, 0, none⟩)] w R := by
 have hl := hN.lens
 have b1 := hB.cell (k := 1) (v := .slice N.np N.names.length N.nc) rfl
 by_cases hlt : i < N.names.length
 ·obtain ⟨b, o, s, hp, hs, c0, _⟩ := hN.names.at_ hlt
  rw [show calNm N i = s from getD_some hs] at hR
  rw [hp] at b1
  have HR := hide hR
  obtain ⟨n, hn⟩ : ∃ n, N.names.length = n := ⟨_, rfl⟩
  rw [hn] at b1 hlt hl
  clear hR hB hN hs hp hn
  go_enter Tryz.func225, Tryz.ntmps225
  go_wp2
  exact HR.out
 ·rw [show calNm N i = ⟨#[]⟩ from by unfold calNm; rw [List.getD_eq_getElem?_getD, List.getElem?_eq_none (by omega)]; rfl] at hR
  have HR := hide hR
  obtain ⟨n, hn⟩ : ∃ n, N.names.length = n := ⟨_, rfl⟩
  rw [hn] at b1 hlt hl
  have hge : ¬ (i : Int) < (n : Int) := by omega
  clear hR hB hN hn
  go_enter Tryz.func225, Tryz.ntmps225
  go_wp2
  exact HR.out
theorem szCal {w : World} {N : Net} (hN : NetAt w N) {i : Nat} (hi : i < N.cals.length) : (calNm N i).size ≤ maxLen := by
 unfold calNm
 rw [List.getD_eq_getElem?_getD]
 cases h : N.names[i]? with
 | none => show (0 : Nat) ≤ maxLen; decide
 | some s => exact hN.names.2.1 s (List.mem_of_getElem? h)
theorem nmCal_q (N : Net) (gn i : Nat) (w : World) (hB : Blk w gn N.cells 29) (hN : NetAt w N) (hi : i < N.cals.length) : Calls Tryz.prog 225 #[.int .i64 (i : Int), .pointer (some ⟨gn, 0, none⟩)] w fun e w' => e = .returned (.string (calNm N i)) ∧ Dr w w' :=
 nmCal_c N gn i w _ hB hN hi ⟨rfl, 0, rfl⟩
set_option maxRecDepth 100000 in
theorem nmOpr_c (N : Net) (gn i : Nat) (w : World) (R) (hB : Blk w gn N.cells 29) (hN : NetAt w N) (hi : i < N.oprs.length) (hR : R (.returned (.string (oprNm N i))) w) : Calls Tryz.prog 228 #[.int .i64 (i : Int), .pointer (some ⟨gn, 0, none⟩)] w R := by
 have hl := hN.lens
 have b1 := hB.cell (k := 2) (v := .slice N.op N.oprs.length N.oc) rfl
 obtain ⟨b, o, s, hp, hs, c0, _⟩ := hN.oprs.at_ hi
 rw [show oprNm N i = s from getD_some hs] at hR
 rw [hp] at b1
 have HR := hide hR
 obtain ⟨n, hn⟩ : ∃ n, N.oprs.length = n := ⟨_, rfl⟩
 rw [hn] at b1 hi hl
 clear hR hB hN hs hp hn
 go_enter Tryz.func228, Tryz.ntmps228
 go_wp2
 exact HR.out
theorem szOpr {w : World} {N : Net} (hN : NetAt w N) {i : Nat} (hi : i < N.oprs.length) : (oprNm N i).size ≤ maxLen := by
 unfold oprNm
 rw [List.getD_eq_getElem?_getD]
 cases h : N.oprs[i]? with
 | none => show (0 : Nat) ≤ maxLen; decide
 | some s => exact hN.oprs.2.1 s (List.mem_of_getElem? h)
theorem nmOpr_q (N : Net) (gn i : Nat) (w : World) (hB : Blk w gn N.cells 29) (hN : NetAt w N) (hi : i < N.oprs.length) : Calls Tryz.prog 228 #[.int .i64 (i : Int), .pointer (some ⟨gn, 0, none⟩)] w fun e w' => e = .returned (.string (oprNm N i)) ∧ Dr w w' :=
 nmOpr_c N gn i w _ hB hN hi ⟨rfl, 0, rfl⟩
set_option maxRecDepth 100000 in
theorem nmOff_c (N : Net) (gn i : Nat) (w : World) (R) (hB : Blk w gn N.cells 29) (hN : NetAt w N) (hi : i < N.offs.length) (hR : R (.returned (.string (offNm N i))) w) : Calls Tryz.prog 231 #[.int .i64 (i : Int), .pointer (some ⟨gn, 0, none⟩)] w R := by
 have hl := hN.lens
 have b1 := hB.cell (k := 3) (v := .slice N.fp N.offs.length N.fc) rfl
 obtain ⟨b, o, x, hp, hx, _, c0, _⟩ := hN.off_ hi
 rw [show offNm N i = x.name from by unfold offNm; rw [getD_some hx]] at hR
 rw [hp] at b1
 have HR := hide hR
 obtain ⟨n, hn⟩ : ∃ n, N.offs.length = n := ⟨_, rfl⟩
 rw [hn] at b1 hi hl
 clear hR hB hN hx hp hn
 go_enter Tryz.func231, Tryz.ntmps231
 go_wp2
 exact HR.out
theorem szOff {w : World} {N : Net} (hN : NetAt w N) {i : Nat} (hi : i < N.offs.length) : (offNm N i).size ≤ maxLen := by
 unfold offNm
 have hx : N.offs[i]? = some N.offs[i] := List.getElem?_eq_getElem hi
 rw [getD_some hx]
 exact (hN.off _ (List.mem_of_getElem? hx)).name
theorem nmOff_q (N : Net) (gn i : Nat) (w : World) (hB : Blk w gn N.cells 29) (hN : NetAt w N) (hi : i < N.offs.length) : Calls Tryz.prog 231 #[.int .i64 (i : Int), .pointer (some ⟨gn, 0, none⟩)] w fun e w' => e = .returned (.string (offNm N i)) ∧ Dr w w' :=
 nmOff_c N gn i w _ hB hN hi ⟨rfl, 0, rfl⟩
set_option maxRecDepth 100000 in
theorem nmLin_c (N : Net) (gn i : Nat) (w : World) (R) (hB : Blk w gn N.cells 29) (hN : NetAt w N) (hi : i < N.lins.length) (hR : R (.returned (.string (linNm N i))) w) : Calls Tryz.prog 235 #[.int .i64 (i : Int), .pointer (some ⟨gn, 0, none⟩)] w R := by
 have hl := hN.lens
 have b1 := hB.cell (k := 4) (v := .slice N.lp N.lins.length N.lc) rfl
 obtain ⟨b, o, x, hp, hx, _, c0, _⟩ := hN.lin_ hi
 rw [show linNm N i = x.name from by unfold linNm; rw [getD_some hx]] at hR
 rw [hp] at b1
 have HR := hide hR
 obtain ⟨n, hn⟩ : ∃ n, N.lins.length = n := ⟨_, rfl⟩
 rw [hn] at b1 hi hl
 clear hR hB hN hx hp hn
 go_enter Tryz.func235, Tryz.ntmps235
 go_wp2
 exact HR.out
theorem szLin {w : World} {N : Net} (hN : NetAt w N) {i : Nat} (hi : i < N.lins.length) : (linNm N i).size ≤ maxLen := by
 unfold linNm
 have hx : N.lins[i]? = some N.lins[i] := List.getElem?_eq_getElem hi
 rw [getD_some hx]
 exact (hN.lin _ (List.mem_of_getElem? hx)).1
theorem nmLin_q (N : Net) (gn i : Nat) (w : World) (hB : Blk w gn N.cells 29) (hN : NetAt w N) (hi : i < N.lins.length) : Calls Tryz.prog 235 #[.int .i64 (i : Int), .pointer (some ⟨gn, 0, none⟩)] w fun e w' => e = .returned (.string (linNm N i)) ∧ Dr w w' :=
 nmLin_c N gn i w _ hB hN hi ⟨rfl, 0, rfl⟩
set_option maxRecDepth 100000 in
theorem nmCls_c (N : Net) (gn i : Nat) (w : World) (R) (hB : Blk w gn N.cells 29) (hN : NetAt w N) (hi : i < N.clss.length) (hR : R (.returned (.string (clsNm N i))) w) : Calls Tryz.prog 239 #[.int .i64 (i : Int), .pointer (some ⟨gn, 0, none⟩)] w R := by
 have hl := hN.lens
 have b1 := hB.cell (k := 5) (v := .slice N.kp N.clss.length N.kc) rfl
 obtain ⟨b, o, x, hp, hx, _, c0, _⟩ := hN.cls_ hi
 rw [show clsNm N i = x.name from by unfold clsNm; rw [getD_some hx]] at hR
 rw [hp] at b1
 have HR := hide hR
 obtain ⟨n, hn⟩ : ∃ n, N.clss.length = n := ⟨_, rfl⟩
 rw [hn] at b1 hi hl
 clear hR hB hN hx hp hn
 go_enter Tryz.func239, Tryz.ntmps239
 go_wp2
 exact HR.out
theorem szCls {w : World} {N : Net} (hN : NetAt w N) {i : Nat} (hi : i < N.clss.length) : (clsNm N i).size ≤ maxLen := by
 unfold clsNm
 have hx : N.clss[i]? = some N.clss[i] := List.getElem?_eq_getElem hi
 rw [getD_some hx]
 exact (hN.cls _ (List.mem_of_getElem? hx)).1
theorem nmCls_q (N : Net) (gn i : Nat) (w : World) (hB : Blk w gn N.cells 29) (hN : NetAt w N) (hi : i < N.clss.length) : Calls Tryz.prog 239 #[.int .i64 (i : Int), .pointer (some ⟨gn, 0, none⟩)] w fun e w' => e = .returned (.string (clsNm N i)) ∧ Dr w w' :=
 nmCls_c N gn i w _ hB hN hi ⟨rfl, 0, rfl⟩
theorem gdOpr_c (s : ByteArray) (w : World) (R) (hR : ∀ w', Below w.heap.size w w' → R (.returned (.bool true)) w') : Calls Tryz.prog 230 #[.agg #[.string s]] w R := by
 have HR := hide (hR _ (balloc (Below.refl _ _) (.cells #[.string s] 166)))
 clear hR
 go_enter Tryz.func230, Tryz.ntmps230
 go_wp2
 exact HR.out
set_option maxRecDepth 100000 in
set_option maxHeartbeats 2000000 in
theorem gdOff_c (N : Net) (gn : Nat) (x : Off) (w : World) (R) (hB : Blk w gn N.cells 29) (hN : NetAt w N) (ho : OffAt w x) (hR : ∀ w', Below w.heap.size w w' → R (.returned (.bool (offOk N x))) w') : Calls Tryz.prog 233 #[.agg x.cells.toArray, .pointer (some ⟨gn, 0, none⟩)] w R := by
 have HR := hide hR
 obtain ⟨w1, hw1⟩ : ∃ w1, w.alloc (.cells x.cells.toArray 65) = w1 := ⟨_, rfl⟩
 have hb1 : Below w.heap.size w w1 := hw1 ▸ balloc (Below.refl _ _) _
 have HB1 := hide hb1
 have HK : Blk w1 w.heap.size x.cells.toArray 65 := hw1 ▸ Blk.new _ _ _
 have HBN := hB.next hb1
 have Hc := hide (And.intro (show N.oprs.length ≤ maxLen ∧ N.cals.length ≤ maxLen from ⟨hN.oprs.2.2, hN.len.1⟩) (ho.keep (Keeps.of_below hb1)))
 have y0 := HK.cell (k := 0) (v := .string x.name) rfl; have y1 := HK.cell (k := 1) (v := .int .i64 x.operator) rfl; have y2 := HK.cell (k := 2) (v := .int .i64 x.calendar) rfl; have y3 := HK.cell (k := 3) (v := .int .i64 x.pockets) rfl; have y4 := HK.cell (k := 4) (v := .int .i64 x.passes) rfl; have y5 := HK.cell (k := 5) (v := .int .i64 x.minutes) rfl; have y6 := HK.cell (k := 6) (v := .slice x.cp x.codes.length x.cc) rfl
 have z0 := HBN.cell (k := 0) (v := .slice N.cp N.cals.length N.cc) rfl; have z1 := HBN.cell (k := 1) (v := .slice N.np N.names.length N.nc) rfl; have z2 := HBN.cell (k := 2) (v := .slice N.op N.oprs.length N.oc) rfl; have z3 := HBN.cell (k := 3) (v := .slice N.fp N.offs.length N.fc) rfl; have z4 := HBN.cell (k := 4) (v := .slice N.lp N.lins.length N.lc) rfl; have z5 := HBN.cell (k := 5) (v := .slice N.kp N.clss.length N.kc) rfl
 unfold Off.cells at hw1 ⊢
 clear hR hb1 hB hN HK HBN ho
 go_enter Tryz.func233, Tryz.ntmps233
 go_wp2_with (go_at_call 234; refine Stop.out ?_)
 refine Stop.go (goodOff_c N x _ _ Hc.out.1 Hc.out.2 ?_)
 intro w2 hb2
 have HF := hide (HR.out _ (bseq HB1.out hb2))
 clear hb2
 go_wp2
 exact HF.out
set_option maxRecDepth 100000 in
set_option maxHeartbeats 2000000 in
theorem gdLin_c (N : Net) (gn : Nat) (x : Lin) (w : World) (R) (hB : Blk w gn N.cells 29) (hN : NetAt w N) (hR : ∀ w', Below w.heap.size w w' → R (.returned (.bool (linOk N x))) w') : Calls Tryz.prog 237 #[.agg x.cells.toArray, .pointer (some ⟨gn, 0, none⟩)] w R := by
 have HR := hide hR
 obtain ⟨w1, hw1⟩ : ∃ w1, w.alloc (.cells x.cells.toArray 55) = w1 := ⟨_, rfl⟩
 have hb1 : Below w.heap.size w w1 := hw1 ▸ balloc (Below.refl _ _) _
 have HB1 := hide hb1
 have HK : Blk w1 w.heap.size x.cells.toArray 55 := hw1 ▸ Blk.new _ _ _
 have HBN := hB.next hb1
 have Hc := hide (show N.offs.length ≤ maxLen from hN.len.2.1)
 have y0 := HK.cell (k := 0) (v := .string x.name) rfl; have y1 := HK.cell (k := 1) (v := .int .i64 x.src) rfl; have y2 := HK.cell (k := 2) (v := .int .i64 x.dst) rfl; have y3 := HK.cell (k := 3) (v := .int .i64 x.at_) rfl; have y4 := HK.cell (k := 4) (v := .int .i64 x.travel) rfl; have y5 := HK.cell (k := 5) (v := .int .i64 x.load) rfl
 have z0 := HBN.cell (k := 0) (v := .slice N.cp N.cals.length N.cc) rfl; have z1 := HBN.cell (k := 1) (v := .slice N.np N.names.length N.nc) rfl; have z2 := HBN.cell (k := 2) (v := .slice N.op N.oprs.length N.oc) rfl; have z3 := HBN.cell (k := 3) (v := .slice N.fp N.offs.length N.fc) rfl; have z4 := HBN.cell (k := 4) (v := .slice N.lp N.lins.length N.lc) rfl; have z5 := HBN.cell (k := 5) (v := .slice N.kp N.clss.length N.kc) rfl
 unfold Lin.cells at hw1 ⊢
 clear hR hb1 hB hN HK HBN
 go_enter Tryz.func237, Tryz.ntmps237
 go_wp2_with (go_at_call 238; refine Stop.out ?_)
 refine Stop.go (goodLin_c N x _ _ Hc.out ?_)
 intro w2 hb2
 have HF := hide (HR.out _ (bseq HB1.out hb2))
 clear hb2
 go_wp2
 exact HF.out
end Go.Proofs.YtgfhcmidnbahjaaGreatDoor
