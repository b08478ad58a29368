/- Survey: the names and the rightness of the fixed network's things. -/
import Derived.Test.YtkabghifdedmfaaGreatDoorB31
set_option linter.unusedVariables false
set_option linter.unusedSimpArgs false
namespace Go.Proofs.YtkabghifdedmfaaGreatDoor
open Go.RowKit Go.Sort Go.Shelf

set_option maxRecDepth 100000 in
theorem nameCal0_c (a : Net) (gn : Nat) (w : World) (R) (hB : Blk w gn #[.slice (some ⟨a.cal, 0, none⟩) 1 1, .slice (some ⟨a.nam, 0, none⟩) 1 1, .slice (some ⟨a.opr, 0, none⟩) 2 2, .slice (some ⟨a.off, 0, none⟩) 2 2, .slice (some ⟨a.lin, 0, none⟩) 2 2, .slice (some ⟨a.cls, 0, none⟩) 1 1] 60) (hN : NetAt w a) (hR : R (.returned (.string (str1 99))) w) : Calls Tryz.prog 108 #[.int .i64 0, .pointer (some ⟨gn, 0, none⟩)] w R := by
  have HR := hide hR
  have b1 := hB.cell (k := 1) rfl
  have x0 := hN.nam.cell (k := 0) rfl
  clear hR hB hN
  go_enter Tryz.func108, Tryz.ntmps108
  go_wp2
  exact HR.out
set_option maxRecDepth 100000 in
theorem nameOpr0_c (a : Net) (gn : Nat) (w : World) (R) (hB : Blk w gn #[.slice (some ⟨a.cal, 0, none⟩) 1 1, .slice (some ⟨a.nam, 0, none⟩) 1 1, .slice (some ⟨a.opr, 0, none⟩) 2 2, .slice (some ⟨a.off, 0, none⟩) 2 2, .slice (some ⟨a.lin, 0, none⟩) 2 2, .slice (some ⟨a.cls, 0, none⟩) 1 1] 60) (hN : NetAt w a) (hR : R (.returned (.string (str1 112))) w) : Calls Tryz.prog 111 #[.int .i64 0, .pointer (some ⟨gn, 0, none⟩)] w R := by
  have HR := hide hR
  have b2 := hB.cell (k := 2) rfl
  have x0 := hN.opr.cell (k := 0) rfl
  clear hR hB hN
  go_enter Tryz.func111, Tryz.ntmps111
  go_wp2
  exact HR.out
set_option maxRecDepth 100000 in
theorem nameOpr1_c (a : Net) (gn : Nat) (w : World) (R) (hB : Blk w gn #[.slice (some ⟨a.cal, 0, none⟩) 1 1, .slice (some ⟨a.nam, 0, none⟩) 1 1, .slice (some ⟨a.opr, 0, none⟩) 2 2, .slice (some ⟨a.off, 0, none⟩) 2 2, .slice (some ⟨a.lin, 0, none⟩) 2 2, .slice (some ⟨a.cls, 0, none⟩) 1 1] 60) (hN : NetAt w a) (hR : R (.returned (.string (str1 113))) w) : Calls Tryz.prog 111 #[.int .i64 1, .pointer (some ⟨gn, 0, none⟩)] w R := by
  have HR := hide hR
  have b2 := hB.cell (k := 2) rfl
  have x0 := hN.opr.cell (k := 1) rfl
  clear hR hB hN
  go_enter Tryz.func111, Tryz.ntmps111
  go_wp2
  exact HR.out
set_option maxRecDepth 100000 in
theorem nameOff0_c (a : Net) (gn : Nat) (w : World) (R) (hB : Blk w gn #[.slice (some ⟨a.cal, 0, none⟩) 1 1, .slice (some ⟨a.nam, 0, none⟩) 1 1, .slice (some ⟨a.opr, 0, none⟩) 2 2, .slice (some ⟨a.off, 0, none⟩) 2 2, .slice (some ⟨a.lin, 0, none⟩) 2 2, .slice (some ⟨a.cls, 0, none⟩) 1 1] 60) (hN : NetAt w a) (hR : R (.returned (.string (str1 97))) w) : Calls Tryz.prog 114 #[.int .i64 0, .pointer (some ⟨gn, 0, none⟩)] w R := by
  have HR := hide hR
  have b3 := hB.cell (k := 3) rfl
  have x0 := hN.off.cell (k := 0) rfl
  clear hR hB hN
  go_enter Tryz.func114, Tryz.ntmps114
  go_wp2
  exact HR.out
set_option maxRecDepth 100000 in
theorem nameOff1_c (a : Net) (gn : Nat) (w : World) (R) (hB : Blk w gn #[.slice (some ⟨a.cal, 0, none⟩) 1 1, .slice (some ⟨a.nam, 0, none⟩) 1 1, .slice (some ⟨a.opr, 0, none⟩) 2 2, .slice (some ⟨a.off, 0, none⟩) 2 2, .slice (some ⟨a.lin, 0, none⟩) 2 2, .slice (some ⟨a.cls, 0, none⟩) 1 1] 60) (hN : NetAt w a) (hR : R (.returned (.string (str1 98))) w) : Calls Tryz.prog 114 #[.int .i64 1, .pointer (some ⟨gn, 0, none⟩)] w R := by
  have HR := hide hR
  have b3 := hB.cell (k := 3) rfl
  have x0 := hN.off.cell (k := 7) rfl
  clear hR hB hN
  go_enter Tryz.func114, Tryz.ntmps114
  go_wp2
  exact HR.out
set_option maxRecDepth 100000 in
theorem nameLin0_c (a : Net) (gn : Nat) (w : World) (R) (hB : Blk w gn #[.slice (some ⟨a.cal, 0, none⟩) 1 1, .slice (some ⟨a.nam, 0, none⟩) 1 1, .slice (some ⟨a.opr, 0, none⟩) 2 2, .slice (some ⟨a.off, 0, none⟩) 2 2, .slice (some ⟨a.lin, 0, none⟩) 2 2, .slice (some ⟨a.cls, 0, none⟩) 1 1] 60) (hN : NetAt w a) (hR : R (.returned (.string (str1 108))) w) : Calls Tryz.prog 118 #[.int .i64 0, .pointer (some ⟨gn, 0, none⟩)] w R := by
  have HR := hide hR
  have b4 := hB.cell (k := 4) rfl
  have x0 := hN.lin.cell (k := 0) rfl
  clear hR hB hN
  go_enter Tryz.func118, Tryz.ntmps118
  go_wp2
  exact HR.out
set_option maxRecDepth 100000 in
theorem nameLin1_c (a : Net) (gn : Nat) (w : World) (R) (hB : Blk w gn #[.slice (some ⟨a.cal, 0, none⟩) 1 1, .slice (some ⟨a.nam, 0, none⟩) 1 1, .slice (some ⟨a.opr, 0, none⟩) 2 2, .slice (some ⟨a.off, 0, none⟩) 2 2, .slice (some ⟨a.lin, 0, none⟩) 2 2, .slice (some ⟨a.cls, 0, none⟩) 1 1] 60) (hN : NetAt w a) (hR : R (.returned (.string (str1 109))) w) : Calls Tryz.prog 118 #[.int .i64 1, .pointer (some ⟨gn, 0, none⟩)] w R := by
  have HR := hide hR
  have b4 := hB.cell (k := 4) rfl
  have x0 := hN.lin.cell (k := 6) rfl
  clear hR hB hN
  go_enter Tryz.func118, Tryz.ntmps118
  go_wp2
  exact HR.out
set_option maxRecDepth 100000 in
theorem nameCls0_c (a : Net) (gn : Nat) (w : World) (R) (hB : Blk w gn #[.slice (some ⟨a.cal, 0, none⟩) 1 1, .slice (some ⟨a.nam, 0, none⟩) 1 1, .slice (some ⟨a.opr, 0, none⟩) 2 2, .slice (some ⟨a.off, 0, none⟩) 2 2, .slice (some ⟨a.lin, 0, none⟩) 2 2, .slice (some ⟨a.cls, 0, none⟩) 1 1] 60) (hN : NetAt w a) (hR : R (.returned (.string (str1 107))) w) : Calls Tryz.prog 122 #[.int .i64 0, .pointer (some ⟨gn, 0, none⟩)] w R := by
  have HR := hide hR
  have b5 := hB.cell (k := 5) rfl
  have x0 := hN.cls.cell (k := 0) rfl
  clear hR hB hN
  go_enter Tryz.func122, Tryz.ntmps122
  go_wp2
  exact HR.out
theorem Blk.dn {w : World} {g : Nat} {cs : Array Value} {t : TypeId} (h : Blk w g cs t) (n : Nat) : Blk (w.drewN n) g cs t := h.drewN n
theorem NetAt.drewN {w : World} {a : Net} (h : NetAt w a) (n : Nat) : NetAt (w.drewN n) a := ⟨h.week.drewN n, h.cal.drewN n, h.nam.drewN n, h.opr.drewN n, h.off.drewN n, h.lin.drewN n, h.cls.drewN n⟩
theorem nameCal0_q (a : Net) (gn : Nat) (w : World) (hB : Blk w gn #[.slice (some ⟨a.cal, 0, none⟩) 1 1, .slice (some ⟨a.nam, 0, none⟩) 1 1, .slice (some ⟨a.opr, 0, none⟩) 2 2, .slice (some ⟨a.off, 0, none⟩) 2 2, .slice (some ⟨a.lin, 0, none⟩) 2 2, .slice (some ⟨a.cls, 0, none⟩) 1 1] 60) (hN : NetAt w a) : Calls Tryz.prog 108 #[.int .i64 0, .pointer (some ⟨gn, 0, none⟩)] w fun e w' => e = .returned (.string (str1 99)) ∧ Dr w w' :=
  nameCal0_c a gn w _ hB hN ⟨rfl, 0, rfl⟩
theorem nameOpr0_q (a : Net) (gn : Nat) (w : World) (hB : Blk w gn #[.slice (some ⟨a.cal, 0, none⟩) 1 1, .slice (some ⟨a.nam, 0, none⟩) 1 1, .slice (some ⟨a.opr, 0, none⟩) 2 2, .slice (some ⟨a.off, 0, none⟩) 2 2, .slice (some ⟨a.lin, 0, none⟩) 2 2, .slice (some ⟨a.cls, 0, none⟩) 1 1] 60) (hN : NetAt w a) : Calls Tryz.prog 111 #[.int .i64 0, .pointer (some ⟨gn, 0, none⟩)] w fun e w' => e = .returned (.string (str1 112)) ∧ Dr w w' :=
  nameOpr0_c a gn w _ hB hN ⟨rfl, 0, rfl⟩
theorem nameOpr1_q (a : Net) (gn : Nat) (w : World) (hB : Blk w gn #[.slice (some ⟨a.cal, 0, none⟩) 1 1, .slice (some ⟨a.nam, 0, none⟩) 1 1, .slice (some ⟨a.opr, 0, none⟩) 2 2, .slice (some ⟨a.off, 0, none⟩) 2 2, .slice (some ⟨a.lin, 0, none⟩) 2 2, .slice (some ⟨a.cls, 0, none⟩) 1 1] 60) (hN : NetAt w a) : Calls Tryz.prog 111 #[.int .i64 1, .pointer (some ⟨gn, 0, none⟩)] w fun e w' => e = .returned (.string (str1 113)) ∧ Dr w w' :=
  nameOpr1_c a gn w _ hB hN ⟨rfl, 0, rfl⟩
theorem nameOff0_q (a : Net) (gn : Nat) (w : World) (hB : Blk w gn #[.slice (some ⟨a.cal, 0, none⟩) 1 1, .slice (some ⟨a.nam, 0, none⟩) 1 1, .slice (some ⟨a.opr, 0, none⟩) 2 2, .slice (some ⟨a.off, 0, none⟩) 2 2, .slice (some ⟨a.lin, 0, none⟩) 2 2, .slice (some ⟨a.cls, 0, none⟩) 1 1] 60) (hN : NetAt w a) : Calls Tryz.prog 114 #[.int .i64 0, .pointer (some ⟨gn, 0, none⟩)] w fun e w' => e = .returned (.string (str1 97)) ∧ Dr w w' :=
  nameOff0_c a gn w _ hB hN ⟨rfl, 0, rfl⟩
theorem nameOff1_q (a : Net) (gn : Nat) (w : World) (hB : Blk w gn #[.slice (some ⟨a.cal, 0, none⟩) 1 1, .slice (some ⟨a.nam, 0, none⟩) 1 1, .slice (some ⟨a.opr, 0, none⟩) 2 2, .slice (some ⟨a.off, 0, none⟩) 2 2, .slice (some ⟨a.lin, 0, none⟩) 2 2, .slice (some ⟨a.cls, 0, none⟩) 1 1] 60) (hN : NetAt w a) : Calls Tryz.prog 114 #[.int .i64 1, .pointer (some ⟨gn, 0, none⟩)] w fun e w' => e = .returned (.string (str1 98)) ∧ Dr w w' :=
  nameOff1_c a gn w _ hB hN ⟨rfl, 0, rfl⟩
theorem nameLin0_q (a : Net) (gn : Nat) (w : World) (hB : Blk w gn #[.slice (some ⟨a.cal, 0, none⟩) 1 1, .slice (some ⟨a.nam, 0, none⟩) 1 1, .slice (some ⟨a.opr, 0, none⟩) 2 2, .slice (some ⟨a.off, 0, none⟩) 2 2, .slice (some ⟨a.lin, 0, none⟩) 2 2, .slice (some ⟨a.cls, 0, none⟩) 1 1] 60) (hN : NetAt w a) : Calls Tryz.prog 118 #[.int .i64 0, .pointer (some ⟨gn, 0, none⟩)] w fun e w' => e = .returned (.string (str1 108)) ∧ Dr w w' :=
  nameLin0_c a gn w _ hB hN ⟨rfl, 0, rfl⟩
theorem nameLin1_q (a : Net) (gn : Nat) (w : World) (hB : Blk w gn #[.slice (some ⟨a.cal, 0, none⟩) 1 1, .slice (some ⟨a.nam, 0, none⟩) 1 1, .slice (some ⟨a.opr, 0, none⟩) 2 2, .slice (some ⟨a.off, 0, none⟩) 2 2, .slice (some ⟨a.lin, 0, none⟩) 2 2, .slice (some ⟨a.cls, 0, none⟩) 1 1] 60) (hN : NetAt w a) : Calls Tryz.prog 118 #[.int .i64 1, .pointer (some ⟨gn, 0, none⟩)] w fun e w' => e = .returned (.string (str1 109)) ∧ Dr w w' :=
  nameLin1_c a gn w _ hB hN ⟨rfl, 0, rfl⟩
theorem nameCls0_q (a : Net) (gn : Nat) (w : World) (hB : Blk w gn #[.slice (some ⟨a.cal, 0, none⟩) 1 1, .slice (some ⟨a.nam, 0, none⟩) 1 1, .slice (some ⟨a.opr, 0, none⟩) 2 2, .slice (some ⟨a.off, 0, none⟩) 2 2, .slice (some ⟨a.lin, 0, none⟩) 2 2, .slice (some ⟨a.cls, 0, none⟩) 1 1] 60) (hN : NetAt w a) : Calls Tryz.prog 122 #[.int .i64 0, .pointer (some ⟨gn, 0, none⟩)] w fun e w' => e = .returned (.string (str1 107)) ∧ Dr w w' :=
  nameCls0_c a gn w _ hB hN ⟨rfl, 0, rfl⟩
theorem isIndex145_c (p : Option Addr) (i n c : Nat) (w : World) (R) (h : i < n) (hn : n ≤ 1000) (hR : R (.returned (.bool true)) w) : Calls Tryz.prog 145 #[.int .i64 (i : Int), .slice p n c] w R := by
  have HR := hide hR
  have h1 : (0 : Int) ≤ (i : Int) := by omega
  have h2 : (i : Int) < (n : Int) := by omega
  clear hR h
  go_enter Tryz.func145, Tryz.ntmps145
  go_wp2
  exact HR.out
theorem isIndex146_c (p : Option Addr) (i n c : Nat) (w : World) (R) (h : i < n) (hn : n ≤ 1000) (hR : R (.returned (.bool true)) w) : Calls Tryz.prog 146 #[.int .i64 (i : Int), .slice p n c] w R := by
  have HR := hide hR
  have h1 : (0 : Int) ≤ (i : Int) := by omega
  have h2 : (i : Int) < (n : Int) := by omega
  clear hR h
  go_enter Tryz.func146, Tryz.ntmps146
  go_wp2
  exact HR.out
theorem isIndex152_c (p : Option Addr) (i n c : Nat) (w : World) (R) (h : i < n) (hn : n ≤ 1000) (hR : R (.returned (.bool true)) w) : Calls Tryz.prog 152 #[.int .i64 (i : Int), .slice p n c] w R := by
  have HR := hide hR
  have h1 : (0 : Int) ≤ (i : Int) := by omega
  have h2 : (i : Int) < (n : Int) := by omega
  clear hR h
  go_enter Tryz.func152, Tryz.ntmps152
  go_wp2
  exact HR.out
set_option maxRecDepth 100000 in
set_option maxHeartbeats 2000000 in
theorem validCal_c (g7 : Nat) (w : World) (R) (hR : ∀ w', Below w.heap.size w w' → R (.returned (.bool true)) w') : Calls Tryz.prog 110 #[.agg #[.int .i64 0, .slice (some ⟨g7, 0, none⟩) 7 7, .slice none 0 0]] w R := by
  have HR := hide hR
  obtain ⟨w1, hw1⟩ : ∃ w1, w.alloc (.cells #[.int .i64 0, .slice (some ⟨g7, 0, none⟩) 7 7, .slice none 0 0] 104) = w1 := ⟨_, rfl⟩
  have hb1 : Below w.heap.size w w1 := hw1 ▸ balloc (Below.refl _ _) _
  have k1 : Blk w1 w.heap.size #[.int .i64 0, .slice (some ⟨g7, 0, none⟩) 7 7, .slice none 0 0] 104 := hw1 ▸ Blk.new _ _ _
  have HF := hide (HR.out _ hb1)
  have x0 := k1.cell (k := 0) rfl; have x1 := k1.cell (k := 1) rfl; have x2 := k1.cell (k := 2) rfl
  clear hR hb1 k1 HR
  go_enter Tryz.func110, Tryz.ntmps110
  go_wp2
  go_loopw [3] (fun si wr => si = .int .i64 1 ∧ wr = w1) (fun _ _ => 0)
  case atStart => exact ⟨rfl, rfl⟩
  case round =>
    obtain ⟨rfl, rfl⟩ := hrel
    go_wp2
    exact HF.out
theorem goodOpr_c (v : Value) (s : ByteArray) (w : World) (R) (hR : ∀ w', Below w.heap.size w w' → R (.returned (.bool true)) w') : Calls Tryz.prog 113 #[.agg #[.string s]] w R := by
  have HR := hide (hR _ (balloc (Below.refl _ _) (.cells #[.string s] 106)))
  clear hR
  go_enter Tryz.func113, Tryz.ntmps113
  go_wp2
  exact HR.out
set_option maxRecDepth 100000 in
set_option maxHeartbeats 2000000 in
theorem goodCls_c (w : World) (R) (hR : ∀ w', Below w.heap.size w w' → R (.returned (.bool true)) w') : Calls Tryz.prog 124 #[.agg #[.string (str1 107), .int .i64 1020, .int .i64 720]] w R := by
  have HR := hide (hR _ (balloc (Below.refl _ _) (.cells #[.string (str1 107), .int .i64 1020, .int .i64 720] 112)))
  clear hR
  go_enter Tryz.func124, Tryz.ntmps124
  go_wp2_with (go_at_call 125; refine Stop.out ?_)
  refine Stop.go (isMinute_c 1020 _ _ (by decide) (by decide) ?_)
  go_wp2_with (go_at_call 125; refine Stop.out ?_)
  refine Stop.go (isMinute_c 720 _ _ (by decide) (by decide) ?_)
  go_wp2
  exact HR.out
set_option maxRecDepth 100000 in
set_option maxHeartbeats 4000000 in
theorem goodOff0_c (a : Net) (w : World) (R) (hR : ∀ w', Below w.heap.size w w' → R (.returned (.bool true)) w') : Calls Tryz.prog 117 #[.agg #[.slice (some ⟨a.cal, 0, none⟩) 1 1, .slice (some ⟨a.nam, 0, none⟩) 1 1, .slice (some ⟨a.opr, 0, none⟩) 2 2, .slice (some ⟨a.off, 0, none⟩) 2 2, .slice (some ⟨a.lin, 0, none⟩) 2 2, .slice (some ⟨a.cls, 0, none⟩) 1 1], .agg #[.string (str1 97), .int .i64 0, .int .i64 0, .int .i64 2, .int .i64 1, .int .i64 10, .slice none 0 0]] w R := by
  have HR := hide (hR _ (balloc (balloc (Below.refl _ _) (.cells #[.slice (some ⟨a.cal, 0, none⟩) 1 1, .slice (some ⟨a.nam, 0, none⟩) 1 1, .slice (some ⟨a.opr, 0, none⟩) 2 2, .slice (some ⟨a.off, 0, none⟩) 2 2, .slice (some ⟨a.lin, 0, none⟩) 2 2, .slice (some ⟨a.cls, 0, none⟩) 1 1] 60)) (.cells #[.string (str1 97), .int .i64 0, .int .i64 0, .int .i64 2, .int .i64 1, .int .i64 10, .slice none 0 0] 108)))
  clear hR
  go_enter Tryz.func117, Tryz.ntmps117
  go_wp2_with (go_at_call 145; refine Stop.out ?_)
  refine Stop.go (isIndex145_c _ 0 2 2 _ _ (by decide) (by decide) ?_)
  go_wp2_with (go_at_call 146; refine Stop.out ?_)
  refine Stop.go (isIndex146_c _ 0 1 1 _ _ (by decide) (by decide) ?_)
  go_wp2
  obtain ⟨w1, hw1⟩ : ∃ w1, ((w.alloc (.cells #[.slice (some ⟨a.cal, 0, none⟩) 1 1, .slice (some ⟨a.nam, 0, none⟩) 1 1, .slice (some ⟨a.opr, 0, none⟩) 2 2, .slice (some ⟨a.off, 0, none⟩) 2 2, .slice (some ⟨a.lin, 0, none⟩) 2 2, .slice (some ⟨a.cls, 0, none⟩) 1 1] 60)).alloc (.cells #[.string (str1 97), .int .i64 0, .int .i64 0, .int .i64 2, .int .i64 1, .int .i64 10, .slice none 0 0] 108)) = w1 := ⟨_, rfl⟩
  have k1 : Blk w1 (w.heap.size + 1) #[.string (str1 97), .int .i64 0, .int .i64 0, .int .i64 2, .int .i64 1, .int .i64 10, .slice none 0 0] 108 := hw1 ▸ Blk.new_at (by simp)
  rw [hw1] at HR ⊢
  have x0 := k1.cell (k := 0) rfl; have x1 := k1.cell (k := 1) rfl; have x2 := k1.cell (k := 2) rfl; have x3 := k1.cell (k := 3) rfl; have x4 := k1.cell (k := 4) rfl; have x5 := k1.cell (k := 5) rfl; have x6 := k1.cell (k := 6) rfl
  clear k1 hw1
  go_loopw [30] (fun si wr => si = .int .i64 0 ∧ wr = w1) (fun _ _ => 0)
  case atStart => exact ⟨rfl, rfl⟩
  case round =>
    obtain ⟨rfl, rfl⟩ := hrel
    go_wp2_with (go_at_call 148; refine Stop.out ?_)
    refine Stop.go (isFrom_c 2 2 64 _ _ (by decide) (by decide) ?_)
    go_wp2_with (go_at_call 148; refine Stop.out ?_)
    refine Stop.go (isFrom_c 1 1 4 _ _ (by decide) (by decide) ?_)
    go_wp2_with (go_at_call 148; refine Stop.out ?_)
    refine Stop.go (isFrom_c 10 1 240 _ _ (by decide) (by decide) ?_)
    go_wp2
    exact HR.out
set_option maxRecDepth 100000 in
theorem okOff0_c (a : Net) (gn : Nat) (w : World) (R) (hB : Blk w gn #[.slice (some ⟨a.cal, 0, none⟩) 1 1, .slice (some ⟨a.nam, 0, none⟩) 1 1, .slice (some ⟨a.opr, 0, none⟩) 2 2, .slice (some ⟨a.off, 0, none⟩) 2 2, .slice (some ⟨a.lin, 0, none⟩) 2 2, .slice (some ⟨a.cls, 0, none⟩) 1 1] 60) (hR : ∀ w', Below w.heap.size w w' → R (.returned (.bool true)) w') : Calls Tryz.prog 116 #[.agg #[.string (str1 97), .int .i64 0, .int .i64 0, .int .i64 2, .int .i64 1, .int .i64 10, .slice none 0 0], .pointer (some ⟨gn, 0, none⟩)] w R := by
  have HR := hide hR
  obtain ⟨w1, hw1⟩ : ∃ w1, w.alloc (.cells #[.string (str1 97), .int .i64 0, .int .i64 0, .int .i64 2, .int .i64 1, .int .i64 10, .slice none 0 0] 108) = w1 := ⟨_, rfl⟩
  have hb1 : Below w.heap.size w w1 := hw1 ▸ balloc (Below.refl _ _) _
  have HB1 := hide hb1
  have k1 : Blk w1 w.heap.size #[.string (str1 97), .int .i64 0, .int .i64 0, .int .i64 2, .int .i64 1, .int .i64 10, .slice none 0 0] 108 := hw1 ▸ Blk.new _ _ _
  have k2 := hB.next hb1
  have x0 := k1.cell (k := 0) rfl; have x1 := k1.cell (k := 1) rfl; have x2 := k1.cell (k := 2) rfl; have x3 := k1.cell (k := 3) rfl; have x4 := k1.cell (k := 4) rfl; have x5 := k1.cell (k := 5) rfl; have x6 := k1.cell (k := 6) rfl
  have y0 := k2.cell (k := 0) rfl; have y1 := k2.cell (k := 1) rfl; have y2 := k2.cell (k := 2) rfl; have y3 := k2.cell (k := 3) rfl; have y4 := k2.cell (k := 4) rfl; have y5 := k2.cell (k := 5) rfl
  clear hR hb1 k1 k2 hB
  go_enter Tryz.func116, Tryz.ntmps116
  go_wp2_with (go_at_call 117; refine Stop.out ?_)
  refine Stop.go (goodOff0_c a _ _ ?_)
  intro w2 hb2
  have HF := hide (HR.out _ (bseq HB1.out hb2))
  clear hb2 hw1
  go_wp2
  exact HF.out
set_option maxRecDepth 100000 in
set_option maxHeartbeats 4000000 in
theorem goodOff1_c (a : Net) (w : World) (R) (hR : ∀ w', Below w.heap.size w w' → R (.returned (.bool true)) w') : Calls Tryz.prog 117 #[.agg #[.slice (some ⟨a.cal, 0, none⟩) 1 1, .slice (some ⟨a.nam, 0, none⟩) 1 1, .slice (some ⟨a.opr, 0, none⟩) 2 2, .slice (some ⟨a.off, 0, none⟩) 2 2, .slice (some ⟨a.lin, 0, none⟩) 2 2, .slice (some ⟨a.cls, 0, none⟩) 1 1], .agg #[.string (str1 98), .int .i64 1, .int .i64 0, .int .i64 2, .int .i64 1, .int .i64 10, .slice none 0 0]] w R := by
  have HR := hide (hR _ (balloc (balloc (Below.refl _ _) (.cells #[.slice (some ⟨a.cal, 0, none⟩) 1 1, .slice (some ⟨a.nam, 0, none⟩) 1 1, .slice (some ⟨a.opr, 0, none⟩) 2 2, .slice (some ⟨a.off, 0, none⟩) 2 2, .slice (some ⟨a.lin, 0, none⟩) 2 2, .slice (some ⟨a.cls, 0, none⟩) 1 1] 60)) (.cells #[.string (str1 98), .int .i64 1, .int .i64 0, .int .i64 2, .int .i64 1, .int .i64 10, .slice none 0 0] 108)))
  clear hR
  go_enter Tryz.func117, Tryz.ntmps117
  go_wp2_with (go_at_call 145; refine Stop.out ?_)
  refine Stop.go (isIndex145_c _ 1 2 2 _ _ (by decide) (by decide) ?_)
  go_wp2_with (go_at_call 146; refine Stop.out ?_)
  refine Stop.go (isIndex146_c _ 0 1 1 _ _ (by decide) (by decide) ?_)
  go_wp2
  obtain ⟨w1, hw1⟩ : ∃ w1, ((w.alloc (.cells #[.slice (some ⟨a.cal, 0, none⟩) 1 1, .slice (some ⟨a.nam, 0, none⟩) 1 1, .slice (some ⟨a.opr, 0, none⟩) 2 2, .slice (some ⟨a.off, 0, none⟩) 2 2, .slice (some ⟨a.lin, 0, none⟩) 2 2, .slice (some ⟨a.cls, 0, none⟩) 1 1] 60)).alloc (.cells #[.string (str1 98), .int .i64 1, .int .i64 0, .int .i64 2, .int .i64 1, .int .i64 10, .slice none 0 0] 108)) = w1 := ⟨_, rfl⟩
  have k1 : Blk w1 (w.heap.size + 1) #[.string (str1 98), .int .i64 1, .int .i64 0, .int .i64 2, .int .i64 1, .int .i64 10, .slice none 0 0] 108 := hw1 ▸ Blk.new_at (by simp)
  rw [hw1] at HR ⊢
  have x0 := k1.cell (k := 0) rfl; have x1 := k1.cell (k := 1) rfl; have x2 := k1.cell (k := 2) rfl; have x3 := k1.cell (k := 3) rfl; have x4 := k1.cell (k := 4) rfl; have x5 := k1.cell (k := 5) rfl; have x6 := k1.cell (k := 6) rfl
  clear k1 hw1
  go_loopw [30] (fun si wr => si = .int .i64 0 ∧ wr = w1) (fun _ _ => 0)
  case atStart => exact ⟨rfl, rfl⟩
  case round =>
    obtain ⟨rfl, rfl⟩ := hrel
    go_wp2_with (go_at_call 148; refine Stop.out ?_)
    refine Stop.go (isFrom_c 2 2 64 _ _ (by decide) (by decide) ?_)
    go_wp2_with (go_at_call 148; refine Stop.out ?_)
    refine Stop.go (isFrom_c 1 1 4 _ _ (by decide) (by decide) ?_)
    go_wp2_with (go_at_call 148; refine Stop.out ?_)
    refine Stop.go (isFrom_c 10 1 240 _ _ (by decide) (by decide) ?_)
    go_wp2
    exact HR.out
set_option maxRecDepth 100000 in
theorem okOff1_c (a : Net) (gn : Nat) (w : World) (R) (hB : Blk w gn #[.slice (some ⟨a.cal, 0, none⟩) 1 1, .slice (some ⟨a.nam, 0, none⟩) 1 1, .slice (some ⟨a.opr, 0, none⟩) 2 2, .slice (some ⟨a.off, 0, none⟩) 2 2, .slice (some ⟨a.lin, 0, none⟩) 2 2, .slice (some ⟨a.cls, 0, none⟩) 1 1] 60) (hR : ∀ w', Below w.heap.size w w' → R (.returned (.bool true)) w') : Calls Tryz.prog 116 #[.agg #[.string (str1 98), .int .i64 1, .int .i64 0, .int .i64 2, .int .i64 1, .int .i64 10, .slice none 0 0], .pointer (some ⟨gn, 0, none⟩)] w R := by
  have HR := hide hR
  obtain ⟨w1, hw1⟩ : ∃ w1, w.alloc (.cells #[.string (str1 98), .int .i64 1, .int .i64 0, .int .i64 2, .int .i64 1, .int .i64 10, .slice none 0 0] 108) = w1 := ⟨_, rfl⟩
  have hb1 : Below w.heap.size w w1 := hw1 ▸ balloc (Below.refl _ _) _
  have HB1 := hide hb1
  have k1 : Blk w1 w.heap.size #[.string (str1 98), .int .i64 1, .int .i64 0, .int .i64 2, .int .i64 1, .int .i64 10, .slice none 0 0] 108 := hw1 ▸ Blk.new _ _ _
  have k2 := hB.next hb1
  have x0 := k1.cell (k := 0) rfl; have x1 := k1.cell (k := 1) rfl; have x2 := k1.cell (k := 2) rfl; have x3 := k1.cell (k := 3) rfl; have x4 := k1.cell (k := 4) rfl; have x5 := k1.cell (k := 5) rfl; have x6 := k1.cell (k := 6) rfl
  have y0 := k2.cell (k := 0) rfl; have y1 := k2.cell (k := 1) rfl; have y2 := k2.cell (k := 2) rfl; have y3 := k2.cell (k := 3) rfl; have y4 := k2.cell (k := 4) rfl; have y5 := k2.cell (k := 5) rfl
  clear hR hb1 k1 k2 hB
  go_enter Tryz.func116, Tryz.ntmps116
  go_wp2_with (go_at_call 117; refine Stop.out ?_)
  refine Stop.go (goodOff1_c a _ _ ?_)
  intro w2 hb2
  have HF := hide (HR.out _ (bseq HB1.out hb2))
  clear hb2 hw1
  go_wp2
  exact HF.out
set_option maxRecDepth 100000 in
set_option maxHeartbeats 4000000 in
theorem goodLin0_c (a : Net) (w : World) (R) (hR : ∀ w', Below w.heap.size w w' → R (.returned (.bool true)) w') : Calls Tryz.prog 121 #[.agg #[.slice (some ⟨a.cal, 0, none⟩) 1 1, .slice (some ⟨a.nam, 0, none⟩) 1 1, .slice (some ⟨a.opr, 0, none⟩) 2 2, .slice (some ⟨a.off, 0, none⟩) 2 2, .slice (some ⟨a.lin, 0, none⟩) 2 2, .slice (some ⟨a.cls, 0, none⟩) 1 1], .agg #[.string (str1 108), .int .i64 0, .int .i64 1, .int .i64 480, .int .i64 120, .int .i64 1]] w R := by
  have HR := hide (hR _ (balloc (balloc (Below.refl _ _) (.cells #[.slice (some ⟨a.cal, 0, none⟩) 1 1, .slice (some ⟨a.nam, 0, none⟩) 1 1, .slice (some ⟨a.opr, 0, none⟩) 2 2, .slice (some ⟨a.off, 0, none⟩) 2 2, .slice (some ⟨a.lin, 0, none⟩) 2 2, .slice (some ⟨a.cls, 0, none⟩) 1 1] 60)) (.cells #[.string (str1 108), .int .i64 0, .int .i64 1, .int .i64 480, .int .i64 120, .int .i64 1] 110)))
  clear hR
  go_enter Tryz.func121, Tryz.ntmps121
  go_wp2_with (go_at_call 152; refine Stop.out ?_)
  refine Stop.go (isIndex152_c _ 0 2 2 _ _ (by decide) (by decide) ?_)
  go_wp2_with (go_at_call 152; refine Stop.out ?_)
  refine Stop.go (isIndex152_c _ 1 2 2 _ _ (by decide) (by decide) ?_)
  go_wp2_with (go_at_call 125; refine Stop.out ?_)
  refine Stop.go (isMinute_c 480 _ _ (by decide) (by decide) ?_)
  go_wp2_with (go_at_call 148; refine Stop.out ?_)
  refine Stop.go (isFrom_c 120 1 5000 _ _ (by decide) (by decide) ?_)
  go_wp2_with (go_at_call 148; refine Stop.out ?_)
  refine Stop.go (isFrom_c 1 1 40 _ _ (by decide) (by decide) ?_)
  go_wp2
  exact HR.out
set_option maxRecDepth 100000 in
theorem okLin0_c (a : Net) (gn : Nat) (w : World) (R) (hB : Blk w gn #[.slice (some ⟨a.cal, 0, none⟩) 1 1, .slice (some ⟨a.nam, 0, none⟩) 1 1, .slice (some ⟨a.opr, 0, none⟩) 2 2, .slice (some ⟨a.off, 0, none⟩) 2 2, .slice (some ⟨a.lin, 0, none⟩) 2 2, .slice (some ⟨a.cls, 0, none⟩) 1 1] 60) (hR : ∀ w', Below w.heap.size w w' → R (.returned (.bool true)) w') : Calls Tryz.prog 120 #[.agg #[.string (str1 108), .int .i64 0, .int .i64 1, .int .i64 480, .int .i64 120, .int .i64 1], .pointer (some ⟨gn, 0, none⟩)] w R := by
  have HR := hide hR
  obtain ⟨w1, hw1⟩ : ∃ w1, w.alloc (.cells #[.string (str1 108), .int .i64 0, .int .i64 1, .int .i64 480, .int .i64 120, .int .i64 1] 110) = w1 := ⟨_, rfl⟩
  have hb1 : Below w.heap.size w w1 := hw1 ▸ balloc (Below.refl _ _) _
  have HB1 := hide hb1
  have k1 : Blk w1 w.heap.size #[.string (str1 108), .int .i64 0, .int .i64 1, .int .i64 480, .int .i64 120, .int .i64 1] 110 := hw1 ▸ Blk.new _ _ _
  have k2 := hB.next hb1
  have x0 := k1.cell (k := 0) rfl; have x1 := k1.cell (k := 1) rfl; have x2 := k1.cell (k := 2) rfl; have x3 := k1.cell (k := 3) rfl; have x4 := k1.cell (k := 4) rfl; have x5 := k1.cell (k := 5) rfl
  have y0 := k2.cell (k := 0) rfl; have y1 := k2.cell (k := 1) rfl; have y2 := k2.cell (k := 2) rfl; have y3 := k2.cell (k := 3) rfl; have y4 := k2.cell (k := 4) rfl; have y5 := k2.cell (k := 5) rfl
  clear hR hb1 k1 k2 hB
  go_enter Tryz.func120, Tryz.ntmps120
  go_wp2_with (go_at_call 121; refine Stop.out ?_)
  refine Stop.go (goodLin0_c a _ _ ?_)
  intro w2 hb2
  have HF := hide (HR.out _ (bseq HB1.out hb2))
  clear hb2 hw1
  go_wp2
  exact HF.out
set_option maxRecDepth 100000 in
set_option maxHeartbeats 4000000 in
theorem goodLin1_c (a : Net) (w : World) (R) (hR : ∀ w', Below w.heap.size w w' → R (.returned (.bool true)) w') : Calls Tryz.prog 121 #[.agg #[.slice (some ⟨a.cal, 0, none⟩) 1 1, .slice (some ⟨a.nam, 0, none⟩) 1 1, .slice (some ⟨a.opr, 0, none⟩) 2 2, .slice (some ⟨a.off, 0, none⟩) 2 2, .slice (some ⟨a.lin, 0, none⟩) 2 2, .slice (some ⟨a.cls, 0, none⟩) 1 1], .agg #[.string (str1 109), .int .i64 1, .int .i64 0, .int .i64 600, .int .i64 60, .int .i64 1]] w R := by
  have HR := hide (hR _ (balloc (balloc (Below.refl _ _) (.cells #[.slice (some ⟨a.cal, 0, none⟩) 1 1, .slice (some ⟨a.nam, 0, none⟩) 1 1, .slice (some ⟨a.opr, 0, none⟩) 2 2, .slice (some ⟨a.off, 0, none⟩) 2 2, .slice (some ⟨a.lin, 0, none⟩) 2 2, .slice (some ⟨a.cls, 0, none⟩) 1 1] 60)) (.cells #[.string (str1 109), .int .i64 1, .int .i64 0, .int .i64 600, .int .i64 60, .int .i64 1] 110)))
  clear hR
  go_enter Tryz.func121, Tryz.ntmps121
  go_wp2_with (go_at_call 152; refine Stop.out ?_)
  refine Stop.go (isIndex152_c _ 1 2 2 _ _ (by decide) (by decide) ?_)
  go_wp2_with (go_at_call 152; refine Stop.out ?_)
  refine Stop.go (isIndex152_c _ 0 2 2 _ _ (by decide) (by decide) ?_)
  go_wp2_with (go_at_call 125; refine Stop.out ?_)
  refine Stop.go (isMinute_c 600 _ _ (by decide) (by decide) ?_)
  go_wp2_with (go_at_call 148; refine Stop.out ?_)
  refine Stop.go (isFrom_c 60 1 5000 _ _ (by decide) (by decide) ?_)
  go_wp2_with (go_at_call 148; refine Stop.out ?_)
  refine Stop.go (isFrom_c 1 1 40 _ _ (by decide) (by decide) ?_)
  go_wp2
  exact HR.out
set_option maxRecDepth 100000 in
theorem okLin1_c (a : Net) (gn : Nat) (w : World) (R) (hB : Blk w gn #[.slice (some ⟨a.cal, 0, none⟩) 1 1, .slice (some ⟨a.nam, 0, none⟩) 1 1, .slice (some ⟨a.opr, 0, none⟩) 2 2, .slice (some ⟨a.off, 0, none⟩) 2 2, .slice (some ⟨a.lin, 0, none⟩) 2 2, .slice (some ⟨a.cls, 0, none⟩) 1 1] 60) (hR : ∀ w', Below w.heap.size w w' → R (.returned (.bool true)) w') : Calls Tryz.prog 120 #[.agg #[.string (str1 109), .int .i64 1, .int .i64 0, .int .i64 600, .int .i64 60, .int .i64 1], .pointer (some ⟨gn, 0, none⟩)] w R := by
  have HR := hide hR
  obtain ⟨w1, hw1⟩ : ∃ w1, w.alloc (.cells #[.string (str1 109), .int .i64 1, .int .i64 0, .int .i64 600, .int .i64 60, .int .i64 1] 110) = w1 := ⟨_, rfl⟩
  have hb1 : Below w.heap.size w w1 := hw1 ▸ balloc (Below.refl _ _) _
  have HB1 := hide hb1
  have k1 : Blk w1 w.heap.size #[.string (str1 109), .int .i64 1, .int .i64 0, .int .i64 600, .int .i64 60, .int .i64 1] 110 := hw1 ▸ Blk.new _ _ _
  have k2 := hB.next hb1
  have x0 := k1.cell (k := 0) rfl; have x1 := k1.cell (k := 1) rfl; have x2 := k1.cell (k := 2) rfl; have x3 := k1.cell (k := 3) rfl; have x4 := k1.cell (k := 4) rfl; have x5 := k1.cell (k := 5) rfl
  have y0 := k2.cell (k := 0) rfl; have y1 := k2.cell (k := 1) rfl; have y2 := k2.cell (k := 2) rfl; have y3 := k2.cell (k := 3) rfl; have y4 := k2.cell (k := 4) rfl; have y5 := k2.cell (k := 5) rfl
  clear hR hb1 k1 k2 hB
  go_enter Tryz.func120, Tryz.ntmps120
  go_wp2_with (go_at_call 121; refine Stop.out ?_)
  refine Stop.go (goodLin1_c a _ _ ?_)
  intro w2 hb2
  have HF := hide (HR.out _ (bseq HB1.out hb2))
  clear hb2 hw1
  go_wp2
  exact HF.out
end Go.Proofs.YtkabghifdedmfaaGreatDoor
