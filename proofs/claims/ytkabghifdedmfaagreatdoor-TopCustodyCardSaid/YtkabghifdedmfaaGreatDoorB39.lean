/- Depart on the fixed network. World: the tables of the fixed run; the plan fits; labels. World: the deeds of the fixed run are well-formed. -/
import Derived.Test.YtkabghifdedmfaaGreatDoorB38
set_option linter.unusedVariables false
set_option linter.unusedSimpArgs false
namespace Go.Proofs.YtkabghifdedmfaaGreatDoor
open Go.RowKit Go.Sort Go.Shelf

set_option maxRecDepth 100000 in
set_option maxHeartbeats 2000000 in
theorem usable_c (a : Net) (b c : Nat) (w : World) (R) (hk : KwAt w) (hN : NetAt w a) (hc : w.cell? ⟨b, 0, none⟩ = some (.int .i64 110)) (hR : ∀ w', Below w.heap.size w w' → R (.returned (.bool true)) w') :
    Calls Tryz.prog 127 #[.agg (netC a), .int .i64 0, .slice (some ⟨b, 0, none⟩) 1 c] w R := by
  have HR := hide hR
  unfold netC
  obtain ⟨w1, hw1⟩ : ∃ w1, w.alloc (.cells #[.slice (some ⟨a.cal, 0, none⟩) 1 1, .slice (some ⟨a.nam, 0, none⟩) 1 1, .slice (some ⟨a.opr, 0, none⟩) 2 2, .slice (some ⟨a.off, 0, none⟩) 2 2, .slice (some ⟨a.lin, 0, none⟩) 2 2, .slice (some ⟨a.cls, 0, none⟩) 1 1] 60) = w1 := ⟨_, rfl⟩
  have hb1 : Below w.heap.size w w1 := hw1 ▸ balloc (Below.refl _ _) _
  have k0 : Blk w1 w.heap.size #[.slice (some ⟨a.cal, 0, none⟩) 1 1, .slice (some ⟨a.nam, 0, none⟩) 1 1, .slice (some ⟨a.opr, 0, none⟩) 2 2, .slice (some ⟨a.off, 0, none⟩) 2 2, .slice (some ⟨a.lin, 0, none⟩) 2 2, .slice (some ⟨a.cls, 0, none⟩) 1 1] 60 := hw1 ▸ Blk.new _ _ _
  have HI := hide (And.intro (hk.next hb1) (And.intro (hN.next hb1) hb1))
  have c0 := cell_later hb1 hc
  have x0 := k0.cell (k := 0) rfl; have x1 := k0.cell (k := 1) rfl; have x2 := k0.cell (k := 2) rfl; have x3 := k0.cell (k := 3) rfl; have x4 := k0.cell (k := 4) rfl; have x5 := k0.cell (k := 5) rfl
  clear hR hk hN hc hb1 k0
  go_enter Tryz.func127, Tryz.ntmps127
  go_wp2
  clear hw1
  go_loopw [20] (fun si wr => ∃ i : Nat, i ≤ 1 ∧ si = .int .i64 i ∧ wr = w1) (fun si _ => 1 - (intOf si).toNat)
  case atStart => exact ⟨0, by decide, rfl, rfl⟩
  case round =>
    obtain ⟨i, hi, rfl, rfl⟩ := hrel
    have hi2 : i = 0 ∨ i = 1 := by omega
    rcases hi2 with rfl | rfl
    · go_wp2
      go_roundw
      case rel => exact ⟨1, by omega, by go_num, by trivial⟩
      case measure => simp [intOf]
    · rw [show ((1 : Nat) : Int) = 1 from rfl]
      go_wp2_with (go_at_call 65; refine Stop.out ?_)
      refine Stop.go (surveyCheck_c a _ _ HI.out.1 HI.out.2.1 ?_)
      intro w2 hb
      have HF := hide (HR.out _ (bseq HI.out.2.2 hb))
      clear hb
      go_wp2
      exact HF.out
set_option maxRecDepth 100000 in
set_option maxHeartbeats 2000000 in
theorem depart_c (a : Net) (w : World) (R) (hk : KwAt w) (hN : NetAt w a) (hR : ∀ w', Below w.heap.size w w' → R (.returned (.tuple #[.int .i64 480, .int .i64 0])) w') :
    Calls Tryz.prog 96 #[.agg (netC a), .int .i64 0, .int .i64 110] w R := by
  have HR := hide hR
  unfold netC
  obtain ⟨w1, hw1⟩ : ∃ w1, w.alloc (.cells #[.slice (some ⟨a.cal, 0, none⟩) 1 1, .slice (some ⟨a.nam, 0, none⟩) 1 1, .slice (some ⟨a.opr, 0, none⟩) 2 2, .slice (some ⟨a.off, 0, none⟩) 2 2, .slice (some ⟨a.lin, 0, none⟩) 2 2, .slice (some ⟨a.cls, 0, none⟩) 1 1] 60) = w1 := ⟨_, rfl⟩
  have hb1 : Below w.heap.size w w1 := hw1 ▸ balloc (Below.refl _ _) _
  have k0 : Blk w1 w.heap.size #[.slice (some ⟨a.cal, 0, none⟩) 1 1, .slice (some ⟨a.nam, 0, none⟩) 1 1, .slice (some ⟨a.opr, 0, none⟩) 2 2, .slice (some ⟨a.off, 0, none⟩) 2 2, .slice (some ⟨a.lin, 0, none⟩) 2 2, .slice (some ⟨a.cls, 0, none⟩) 1 1] 60 := hw1 ▸ Blk.new _ _ _
  have HI := hide (And.intro (hk.next hb1) (And.intro (hN.next hb1) (And.intro k0 hb1)))
  have x0 := k0.cell (k := 0) rfl; have x1 := k0.cell (k := 1) rfl; have x2 := k0.cell (k := 2) rfl; have x3 := k0.cell (k := 3) rfl; have x4 := k0.cell (k := 4) rfl; have x5 := k0.cell (k := 5) rfl
  clear hR hk hN hb1 k0
  go_enter Tryz.func96, Tryz.ntmps96
  go_wp2_with (go_at_call 127; refine Stop.out ?_)
  have hb2 : Below w1.heap.size w1 (w1.alloc (.cells #[.int .i64 110] 3)) := balloc (Below.refl _ _) _
  refine Stop.go (usable_c a _ _ _ _ (HI.out.1.next hb2) (HI.out.2.1.next hb2) ((Blk.new w1 #[.int .i64 110] 3).cell (k := 0) rfl) ?_)
  intro w3 hb3
  have hb := bseq hb2 hb3
  have HI3 := hide (And.intro (HI.out.1.next hb) (And.intro (HI.out.2.1.next hb) (bseq HI.out.2.2.2 hb)))
  have k3 := HI.out.2.2.1.next hb
  have y0 := k3.cell (k := 0) rfl; have y1 := k3.cell (k := 1) rfl; have y2 := k3.cell (k := 2) rfl; have y3 := k3.cell (k := 3) rfl; have y4 := k3.cell (k := 4) rfl; have y5 := k3.cell (k := 5) rfl
  clear hb2 hb3 hb k3 x0 x1 x2 x3 x4 x5 hw1 HI
  go_wp2_with (go_at_call 128; refine Stop.out ?_)
  refine Stop.go (first_c' a _ _ HI3.out.2.1 ?_)
  intro w4 hb4
  have HF := hide (HR.out _ (bseq HI3.out.2.2 hb4))
  clear hb4
  go_wp2
  exact HF.out
end Go.Proofs.YtkabghifdedmfaaGreatDoor

namespace Go.Proofs.YtkabghifdedmfaaGreatDoor
open Go.RowKit Go.Sort Go.Shelf

theorem mlaw160 : MLaw ByteArray 160 9 4 (fun s => .string s) (.bool false) where
  und := fun w => by kernel_rfl
  kd := ⟨.string, fun w => by kernel_rfl, fun x y => by simp [Instr.sameNow, bytes_beq]⟩
  chk := fun b x w => by cases b <;> kernel_rfl
  zero := fun w => by kernel_rfl
  bits := fun x => by simp [Instr.sameBits, bytes_beq]
theorem mlaw117 : MLaw ByteArray 117 9 125 (fun s => .string s) (.pointer none) where
  und := fun w => by kernel_rfl
  kd := ⟨.string, fun w => by kernel_rfl, fun x y => by simp [Instr.sameNow, bytes_beq]⟩
  chk := fun b x w => by cases b <;> kernel_rfl
  zero := fun w => by kernel_rfl
  bits := fun x => by simp [Instr.sameBits, bytes_beq]
theorem mlaw118 : MLaw Int 118 3 4 (fun n => .int .i64 n) (.bool false) where
  und := fun w => by kernel_rfl
  kd := ⟨.int .i64, fun w => by kernel_rfl, fun x y => by simp [Instr.sameNow]; rw [Bool.eq_iff_iff]; simp⟩
  chk := fun b x w => by cases b <;> kernel_rfl
  zero := fun w => by kernel_rfl
  bits := fun x => by simp [Instr.sameBits]
theorem mlaw162 : MLaw Int 162 3 161 (fun n => .int .i64 n) .nilFunc where
  und := fun w => by kernel_rfl
  kd := ⟨.int .i64, fun w => by kernel_rfl, fun x y => by simp [Instr.sameNow]; rw [Bool.eq_iff_iff]; simp⟩
  chk := fun b x w => by cases b <;> kernel_rfl
  zero := fun w => by kernel_rfl
  bits := fun x => by simp [Instr.sameBits]
theorem mlaw122 : MLaw Int 122 3 124 (fun n => .int .i64 n) .nilFunc where
  und := fun w => by kernel_rfl
  kd := ⟨.int .i64, fun w => by kernel_rfl, fun x y => by simp [Instr.sameNow]; rw [Bool.eq_iff_iff]; simp⟩
  chk := fun b x w => by cases b <;> kernel_rfl
  zero := fun w => by kernel_rfl
  bits := fun x => by simp [Instr.sameBits]
theorem MpAt.len {κ : Type} {sv : κ → Value} {w : World} {b : Nat} {L : List (κ × Value)} (h : MpAt sv w b L) {T k e : TypeId} (hT : Tryz.prog.underlying T = some (.map k e)) : (Builtin.len_ #[T] 3 #[.map (some b)]).run Tryz.prog w = .ok (.int .i64 (L.length : Int)) w := by
  obtain ⟨es, cl, hb, hL⟩ := h
  have hlen : es.size = L.length := by have := congrArg List.length hL; simpa using this
  simp [Builtin.len_, run_underlying hT, MapKept.run_getObj_map hb, goInt, Result.andThen, hlen]
theorem und160 : Tryz.prog.underlying 160 = some (.map 9 4) := by kernel_rfl
/-- The plan's table of lines, in memory. -/
structure PlanAt (w : World) (nx r0 r1 : Nat) : Prop where
  nx : Blk w nx #[.slice (some ⟨r0, 0, none⟩) 2 2, .slice (some ⟨r1, 0, none⟩) 2 2] 24
  r0 : Blk w r0 #[.int .i64 (-1), .int .i64 0] 3
  r1 : Blk w r1 #[.int .i64 1, .int .i64 (-1)] 3
theorem PlanAt.next {w w' : World} {nx r0 r1 : Nat} (h : PlanAt w nx r0 r1) (hb : Below w.heap.size w w') : PlanAt w' nx r0 r1 := ⟨h.nx.next hb, h.r0.next hb, h.r1.next hb⟩
set_option maxRecDepth 100000 in
set_option maxHeartbeats 4000000 in
theorem fits_c (a : Net) (nx r0 r1 : Nat) (w : World) (R) (hN : NetAt w a) (hP : PlanAt w nx r0 r1) (hR : ∀ w', Below w.heap.size w w' → R (.returned (.bool true)) w') : Calls Tryz.prog 36 #[.agg (netC a), .slice (some ⟨nx, 0, none⟩) 2 2] w R := by
  have HR := hide hR
  unfold netC
  obtain ⟨w1, hw1⟩ : ∃ w1, w.alloc (.cells #[.slice (some ⟨a.cal, 0, none⟩) 1 1, .slice (some ⟨a.nam, 0, none⟩) 1 1, .slice (some ⟨a.opr, 0, none⟩) 2 2, .slice (some ⟨a.off, 0, none⟩) 2 2, .slice (some ⟨a.lin, 0, none⟩) 2 2, .slice (some ⟨a.cls, 0, none⟩) 1 1] 60) = w1 := ⟨_, rfl⟩
  have hb1 : Below w.heap.size w w1 := hw1 ▸ balloc (Below.refl _ _) _
  have k0 : Blk w1 w.heap.size #[.slice (some ⟨a.cal, 0, none⟩) 1 1, .slice (some ⟨a.nam, 0, none⟩) 1 1, .slice (some ⟨a.opr, 0, none⟩) 2 2, .slice (some ⟨a.off, 0, none⟩) 2 2, .slice (some ⟨a.lin, 0, none⟩) 2 2, .slice (some ⟨a.cls, 0, none⟩) 1 1] 60 := hw1 ▸ Blk.new _ _ _
  have hN1 := hN.next hb1
  have hP1 := hP.next hb1
  have HF := hide (HR.out _ hb1)
  have x3 := k0.cell (k := 3) rfl; have x4 := k0.cell (k := 4) rfl
  have l1 := hN1.lin.cell (k := 1) rfl; have l7 := hN1.lin.cell (k := 7) rfl
  have n0 := hP1.nx.cell (k := 0) rfl; have n1 := hP1.nx.cell (k := 1) rfl
  have p0 := hP1.r0.cell (k := 0) rfl; have p1 := hP1.r0.cell (k := 1) rfl; have q0 := hP1.r1.cell (k := 0) rfl; have q1 := hP1.r1.cell (k := 1) rfl
  clear hR hN hP hb1 k0 hN1 hP1 HR
  go_enter Tryz.func36, Tryz.ntmps36
  go_wp2
  clear hw1
  go_loopw [17] (fun si wr => ∃ i : Nat, i ≤ 2 ∧ si = .int .i64 i ∧ wr = w1) (fun si _ => 2 - (intOf si).toNat)
  case atStart => exact ⟨0, by decide, rfl, rfl⟩
  case round =>
    obtain ⟨i, hi, rfl, rfl⟩ := hrel
    have hi2 : i = 0 ∨ i = 1 ∨ i = 2 := by omega
    rcases hi2 with rfl | rfl | rfl
    · rw [show ((0 : Nat) : Int) = 0 from rfl]
      go_wp2
      go_loopw [30] (fun sj wq => ∃ j : Nat, j ≤ 2 ∧ sj = .int .i64 j ∧ wq = wr) (fun sj _ => 2 - (intOf sj).toNat)
      case atStart => exact ⟨0, by decide, rfl, rfl⟩
      case round =>
        obtain ⟨j, hj, rfl, rfl⟩ := hrel
        have hj2 : j = 0 ∨ j = 1 ∨ j = 2 := by omega
        rcases hj2 with rfl | rfl | rfl
        · rw [show ((0 : Nat) : Int) = 0 from rfl]
          go_wp2
          go_roundw
          case rel => exact ⟨1, by omega, by go_num, by trivial⟩
          case measure => simp [intOf]
        · rw [show ((1 : Nat) : Int) = 1 from rfl]
          go_wp2
          go_roundw
          case rel => exact ⟨2, by omega, by go_num, by trivial⟩
          case measure => simp [intOf]
        · rw [show ((2 : Nat) : Int) = 2 from rfl]
          go_wp2
          go_roundw
          case rel => exact ⟨1, by omega, by go_num, by trivial⟩
          case measure => simp [intOf]
    · rw [show ((1 : Nat) : Int) = 1 from rfl]
      go_wp2
      go_loopw [30] (fun sj wq => ∃ j : Nat, j ≤ 2 ∧ sj = .int .i64 j ∧ wq = wr) (fun sj _ => 2 - (intOf sj).toNat)
      case atStart => exact ⟨0, by decide, rfl, rfl⟩
      case round =>
        obtain ⟨j, hj, rfl, rfl⟩ := hrel
        have hj2 : j = 0 ∨ j = 1 ∨ j = 2 := by omega
        rcases hj2 with rfl | rfl | rfl
        · rw [show ((0 : Nat) : Int) = 0 from rfl]
          go_wp2
          go_roundw
          case rel => exact ⟨1, by omega, by go_num, by trivial⟩
          case measure => simp [intOf]
        · rw [show ((1 : Nat) : Int) = 1 from rfl]
          go_wp2
          go_roundw
          case rel => exact ⟨2, by omega, by go_num, by trivial⟩
          case measure => simp [intOf]
        · rw [show ((2 : Nat) : Int) = 2 from rfl]
          go_wp2
          go_roundw
          case rel => exact ⟨2, by omega, by go_num, by trivial⟩
          case measure => simp [intOf]
    · rw [show ((2 : Nat) : Int) = 2 from rfl]
      go_wp2
      exact HF.out
set_option maxRecDepth 100000 in
set_option maxHeartbeats 2000000 in
theorem isLabelW_c (b : UInt8) (w : World) (R) (h1 : (65 : Int) ≤ (b.toNat : Int)) (h2 : (b.toNat : Int) ≤ 90) (hR : ∀ w', Below w.heap.size w w' → R (.returned (.bool true)) w') : Calls Tryz.prog 69 #[.string ⟨#[b]⟩] w R := by
  have HR := hide hR
  obtain ⟨w1, cap, hcv, hc0, hb1⟩ := bytes_one b w
  have HF := hide (HR.out _ hb1)
  clear hR HR hb1
  have h3 : ¬ (b.toNat : Int) < 65 := by omega
  have h4 : ¬ (90 : Int) < (b.toNat : Int) := by omega
  go_enter Tryz.func69, Tryz.ntmps69
  go_wp2
  clear hcv
  go_loopw [8] (fun si wr => ∃ i : Nat, i ≤ 1 ∧ si = .int .i64 i ∧ wr = w1) (fun si _ => 1 - (intOf si).toNat)
  case atStart => exact ⟨0, by decide, rfl, rfl⟩
  case round =>
    obtain ⟨i, hi, rfl, rfl⟩ := hrel
    have hi2 : i = 0 ∨ i = 1 := by omega
    rcases hi2 with rfl | rfl
    · rw [show ((0 : Nat) : Int) = 0 from rfl]
      go_wp2
      go_roundw
      case rel => exact ⟨1, by omega, by go_num, by trivial⟩
      case measure => simp [intOf]
    · rw [show ((1 : Nat) : Int) = 1 from rfl]
      go_wp2
      exact HF.out
theorem indexW_c (i n : Int) (w : World) (R) (h0 : 0 ≤ i) (h1 : i < n) (hR : R (.returned (.bool true)) w) : Calls Tryz.prog 66 #[.int .i64 i, .int .i64 n] w R := by
  have HR := hide hR
  clear hR
  go_enter Tryz.func66, Tryz.ntmps66
  go_wp2
  exact HR.out
end Go.Proofs.YtkabghifdedmfaaGreatDoor

namespace Go.Proofs.YtkabghifdedmfaaGreatDoor
open Go.RowKit Go.Sort Go.Shelf

def strE : ByteArray := ⟨#[]⟩
def deedC (b : UInt8) : Array Value := #[.int .i64 1, .int .i64 100, .string ⟨#[b]⟩, .int .i64 0, .int .i64 1, .int .i64 0, .int .i64 100, .string ⟨#[]⟩, .string ⟨#[]⟩, .int .i64 0]
abbrev svS (s : ByteArray) : Value := .string s
abbrev svI (n : Int) : Value := .int .i64 n
theorem grown_any {A B : World} (h : Below A.heap.size A B) (row : Option Nat) : A.grownBy B row := ⟨h.os, h.tape, h.output, h.size, fun k hk _ => h.block k hk⟩
theorem same_block {w w' : World} {r k : Nat} {cs : Array Value} {t : TypeId} (hg : w.grownBy w' (some r)) (h : Blk w k cs t) (hne : k ≠ r) : Blk w' k cs t := h.same (hg.block k h.lt (fun e => hne (by injection e)))
theorem NetAt.turned {w w' : World} {a : Net} {r : Nat} (h : NetAt w a) (hg : w.grownBy w' (some r)) (h1 : a.week ≠ r) (h2 : a.cal ≠ r) (h3 : a.nam ≠ r) (h4 : a.opr ≠ r) (h5 : a.off ≠ r) (h6 : a.lin ≠ r) (h7 : a.cls ≠ r) : NetAt w' a :=
  ⟨same_block hg h.week h1, same_block hg h.cal h2, same_block hg h.nam h3, same_block hg h.opr h4, same_block hg h.off h5, same_block hg h.lin h6, same_block hg h.cls h7⟩
/-- What stands while the deeds are looked at. -/
structure WI (w : World) (a : Net) (g gm : Nat) (L : List (ByteArray × Value)) (W : World) : Prop where
  below : Below w.heap.size w W
  k2 : Blk W g #[.slice (some ⟨a.cal, 0, none⟩) 1 1, .slice (some ⟨a.nam, 0, none⟩) 1 1, .slice (some ⟨a.opr, 0, none⟩) 2 2, .slice (some ⟨a.off, 0, none⟩) 2 2, .slice (some ⟨a.lin, 0, none⟩) 2 2, .slice (some ⟨a.cls, 0, none⟩) 1 1] 60
  k5 : Blk W (g + 1 + 1) #[.map (some gm)] 160
  k6 : Blk W (g + 1 + 1 + 1) #[.func (.func 66) #[] #[]] 99
  mp : MpAt svS W gm L
theorem WI.next {w W W' : World} {a : Net} {g gm : Nat} {L : List (ByteArray × Value)} (h : WI w a g gm L W) (hb : Below W.heap.size W W') : WI w a g gm L W' := ⟨bseq h.below hb, h.k2.next hb, h.k5.next hb, h.k6.next hb, h.mp.next hb⟩
set_option maxRecDepth 100000 in
set_option maxHeartbeats 4000000 in
theorem rulePost_c (b : UInt8) (a : Net) (g : Nat) (L : List (ByteArray × Value)) (w W : World) (R) (hb1 : (65 : Int) ≤ (b.toNat : Int)) (hb2 : (b.toNat : Int) ≤ 90) (hI : WI w a g (g + 1) L W) (hg : w.heap.size ≤ g) (hf : find2 L (⟨#[b]⟩ : ByteArray) = none) (hl : L.length ≤ 50)
    (hR : ∀ w', WI w a g (g + 1) (putL L ⟨#[b]⟩ (.bool true)) w' → W.grownBy w' (some (g + 1)) → R (.returned (.bool true)) w') :
    Calls Tryz.prog 68 #[.agg #[.int .i64 1, .int .i64 100, .string ⟨#[b]⟩, .int .i64 0, .int .i64 1, .int .i64 0, .int .i64 100, .string ⟨#[]⟩, .string ⟨#[]⟩, .int .i64 0], .pointer (some ⟨g + 1 + 1, 0, none⟩), .pointer (some ⟨g + 1 + 1 + 1, 0, none⟩), .pointer (some ⟨g, 0, none⟩)] W R := by
  have HR := hide hR
  obtain ⟨W1, hW1⟩ : ∃ W1, (W.alloc (.cells #[.int .i64 1, .int .i64 100, .string ⟨#[b]⟩, .int .i64 0, .int .i64 1, .int .i64 0, .int .i64 100, .string ⟨#[]⟩, .string ⟨#[]⟩, .int .i64 0] 67)).alloc (.cells #[.string ⟨#[b]⟩, .int .i64 0, .int .i64 1, .int .i64 0, .int .i64 100] 40) = W1 := ⟨_, rfl⟩
  have hbW : Below W.heap.size W W1 := hW1 ▸ balloc (balloc (Below.refl _ _) _) _
  have d4 : Blk W1 W.heap.size #[.int .i64 1, .int .i64 100, .string ⟨#[b]⟩, .int .i64 0, .int .i64 1, .int .i64 0, .int .i64 100, .string ⟨#[]⟩, .string ⟨#[]⟩, .int .i64 0] 67 := by rw [← hW1]; exact Blk.alloc (Blk.new_at (by simp)) _
  have d6 : Blk W1 (W.heap.size + 1) #[.string ⟨#[b]⟩, .int .i64 0, .int .i64 1, .int .i64 0, .int .i64 100] 40 := by rw [← hW1]; exact Blk.new_at (by simp)
  have HI := hide (And.intro (hI.next hbW) (And.intro d4 (And.intro d6 hbW)))
  have hgl : g + 1 < W.heap.size := hI.mp.lt
  have z0 := (Blk.new W #[.int .i64 1, .int .i64 100, .string ⟨#[b]⟩, .int .i64 0, .int .i64 1, .int .i64 0, .int .i64 100, .string ⟨#[]⟩, .string ⟨#[]⟩, .int .i64 0] 67)
  have z2 := z0.cell (k := 2) rfl; have z3 := z0.cell (k := 3) rfl; have z4 := z0.cell (k := 4) rfl; have z5 := z0.cell (k := 5) rfl; have z6 := z0.cell (k := 6) rfl
  have y0 := d6.cell (k := 0) rfl
  have Hf := hide hf
  clear hR hI hbW d4 d6 z0 hf
  go_enter Tryz.func68, Tryz.ntmps68
  go_wp2_with (go_at_call 69; refine Stop.out ?_)
  refine Stop.go (isLabelW_c b _ _ hb1 hb2 ?_)
  intro W2 hbc
  have HI2 := hide (And.intro (HI.out.1.next hbc) (And.intro (HI.out.2.1.next hbc) (And.intro (HI.out.2.2.1.next hbc) (bseq HI.out.2.2.2 hbc))))
  clear hbc z2 z3 z4 z5 z6 y0 hW1 HI
  have hlk := HI2.out.1.mp.lookup mlaw160 (⟨#[b]⟩ : ByteArray) false
  rw [Hf.out] at hlk
  simp only [Bool.false_eq_true, if_false, Option.getD_none] at hlk
  have hln := HI2.out.1.mp.len und160
  obtain ⟨n, hn⟩ : ∃ n, L.length = n := ⟨_, rfl⟩
  rw [hn] at hln hl
  have hn60 : ¬ (60 : Int) ≤ (n : Int) := by omega
  obtain ⟨W3, hu, hm3, hg3, hs3⟩ := HI2.out.1.mp.update mlaw160 (⟨#[b]⟩ : ByteArray) (.bool true)
  have hgr : W.grownBy W3 (some (g + 1)) := World.grownBy.trans (grown_any HI2.out.2.2.2 _) hg3
  have HI3 := hide (show WI w a g (g + 1) (putL L ⟨#[b]⟩ (.bool true)) W3 from ⟨HI2.out.1.below.grown hg3 HI2.out.1.below.size (fun j e => by cases e; omega), same_block hg3 HI2.out.1.k2 (by omega), same_block hg3 HI2.out.1.k5 (by omega), same_block hg3 HI2.out.1.k6 (by omega), hm3⟩)
  have x5 := HI2.out.1.k5.cell (k := 0) rfl
  have y0 := HI2.out.2.2.1.cell (k := 0) rfl; have y4 := HI2.out.2.2.1.cell (k := 4) rfl
  have z1 := HI2.out.2.1.cell (k := 1) rfl
  have t6 : Blk W3 (W.heap.size + 1) #[.string ⟨#[b]⟩, .int .i64 0, .int .i64 1, .int .i64 0, .int .i64 100] 40 := same_block hg3 HI2.out.2.2.1 (by omega)
  have u1 := t6.cell (k := 1) rfl; have u2 := t6.cell (k := 2) rfl; have u3 := t6.cell (k := 3) rfl
  have v6 := HI3.out.k6.cell (k := 0) rfl
  have v3 := HI3.out.k2.cell (k := 3) rfl; have v5 := HI3.out.k2.cell (k := 5) rfl
  have HF := hide (HR.out W3 HI3.out hgr)
  clear hm3 hg3 hs3 hgr t6 hn
  go_wp2_with (go_at_call 66; refine Stop.out ?_)
  refine Stop.go (indexW_c 0 2 _ _ (by decide) (by decide) ?_)
  go_wp2_with (go_at_call 66; refine Stop.out ?_)
  refine Stop.go (indexW_c 1 2 _ _ (by decide) (by decide) ?_)
  go_wp2_with (go_at_call 66; refine Stop.out ?_)
  refine Stop.go (indexW_c 0 1 _ _ (by decide) (by decide) ?_)
  go_wp2
  exact HF.out
end Go.Proofs.YtkabghifdedmfaaGreatDoor
