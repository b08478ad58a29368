/- The fixed network of the first check. Names, indices, minutes. -/
import Derived.Test.YtkabghifdedmfaaGreatDoorB21
import Derived.Laws.ResultCell
import Derived.Laws.IdiomStrings
import Derived.Laws.Tables
set_option linter.unusedVariables false
set_option linter.unusedSimpArgs false
namespace Go.Proofs.YtkabghifdedmfaaGreatDoor
open Go.RowKit Go.Sort Go.Shelf

theorem results_cell1 {fn : Func} {p : Tmp} {ty : TypeId} (h : fn.results = #[.cell p ty]) (tmps : Array Value) (P : Program) (w : World) :
    (results fn tmps).run P w = ((asAddr (tmps.getD p undef)).run P w).andThen fun a w₁ => (loadVar ty a).run P w₁ := by
  simp only [results, h]
  simp [Sem.run_bind, Result.andThen]
/-- Where the network's lists lie. -/
structure Net where
  week : Nat
  cal : Nat
  nam : Nat
  opr : Nat
  off : Nat
  lin : Nat
  cls : Nat
def str1 (b : UInt8) : ByteArray := ⟨#[b]⟩
def calC (a : Net) : Array Value := #[.int .i64 0, .slice (some ⟨a.week, 0, none⟩) 7 7, .slice none 0 0]
def offC0 : Array Value := #[.string (str1 97), .int .i64 0, .int .i64 0, .int .i64 2, .int .i64 1, .int .i64 10, .slice none 0 0]
def offC1 : Array Value := #[.string (str1 98), .int .i64 1, .int .i64 0, .int .i64 2, .int .i64 1, .int .i64 10, .slice none 0 0]
def linC0 : Array Value := #[.string (str1 108), .int .i64 0, .int .i64 1, .int .i64 480, .int .i64 120, .int .i64 1]
def linC1 : Array Value := #[.string (str1 109), .int .i64 1, .int .i64 0, .int .i64 600, .int .i64 60, .int .i64 1]
def netC (a : Net) : Array Value := #[.slice (some ⟨a.cal, 0, none⟩) 1 1, .slice (some ⟨a.nam, 0, none⟩) 1 1, .slice (some ⟨a.opr, 0, none⟩) 2 2, .slice (some ⟨a.off, 0, none⟩) 2 2, .slice (some ⟨a.lin, 0, none⟩) 2 2, .slice (some ⟨a.cls, 0, none⟩) 1 1]
structure NetAt (w : World) (a : Net) : Prop where
  week : Blk w a.week #[.bool true, .bool true, .bool true, .bool true, .bool true, .bool false, .bool false] 4
  cal : Blk w a.cal #[.int .i64 0, .slice (some ⟨a.week, 0, none⟩) 7 7, .slice none 0 0] 104
  nam : Blk w a.nam #[.string (str1 99)] 9
  opr : Blk w a.opr #[.string (str1 112), .string (str1 113)] 106
  off : Blk w a.off #[.string (str1 97), .int .i64 0, .int .i64 0, .int .i64 2, .int .i64 1, .int .i64 10, .slice none 0 0, .string (str1 98), .int .i64 1, .int .i64 0, .int .i64 2, .int .i64 1, .int .i64 10, .slice none 0 0] 108
  lin : Blk w a.lin #[.string (str1 108), .int .i64 0, .int .i64 1, .int .i64 480, .int .i64 120, .int .i64 1, .string (str1 109), .int .i64 1, .int .i64 0, .int .i64 600, .int .i64 60, .int .i64 1] 110
  cls : Blk w a.cls #[.string (str1 107), .int .i64 1020, .int .i64 720] 112
theorem NetAt.next {w w' : World} {a : Net} (h : NetAt w a) (hb : Below w.heap.size w w') : NetAt w' a := ⟨h.week.next hb, h.cal.next hb, h.nam.next hb, h.opr.next hb, h.off.next hb, h.lin.next hb, h.cls.next hb⟩
set_option maxRecDepth 100000 in
set_option maxHeartbeats 4000000 in
theorem net_c (w : World) (R) (hR : ∀ w' a, Below w.heap.size w w' → NetAt w' a → R (.returned (.agg (netC a))) w') : Calls Tryz.prog 14 #[] w R := by
  have HR := hide hR
  clear hR
  go_enter Tryz.func14, Tryz.ntmps14
  go_wp2
  refine bodyPost_ret (v := .agg (netC ⟨w.heap.size + 1, w.heap.size + 1 + 1, w.heap.size + 1 + 1 + 1, w.heap.size + 1 + 1 + 1 + 1, w.heap.size + 1 + 1 + 1 + 1 + 1 + 1, w.heap.size + 1 + 1 + 1 + 1 + 1 + 1 + 1, w.heap.size + 1 + 1 + 1 + 1 + 1 + 1 + 1 + 1⟩)) ?_ rfl (HR.out _ _ ?_ ⟨?_, ?_, ?_, ?_, ?_, ?_, ?_⟩)
  · rw [results_cell1 (p := 0) (ty := 60) Tryz.results14]
    simp [go_sem, netC]
  · exact balloc (balloc (balloc (balloc (balloc (balloc (balloc (balloc (balloc (Below.refl _ _) _) _) _) _) _) _) _) _) _
  all_goals repeat (first | exact Blk.new_at (by simp) | refine Blk.alloc ?_ _)
end Go.Proofs.YtkabghifdedmfaaGreatDoor

namespace Go.Proofs.YtkabghifdedmfaaGreatDoor
open Go.RowKit Go.Sort Go.Shelf

/-- The key words, in memory. -/
def kwL : List (List UInt8) := [[99, 97, 108, 101, 110, 100, 97, 114], [111, 112, 101, 114, 97, 116, 111, 114], [111, 102, 102, 105, 99, 101], [108, 105, 110, 101], [99, 108, 97, 115, 115], [122, 111, 110, 101], [119, 101, 101, 107], [104, 111, 108, 105, 100, 97, 121], [112, 111, 99, 107, 101, 116, 115], [112, 97, 115, 115, 101, 115], [109, 105, 110, 117, 116, 101, 115], [99, 111, 100, 101, 115], [97, 116], [116, 114, 97, 118, 101, 108], [108, 111, 97, 100], [99, 117, 116], [100, 101, 108, 105, 118, 101, 114]]
def kwC : Array Value := (kwL.map fun s => Value.string ⟨s.toArray⟩).toArray
def KwAt (w : World) : Prop := 0 < w.heap.size ∧ ∀ (k : Nat) (s : List UInt8), kwL[k]? = some s → w.cell? ⟨0, k, none⟩ = some (.string ⟨s.toArray⟩)
theorem KwAt.next {w w' : World} (h : KwAt w) (hb : Below w.heap.size w w') : KwAt w' := ⟨Nat.lt_of_lt_of_le h.1 hb.size, fun k s hk => cell_later hb (h.2 k s hk)⟩
theorem isFrom_c (v a b : Int) (w : World) (R) (h1 : a ≤ v) (h2 : v ≤ b) (hR : R (.returned (.bool true)) w) : Calls Tryz.prog 148 #[.int .i64 v, .int .i64 a, .int .i64 b] w R := by
  have HR := hide hR
  clear hR
  go_enter Tryz.func148, Tryz.ntmps148
  go_wp2
  exact HR.out
theorem isMinute_c (v : Int) (w : World) (R) (h1 : 0 ≤ v) (h2 : v ≤ 1439) (hR : R (.returned (.bool true)) w) : Calls Tryz.prog 125 #[.int .i64 v] w R := by
  have HR := hide hR
  clear hR
  go_enter Tryz.func125, Tryz.ntmps125
  go_wp2_with (go_at_call 148; refine Stop.out ?_)
  refine Stop.go (isFrom_c v 0 1439 _ _ h1 h2 ?_)
  go_wp2
  exact HR.out
theorem isSmall_c (b : UInt8) (w : World) (R) (h1 : (97 : Int) ≤ (b.toNat : Int)) (h2 : (b.toNat : Int) ≤ 122) (hR : R (.returned (.bool true)) w) : Calls Tryz.prog 172 #[.int .u8 (b.toNat : Int)] w R := by
  have HR := hide hR
  clear hR
  go_enter Tryz.func172, Tryz.ntmps172
  go_wp2
  exact HR.out
theorem run_index_arr {t e : TypeId} {n j : Nat} {A : Array Value} {v : Value} (w : World) (hu : Tryz.prog.underlying t = some (.array n e)) (hz : (Tryz.prog.info? e).map (·.size) = some 1) (ha : ∀ w : World, (isAgg e).run Tryz.prog w = .ok false w) (hj : j < n) (h : A[j]? = some v) :
    Sem.run Tryz.prog (Instr.index t (.agg A) (.int .i64 (j : Int))) w = .ok v w := by
  have h1 : (0 : Int) ≤ (j : Int) ∧ (j : Int) < (n : Int) := by omega
  cases he : Tryz.prog.info? e with
  | none => simp [he] at hz
  | some i =>
    have hz1 : i.size = 1 := by simpa [he] using hz
    simp [Instr.index, run_underlying hu, asIntOf, h1, part, Sem.run_bind, ha, sizeOf, typeInfo, he, hz1, h, go_sem]
    intro hle
    omega
theorem kw_at {A : Array Value} (hA : kwC = A) {j : Nat} (hj : j < 17) : ∃ s : List UInt8, kwL[j]? = some s ∧ A[j]? = some (.string ⟨s.toArray⟩) ∧ ∀ b : UInt8, ([b] == s) = false := by
  subst hA
  obtain ⟨s, hs⟩ : ∃ s, kwL[j]? = some s := ⟨_, List.getElem?_eq_getElem (show j < kwL.length from hj)⟩
  refine ⟨s, hs, ?_, fun b => ?_⟩
  · unfold kwC; rw [List.getElem?_toArray, List.getElem?_map, hs]; rfl
  · have h1 : ∀ s ∈ kwL, 2 ≤ s.length := by decide
    have h2 := h1 s (List.mem_of_getElem? hs)
    rw [beq_eq_false_iff_ne]
    intro e
    rw [← e] at h2
    exact absurd h2 (by simp)
theorem str_ne {x y : ByteArray} (h : ¬ x = y) : (x.toList == y.toList) = false := by
  rw [ByteArray.toList_eq, ByteArray.toList_eq, beq_eq_false_iff_ne]
  intro e
  apply h
  obtain ⟨a⟩ := x; obtain ⟨b⟩ := y
  congr 1
  exact Array.toList_inj.1 e
theorem bytes_one (b : UInt8) (w : World) : ∃ w1 cap, (convert 9 184 (.string ⟨#[b]⟩)).run Tryz.prog w = .ok (.slice (some ⟨w.heap.size, 0, none⟩) 1 cap) w1 ∧ w1.cell? ⟨w.heap.size, 0, none⟩ = some (.int .u8 (b.toNat : Int)) ∧ Below w.heap.size w w1 := by
  refine ⟨_, _, run_bytes_of_string w 9 184 5 ⟨#[b]⟩ Tryz.underlying9 Tryz.underlying184 Tryz.underlying5, ?_, balloc (Below.refl _ _).drew _⟩
  refine (World.cell?_alloc_mark w.drew _ 5 _ 0).trans ?_
  rw [bytesRow_at ⟨#[b]⟩ _ 0 (by show 0 < 1; decide)]
  rfl
set_option maxRecDepth 100000 in
set_option maxHeartbeats 2000000 in
theorem isName_c (b : UInt8) (w : World) (R) (hk : KwAt w) (h1 : (97 : Int) ≤ (b.toNat : Int)) (h2 : (b.toNat : Int) ≤ 122) (hR : ∀ w', Below w.heap.size w w' → R (.returned (.bool true)) w') : Calls Tryz.prog 136 #[.string ⟨#[b]⟩] w R := by
  have HR := hide hR; have HK := hide hk; have H1 := hide h1; have H2 := hide h2
  obtain ⟨w1, cap, hcv, hc0, hb1⟩ := bytes_one b w
  have HB1 := hide hb1
  have Hc0 := hide hc0
  have e0 : ((⟨#[b]⟩ : ByteArray)[0]'(by show 0 < 1; decide)) = b := rfl
  clear hR hk h1 h2 hb1 hc0
  go_enter Tryz.func136, Tryz.ntmps136
  go_wp2_with (go_at_call 172; refine Stop.out ?_)
  refine Stop.go (isSmall_c b _ _ H1.out H2.out ?_)
  go_wp2
  clear e0 hcv
  go_loopw [24] (fun si wr => ∃ i : Nat, i ≤ 1 ∧ si = .int .i64 i ∧ wr = w1) (fun si _ => 1 - (intOf si).toNat)
  case atStart => exact ⟨0, by decide, rfl, rfl⟩
  case round =>
    obtain ⟨i, hi, rfl, rfl⟩ := hrel
    have hi2 : i = 0 ∨ i = 1 := by omega
    rcases hi2 with rfl | hi2
    · have c0 := Hc0.out
      go_wp2_with (go_at_call 172; refine Stop.out ?_)
      refine Stop.go (isSmall_c b _ _ H1.out H2.out ?_)
      go_wp2
      go_roundw
      case rel => exact ⟨1, by omega, by go_num, by trivial⟩
      case measure => simp [intOf]
    · have hiI : ¬ (i : Int) < 1 := by omega
      clear hi2 hi
      have g0 : ∀ (k : Nat) (s : List UInt8), kwL[k]? = some s → wr.cell? ⟨0, k, none⟩ = some (.string ⟨s.toArray⟩) := (HK.out.next HB1.out).2
      have k0 := g0 0 _ rfl; have k1 := g0 1 _ rfl; have k2 := g0 2 _ rfl; have k3 := g0 3 _ rfl; have k4 := g0 4 _ rfl; have k5 := g0 5 _ rfl; have k6 := g0 6 _ rfl; have k7 := g0 7 _ rfl; have k8 := g0 8 _ rfl; have k9 := g0 9 _ rfl; have k10 := g0 10 _ rfl; have k11 := g0 11 _ rfl; have k12 := g0 12 _ rfl; have k13 := g0 13 _ rfl; have k14 := g0 14 _ rfl; have k15 := g0 15 _ rfl; have k16 := g0 16 _ rfl
      clear g0
      go_wp2
      clear k0 k1 k2 k3 k4 k5 k6 k7 k8 k9 k10 k11 k12 k13 k14 k15 k16
      obtain ⟨A, hA⟩ : ∃ A, kwC = A := ⟨_, rfl⟩
      rw [show (#[.string { data := #[99, 97, 108, 101, 110, 100, 97, 114] }, .string { data := #[111, 112, 101, 114, 97, 116, 111, 114] }, .string { data := #[111, 102, 102, 105, 99, 101] }, .string { data := #[108, 105, 110, 101] }, .string { data := #[99, 108, 97, 115, 115] }, .string { data := #[122, 111, 110, 101] }, .string { data := #[119, 101, 101, 107] }, .string { data := #[104, 111, 108, 105, 100, 97, 121] }, .string { data := #[112, 111, 99, 107, 101, 116, 115] }, .string { data := #[112, 97, 115, 115, 101, 115] }, .string { data := #[109, 105, 110, 117, 116, 101, 115] }, .string { data := #[99, 111, 100, 101, 115] }, .string { data := #[97, 116] }, .string { data := #[116, 114, 97, 118, 101, 108] }, .string { data := #[108, 111, 97, 100] }, .string { data := #[99, 117, 116] }, .string { data := #[100, 101, 108, 105, 118, 101, 114] }] : Array Value) = A from hA]
      have HA := hide hA
      clear hA
      go_loopw [42] (fun sj w2 => ∃ j : Nat, j ≤ 17 ∧ sj = .int .i64 j ∧ w2 = wr) (fun sj _ => 17 - (intOf sj).toNat)
      case atStart => exact ⟨0, by decide, rfl, rfl⟩
      case round =>
        obtain ⟨j, hj, rfl, rfl⟩ := hrel
        by_cases hlt : j < 17
        · obtain ⟨s, hs, hA, hne⟩ := kw_at HA.out hlt
          have hjI : (j : Int) < 17 := by omega
          have q0 := hne b
          have q1 := run_index_arr wr (t := 244) (e := 9) (n := 17) (by kernel_rfl) (by kernel_rfl) (fun w => Tryz.isAgg9 w) hlt hA
          clear hs hA hne
          go_wp2
          go_roundw
          case rel => exact ⟨j + 1, by omega, by go_num, by trivial⟩
          case measure => simp [intOf]; omega
        · have hjI : ¬ (j : Int) < 17 := by omega
          have HF := hide (HR.out _ HB1.out)
          go_wp2
          exact HF.out
end Go.Proofs.YtkabghifdedmfaaGreatDoor
