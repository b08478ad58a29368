/- Sorting: machines, powers, schemes. Compile: lines; the step that sorts. Compile: the step that sorts. Routing: bounds. -/
import Derived.Test.YtgfhcmidnbahjaaGreatDoorJ16
import Derived.Test.YtgfhcmidnbahjaaGreatDoorJ3
import Derived.Lib.MinMax
import Derived.Test.YtgfhcmidnbahjaaGreatDoorJ23
import Derived.Test.YtgfhcmidnbahjaaGreatDoorJ12
import Derived.Test.YtgfhcmidnbahjaaGreatDoorJ18
set_option linter.unusedVariables false
set_option linter.unusedSimpArgs false
namespace Go.Proofs.YtgfhcmidnbahjaaGreatDoor
section
open Go.RowKit Go.Shelf
theorem machine_c (b : Int) (w : World) (R) (h1 : 2 ≤ b) (h2 : b ≤ 64) (hR : R (.returned (.bool true)) w) : Calls Tryz.prog 68 #[.int .i64 b] w R := by
 have HR := hide hR
 clear hR
 go_enter Tryz.func68, Tryz.ntmps68
 go_wp2
 exact HR.out
theorem pow_range {b : Int} (h1 : 2 ≤ b) (h2 : b ≤ 64) : ∀ k : Nat, k ≤ 4 → 1 ≤ powF b k ∧ powF b k ≤ 16777216 := by
 have m : ∀ x : Int, 1 ≤ x → x * 1 ≤ x * b ∧ x * b ≤ x * 64 := fun x hx => ⟨Int.mul_le_mul_of_nonneg_left (by omega) (by omega), Int.mul_le_mul_of_nonneg_left h2 (by omega)⟩
 have p1 : powF b 0 = 1 := rfl
 have p2 : powF b 1 = powF b 0 * b := rfl
 have p3 : powF b 2 = powF b 1 * b := rfl
 have p4 : powF b 3 = powF b 2 * b := rfl
 have p5 : powF b 4 = powF b 3 * b := rfl
 have m1 := m (powF b 0) (by omega)
 have m2 := m (powF b 1) (by omega)
 have m3 := m (powF b 2) (by omega)
 have m4 := m (powF b 3) (by omega)
 intro k hk
 have : k = 0 ∨ k = 1 ∨ k = 2 ∨ k = 3 ∨ k = 4 := by omega
 rcases this with rfl | rfl | rfl | rfl | rfl <;> omega
set_option maxRecDepth 100000 in
set_option maxHeartbeats 2000000 in
theorem power_c (b : Int) (p : Nat) (w : World) (R) (h1 : 2 ≤ b) (h2 : b ≤ 64) (hp : p ≤ 4) (hR : R (.returned (.int .i64 (powF b p))) w) : Calls Tryz.prog 69 #[.int .i64 b, .int .i64 (p : Int)] w R := by
 have HR := hide hR
 have HP := hide (pow_range h1 h2)
 clear hR
 go_enter Tryz.func69, Tryz.ntmps69
 go_wp2
 go_loopw [5, 7] (fun sv si wr => ∃ k : Nat, k ≤ p ∧ sv = .int .i64 (powF b k) ∧ si = .int .i64 k ∧ wr = w) (fun _ si _ => p - (intOf si).toNat)
 case atStart => exact ⟨0, Nat.zero_le _, rfl, rfl, rfl⟩
 case round =>
  obtain ⟨k, hk, rfl, rfl, rfl⟩ := hrel
  by_cases hlt : k < p
  ·have hn := HP.out (k + 1) (by omega)
   have e : powF b (k + 1) = powF b k * b := rfl
   have E := hide e
   rw [e] at hn
   have e1 : IntKind.i64.wrap (powF b k * b) = powF b k * b := IntWalk.i64_in _ (by omega)
   have q1 : (k : Int) < (p : Int) := by omega
   clear hn e
   go_wp2
   go_roundw
   case rel => exact ⟨k + 1, by omega, by rw [E.out], by go_num, by trivial⟩
   case measure => simp [intOf]; omega
  ·have q1 : ¬ (k : Int) < (p : Int) := by omega
   obtain rfl : k = p := by omega
   go_wp2
   exact HR.out
def schemeF (b : Int) : Nat → Nat → Int := fun k g => (g : Int) / powF b k % b
set_option maxRecDepth 100000 in
set_option maxHeartbeats 2000000 in
theorem scheme_c (b : Int) (p g : Nat) (w : World) (R) (h1 : 2 ≤ b) (h2 : b ≤ 64) (hp : 1 ≤ p) (hp4 : p ≤ 4) (hg : g ≤ 2000)
  (hno : powF b p < (g : Int) → R (.returned (.tuple #[.slice none 0 0, .int .i64 140])) w)
  (hR : ∀ w' q, (g : Int) ≤ powF b p → Below w.heap.size w w' → MrO w.heap.size w' q p g (schemeF b) → R (.returned (.tuple #[.slice (some ⟨q, 0, none⟩) p p, .int .i64 0])) w') :
  Calls Tryz.prog 17 #[.int .i64 b, .int .i64 (p : Int), .int .i64 (g : Int)] w R := by
 have HR := hide hR; have HNo := hide hno
 have HP := hide (pow_range h1 h2)
 clear hR hno
 have q1 : ¬ (p : Int) < 1 := by omega
 have q2 : ¬ 4 < (p : Int) := by omega
 have q3 : ¬ (g : Int) < 0 := by omega
 have q4 : ¬ 2000 < (g : Int) := by omega
 go_enter Tryz.func17, Tryz.ntmps17
 go_wp2_with (go_at_call 68; refine Stop.out ?_)
 refine Stop.go (machine_c b _ _ h1 h2 ?_)
 go_wp2_with (go_at_call 69; refine Stop.out ?_)
 refine Stop.go (power_c b p _ _ h1 h2 hp4 ?_)
 clear q1 q2 q3 q4
 by_cases hbig : powF b p < (g : Int)
 ·have HF := hide (HNo.out hbig)
  generalize powF b p = x at *
  go_wp2
  exact HF.out
 ·obtain ⟨os, hos, hmk⟩ := mkRows w p (by omega)
  have H0 := hide (show BdR w (schemeF b) p g 0 (w.alloc (.cells os 40)) from BdI.zero w (schemeF b) p hos)
  have HR2 := hide (fun w' q => HR.out w' q (by omega))
  clear hos HR HNo
  generalize powF b p = x at *
  go_wp2
  clear hmk
  go_loopw [38] (fun si wr => ∃ k : Nat, k ≤ p ∧ si = .int .i64 k ∧ Hid (BdR w (schemeF b) p g k wr)) (fun si _ => p - (intOf si).toNat)
  case atStart => exact ⟨0, Nat.zero_le _, rfl, H0⟩
  case round =>
   clear H0
   obtain ⟨k, hk, rfl, HD⟩ := hrel
   by_cases hlt : k < p
   ·obtain ⟨cs, hcs, hmk⟩ := mkInts wr g (by omega)
    obtain ⟨⟨v0, c0⟩, f0⟩ := HD.out.cell hlt
    have c0' : (wr.alloc (.cells cs 3)).cell? ⟨w.heap.size, k, none⟩ = some v0 := cell_later (balloc (Below.refl _ _) _) c0
    have f0' : (wr.alloc (.cells cs 3)).frozen? ⟨w.heap.size, k, none⟩ = false := by
     obtain ⟨os, h1, h2, h3⟩ := HD.out.rows
     exact (h1.alloc _).free k
    have HRw := hide (HD.out.row hlt hcs)
    have q1 : (0 : Int) ≤ (k : Int) := by omega
    have q2 : (k : Int) < (p : Int) := by omega
    clear hcs HD c0 f0
    go_wp2
    clear hmk c0' f0'
    generalize wr.heap.size = gr at *
    go_loopw [47] (fun si wq => ∃ j : Nat, j ≤ g ∧ si = .int .i64 j ∧ Hid (BrR w (schemeF b) p g k gr j wq)) (fun si _ => g - (intOf si).toNat)
    case atStart => exact ⟨0, Nat.zero_le _, rfl, HRw⟩
    case round =>
     clear HRw
     obtain ⟨j, hj, rfl, HJ⟩ := hrel
     by_cases hlj : j < g
     ·have c0 := HJ.out.cell
      have q3 : (0 : Int) ≤ (j : Int) := by omega
      have q4 : (j : Int) < (g : Int) := by omega
      have hpk := HP.out k (by omega)
      have hE : schemeF b k j = (j : Int) / powF b k % b := rfl
      have HE := hide hE
      obtain ⟨pk, hpk0⟩ : ∃ pk, powF b k = pk := ⟨_, rfl⟩
      rw [hpk0] at hpk HE hE
      have hdv : Int.tdiv (j : Int) pk = (j : Int) / pk := Int.tdiv_eq_ediv_of_nonneg q3
      have hd0 : 0 ≤ (j : Int) / pk := Int.ediv_nonneg q3 (by omega)
      have hd1 : (j : Int) / pk ≤ (j : Int) := Int.ediv_le_self _ q3
      have hmd : Int.tmod ((j : Int) / pk) b = (j : Int) / pk % b := Int.tmod_eq_emod_of_nonneg hd0
      have hm0 : 0 ≤ (j : Int) / pk % b := Int.emod_nonneg _ (by omega)
      have hm1 : (j : Int) / pk % b < b := Int.emod_lt_of_pos _ (by omega)
      have hw1 : IntKind.i64.wrap ((j : Int) / pk) = (j : Int) / pk := IntWalk.i64_in _ (by omega)
      have hw2 : IntKind.i64.wrap ((j : Int) / pk % b) = (j : Int) / pk % b := IntWalk.i64_in _ (by omega)
      have hz1 : ¬ pk = 0 := by omega
      have hz2 : ¬ b = 0 := by omega
      have hz3 : (pk == 0) = false := by simpa using hz1
      have hz4 : (b == 0) = false := by simpa using hz2
      have KB : Hid (∀ W', Below wr.heap.size wr W' → W'.cell? ⟨w.heap.size, k, none⟩ = some (.slice (some ⟨gr, 0, none⟩) g g)) := hide (fun W' hb => (HJ.out.next hb).cell)
      have HJ3 : Hid (BrR w (schemeF b) p g k gr (j + 1) ((wr.setCell ⟨gr, j, none⟩ (.int .i64 ((j : Int) / pk % b))).drew)) := hide (by
       have := HJ.out.put hlj
       rw [hE] at this
       exact this.next (Below.refl _ _).drew)
      clear hm0 hm1 hd0 hd1
      go_wp2
      go_region_held3 (fun w' => w'.cell? ⟨w.heap.size, k, none⟩ = some (.slice (some ⟨gr, 0, none⟩) g g))
       (first | exact KB.out _ (Below.refl _ _).drew | exact HJ3.out.cell)
       (first
       | (refine power_c b k _ _ h1 h2 (by omega) ?_
          have HJ2 := hide (HJ.out.next (Below.refl _ _).drew)
          obtain ⟨⟨v1, c1⟩, f1⟩ := HJ2.out.here hlj))
      clear HJ2 c0 f1 c1 q3 q4 HJ KB hdv hmd hw1 hw2 hz1 hz2 hz3 hz4 hpk HE
      go_wp2
      go_roundw
      case rel => exact ⟨j + 1, by omega, by go_num, HJ3⟩
      case measure => simp [intOf]; omega
     ·have q3 : ¬ (j : Int) < (g : Int) := by omega
      obtain rfl : j = g := by omega
      have HD2 := hide HJ.out.done
      clear HJ
      go_wp2
      go_roundw
      case rel => exact ⟨k + 1, by omega, by go_num, HD2⟩
      case measure => simp [intOf]; omega
   ·have q1 : ¬ (k : Int) < (p : Int) := by omega
    obtain rfl : k = p := by omega
    have HF := hide (HR2.out _ _ HD.out.below HD.out.own)
    clear HD
    go_wp2
    exact HF.out
end
section
open Go.RowKit Go.Shelf Go.Maps Go.Sort
theorem setL_len (l : List Int) : (setL l).length ≤ l.length := by
 have h : ∀ (l s : List Int), (l.foldl (fun s x => insU x s) s).length ≤ s.length + l.length := by
  intro l
  induction l with
  | nil => intro s; simp
  | cons x l ih =>
   intro s
   rw [List.foldl_cons, List.length_cons]
   have := ih (insU x s)
   have h2 : (insU x s).length ≤ s.length + 1 := by unfold insU; split <;> simp
   omega
 simpa [setL] using h l []
theorem rowL_len (f : Nat → Int) (o n : Nat) : (rowL f o n).length ≤ n := by
 unfold rowL
 rw [List.length_map]
 exact Nat.le_trans (List.length_filter_le _ _) (by simp)
set_option maxRecDepth 100000 in
set_option maxHeartbeats 2000000 in
theorem lines_c (P : Pln) (o b bo b' o' : Nat) (f : Nat → Int) (w : World) (R) (hp : P.np = some ⟨b, bo, none⟩) (hrow : ∃ c', w.cell? ⟨b, bo + o, none⟩ = some (.slice (some ⟨b', o', none⟩) P.nn c')) (hc : RowAt w b' o' P.nn f) (hn : P.nn ≤ 12) (ho : o < P.nn) (hf : ∀ j, j < P.nn → -1 ≤ f j ∧ f j ≤ 1000)
  (hR : ∀ w' p cap ss, List.Perm ss (setL ((rowL f o P.nn).filter fun l => !decide (l = -1))) → w'.ownsRow w.heap.size 3 1 (.slice p ss.length cap) ss.length ((ss.mergeSort (fun x y => decide (x ≤ y))).map encZ) → Below w.heap.size w w' → R (.returned (.slice p ss.length cap)) w') :
  Calls Tryz.prog 63 #[.agg P.cells.toArray, .int .i64 (o : Int)] w R := by
 have HR := hide hR
 obtain ⟨w1, hw1⟩ : ∃ w1, (w.alloc (.cells P.cells.toArray 39)).alloc (.cells #[.int .i64 (o : Int)] 3) = w1 := ⟨_, rfl⟩
 have hb1 : Below w.heap.size w w1 := hw1 ▸ balloc (balloc (Below.refl _ _) _) _
 have hI : LnI P o b bo b' o' f w.heap.size w1 := by
  obtain ⟨c', hr⟩ := hrow
  refine ⟨?_, ?_, hp, ⟨c', cell_later hb1 hr⟩, hc.next hb1⟩
  ·rw [← hw1]; repeat (first | exact Blk.new_at (by simp) | refine Blk.alloc ?_ _)
  ·rw [← hw1]; exact Blk.new_at (by simp)
 have HB1 := hide hb1; have HI := hide hI
 have hxs : ∀ x ∈ rowL f o P.nn, -1000000 ≤ x ∧ x ≤ 1000000 := fun x hx => by
  unfold rowL at hx
  obtain ⟨j, hj, rfl⟩ := List.mem_map.1 hx
  have := hf j (List.mem_range.1 (List.mem_filter.1 hj).1)
  omega
 have HX := hide hxs
 have hln := rowL_len f o P.nn
 unfold Pln.cells at hw1 ⊢
 clear hR hb1 hI hrow hc hxs hf hp
 go_enter Tryz.func63, Tryz.ntmps63
 go_wp2_with (go_at_call 132; refine Stop.out ?_)
 refine Stop.go (collect_c 129 #[.pointer (some ⟨w.heap.size, 0, none⟩), .pointer (some ⟨w.heap.size + 1, 0, none⟩)] (enters_of Tryz.func129 (by kernel_rfl) rfl) (rowL f o P.nn) (LnK b b' w.heap.size) w1 _ (lines_it P o b bo b' o' f w.heap.size w1 HI.out (by omega) ho) (fun k hk => HI.out.lt (by omega) hk) (by omega) HX.out ?_)
 intro w2 g hb2 hg hset
 have HB2 := hide (bseq HB1.out hb2)
 have HS := hide hset
 clear hb2 hset hw1
 go_wp2_with (go_at_call 131; refine Stop.out ?_)
 refine Stop.go (keysK_c (some g) w2 _ ?_)
 go_wp2_with (go_at_call 130; refine Stop.out ?_)
 obtain ⟨n, D, h1, h2⟩ := HS.out
 have hlen : (setL ((rowL f o P.nn).filter fun l => !decide (l = -1))).length ≤ 12 := by
  have h3 := setL_len ((rowL f o P.nn).filter fun l => !decide (l = -1))
  have h4 := List.length_filter_le (fun l => !decide (l = -1)) (rowL f o P.nn)
  omega
 refine Stop.go (sortedK_c g n D _ w2 _ h1 (by rw [h2.size]; unfold maxLen; omega) (by rw [h2.size]; omega) ?_)
 intro v ss w3 hs hown hb3
 obtain ⟨p', cap', rfl, _⟩ := own_val hown
 have HF := hide (HR.out w3 p' cap' ss (hs.trans h2.keys) (own_mono hown HB2.out.size) (bseq HB2.out hb3))
 clear hs hown hb3 h1 h2
 go_wp2
 exact HF.out
end
section
open Go.RowKit Go.Shelf
attribute [local go_sem] Oper.semAt_some run_store_func
def workC (N : Net) (P : Pln) (ct : List Value) : Array Value := (N.cells.toList ++ P.cells ++ ct).toArray
section
variable {W : World} {g : Nat} {N : Net} {P : Pln} {ct : List Value} {t : TypeId}
theorem Blk.workN (h : Blk W g (workC N P ct) t) : W.cell? ⟨g, 0, none⟩ = some (.slice N.cp N.cals.length N.cc) ∧ W.cell? ⟨g, 1, none⟩ = some (.slice N.np N.names.length N.nc) ∧
  W.cell? ⟨g, 2, none⟩ = some (.slice N.op N.oprs.length N.oc) ∧ W.cell? ⟨g, 3, none⟩ = some (.slice N.fp N.offs.length N.fc) ∧ W.cell? ⟨g, 4, none⟩ = some (.slice N.lp N.lins.length N.lc) ∧ W.cell? ⟨g, 5, none⟩ = some (.slice N.kp N.clss.length N.kc) :=
 ⟨h.cell rfl, h.cell rfl, h.cell rfl, h.cell rfl, h.cell rfl, h.cell rfl⟩
theorem Blk.workP (h : Blk W g (workC N P ct) t) : W.cell? ⟨g, 6, none⟩ = some (.int .i64 P.fr) ∧ W.cell? ⟨g, 7, none⟩ = some (.int .i64 P.till) ∧ W.cell? ⟨g, 8, none⟩ = some (.slice P.np P.nn P.nc) ∧ W.cell? ⟨g, 9, none⟩ = some (.slice P.dp P.dn P.dc) :=
 ⟨h.cell rfl, h.cell rfl, h.cell rfl, h.cell rfl⟩
end
structure StI (w : World) (g : Nat) (N : Net) (P : Pln) (ct : List Value) (nx : Nat → Nat → Int) (v : Value) (W : World) : Prop where
 below : Below w.heap.size w W
 ptr : Blk W w.heap.size #[.pointer (some ⟨g, 0, none⟩)] 90
 err : Blk W (w.heap.size + 1) #[v] 43
 work : Blk W g (workC N P ct) 92
 net : NetAt W N
 mat : MatAt W P.np P.nn nx
section
variable {w : World} {g : Nat} {N : Net} {P : Pln} {ct : List Value} {nx : Nat → Nat → Int} {v : Value} {W W' : World}
theorem StI.next (h : StI w g N P ct nx v W) (hb : Below W.heap.size W W') : StI w g N P ct nx v W' := ⟨bseq h.below hb, h.ptr.next hb, h.err.next hb, h.work.next hb, h.net.next hb, h.mat.next hb⟩
theorem StI.own {row : Option Nat} {B : Nat} (k : StI w g N P ct nx v W) (hB : w.heap.size ≤ B) (hg : W.grownBy W' row) (hr : ∀ r, row = some r → B ≤ r ∧ ∃ o : Obj, W.heap[r]? = some o ∧ o.isCells = false) : StI w g N P ct nx v W' :=
 ⟨below_own k.below hB hg hr, k.ptr.own hg hr, k.err.own hg hr, k.work.own hg hr, k.net.keep (keeps_own hg hr), k.mat.keep (keeps_own hg hr)⟩
theorem StI.put (h : StI w g N P ct nx v W) (hw : Blk w g (workC N P ct) 92) (hN : NetAt w N) (hM : MatAt w P.np P.nn nx) (u : Value) : StI w g N P ct nx u (W.setCell ⟨w.heap.size + 1, 0, none⟩ u) := by
 have hb := h.below.setCell (p := ⟨w.heap.size + 1, 0, none⟩) (Nat.le_succ _) u
 exact ⟨hb, h.ptr.far (p := ⟨w.heap.size + 1, 0, none⟩) (show w.heap.size ≠ w.heap.size + 1 by omega) u, h.err.set 0 u, hw.next hb, hN.next hb, hM.next hb⟩
end
set_option maxRecDepth 100000 in
set_option maxHeartbeats 800000 in
theorem cSort_c (N : Net) (P : Pln) (ct : List Value) (nx : Nat → Nat → Int) (g : Nat) (w : World) (R) (hw : Blk w g (workC N P ct) 92) (hN : NetAt w N) (hS : Snd N) (hM : MatAt w P.np P.nn nx) (hnn : P.nn = N.offs.length) (hf : ∀ o d, o < P.nn → d < P.nn → -1 ≤ nx o d ∧ nx o d ≤ 1000)
  (hR : ∀ w', Below w.heap.size w w' → R (.returned (.int .i64 (if sortB N nx = true then 0 else 140))) w') :
  Calls Tryz.prog 37 #[.pointer (some ⟨g, 0, none⟩)] w R := by
 have Hnn := hide hnn
 have HR := hide hR; have HSn := hide hS; have Hf := hide hf; have HW0 := hide hw; have HN0 := hide hN; have HM0 := hide hM
 have hno : N.offs.length ≤ 12 := hS.noff
 obtain ⟨w1, hw1⟩ : ∃ w1, (w.alloc (.cells #[.pointer (some ⟨g, 0, none⟩)] 90)).alloc (.cells #[.int .i64 0] 43) = w1 := ⟨_, rfl⟩
 have hb1 : Below w.heap.size w w1 := hw1 ▸ balloc (balloc (Below.refl _ _) _) _
 have H0 := hide (show StI w g N P ct nx (.int .i64 0) w1 from ⟨hb1, by rw [← hw1]; repeat (first | exact Blk.new_at (by simp) | refine Blk.alloc ?_ _), by rw [← hw1]; exact Blk.new_at (by simp), hw.next hb1, hN.next hb1, hM.next hb1⟩)
 obtain ⟨y0, y1, y2, y3, y4, y5⟩ := (hw.next hb1).workN
 have z0 := H0.out.ptr.cell (k := 0) (v := .pointer (some ⟨g, 0, none⟩)) rfl
 clear hR hS hf hw hN hM hb1 hnn
 refine (callsIn_wide (n := 8)).1 ?_
 refine callsIn_of_wp_marks Tryz.func37 rfl trivial ?_ rfl
 simp only [Tryz.ntmps37, List.size_toArray, List.length_cons, List.length_nil, Nat.reduceAdd, Nat.reduceSub, Array.replicate_succ, Array.replicate_zero, List.push_toArray, List.append_toArray, List.nil_append, List.cons_append]
 refine wpIn_wide.2 ?_
 go_wp2_with (go_at_call 110; refine Stop.out ?_)
 refine Stop.go (machines_c N w1 _ H0.out.net ?_)
 intro w2 hb2 hmg hs2
 have H2 := hide (H0.out.next hb2); have HMg := hide hmg
 clear hb2 hmg hw1 y0 y1 y2 y3 y4 y5 z0
 go_wp2
 have hg1 : w.heap.size + 1 < w1.heap.size := H0.out.err.lt
 refine (wpIn_wide (n := 8)).1 ?_
 refine rangeFunc_G rfl (enters_of Tryz.func168 (by kernel_rfl) rfl) (machines_it N w1.heap.size w2 HMg.out (by omega)) (fun _ k => k = w.heap.size + 1) ?hK (fun _ => rfl)
  (fun pre W => (∀ o ∈ pre, groupsN nx N.offs.length o ≤ powF (offOf N o).pockets (offOf N o).passes.toNat) ∧ StI w g N P ct nx (.int .i64 0) W)
  (fun cd W => cd = .ret ∧ sortB N nx = false ∧ StI w g N P ct nx (.int .i64 140) W) ?hI ?hIb ?hTx ⟨by simp, H2.out⟩ ?hround ?hdone ?hstop
 case hK =>
  intro k hk
  refine ⟨HMg.out.lt hk, ?_⟩
  rcases hk with rfl | ⟨h0, o, hp⟩
  ·exact fun e => absurd (show w1.heap.size = w.heap.size + 1 from e) (by omega)
  ·obtain ⟨b, o', x, hp', hx, hc⟩ := HN0.out.offs.at_ h0
   rw [hp] at hp'; injection hp' with hp'; injection hp' with e1 e2; subst e1
   have h9 : k < w.heap.size := block_lt (hc 0 _ rfl)
   exact fun e => absurd (show k = w.heap.size + 1 from e) (by omega)
 case hI => exact fun s W W' row h hg hr => ⟨h.1, h.2.own H2.out.below.size hg hr⟩
 case hIb =>
  intro s W W' row h hg hr k hk
  refine ⟨hk, ?_⟩
  have e1 := h.2.err.lt
  omega
 case hTx => exact fun cd s W W' row h hg hr => ⟨h.1, h.2.1, h.2.2.own H2.out.below.size hg hr⟩
 case hround =>
  intro ll pre i post hpx W hI K' hK'
  have hi : i < N.offs.length := by
   have : i ∈ List.range N.offs.length := by rw [hpx]; simp
   exact List.mem_range.1 this
  obtain ⟨hpre, hT⟩ := hI
  have Hpre := hide hpre; have HT := hide hT; have HK' := hide hK'
  have hx : N.offs[i]? = some (N.offs[i]'hi) := List.getElem?_eq_getElem hi
  generalize N.offs[i]'hi = x at hx
  have hof : offOf N (i : Int) = x := by unfold offOf; rw [show ((i : Int)).toNat = i by omega, getD_some hx]
  have hO := HSn.out.offP (o := (i : Int)) (by omega) (by omega)
  rw [hof] at hO
  obtain ⟨p, hp⟩ : ∃ p : Nat, x.passes = (p : Int) := ⟨x.passes.toNat, by have := hO.passes; omega⟩
  have hpk := hO.pockets
  have hp1 := hO.passes
  rw [hp] at hp1
  have he : offEnc N i = #[.int .i64 (i : Int), .agg #[.string x.name, .int .i64 x.operator, .int .i64 x.calendar, .int .i64 x.pockets, .int .i64 (p : Int), .int .i64 x.minutes, .slice x.cp x.codes.length x.cc]] := by
   unfold offEnc; rw [getD_some hx, ← hp]; rfl
  rw [he]
  have hgr : groupsN nx N.offs.length i ≤ powF x.pockets p → ∀ o ∈ pre ++ [i], groupsN nx N.offs.length o ≤ powF (offOf N o).pockets (offOf N o).passes.toNat := fun h o ho => by
   rcases List.mem_append.1 ho with ho | ho
   ·exact hpre o ho
   ·rw [List.mem_singleton.1 ho, hof, hp]; exact h
  have hbadS : ¬ groupsN nx N.offs.length i ≤ powF x.pockets p → sortB N nx = false := fun h => by
   unfold sortB
   rw [List.all_eq_false]
   refine ⟨i, List.mem_range.2 hi, ?_⟩
   rw [hof, hp]
   simpa using h
  have Hgr := hide hgr; have HbadS := hide hbadS
  clear hT hK' hpx hpre hx hof hO hp he hgr hbadS
  gi_wp2
  have hbo : Below W.heap.size W (W.alloc (.cells #[.string x.name, .int .i64 x.operator, .int .i64 x.calendar, .int .i64 x.pockets, .int .i64 (p : Int), .int .i64 x.minutes, .slice x.cp x.codes.length x.cc] 65)) := balloc (Below.refl _ _) _
  have hob := Blk.new W 65 #[.string x.name, .int .i64 x.operator, .int .i64 x.calendar, .int .i64 x.pockets, .int .i64 (p : Int), .int .i64 x.minutes, .slice x.cp x.codes.length x.cc]
  refine HK'.out _ _ (kfrom_below hbo) (kpb_below hbo (fun k h => h)) ⟨Hpre.out, HT.out.next hbo⟩ (fun W2 hB2 hI2 => ?_)
  have HI2 := hide hI2.2
  have HOb := hide (hob.bump hB2)
  have HPre2 := hide hI2.1
  clear hB2 hI2 hbo hob HT
  generalize W.heap.size = go_ at *
  have z0 := HI2.out.ptr.cell (k := 0) (v := .pointer (some ⟨g, 0, none⟩)) rfl
  obtain ⟨p0, p1, p2, p3⟩ := HI2.out.work.workP
  obtain ⟨b, bo, b', o', c', hnp, hrw, hcl⟩ := HI2.out.mat i (by have := Hnn.out; omega)
  have Hrow := hide (show ∃ c', W2.cell? ⟨b, bo + i, none⟩ = some (.slice (some ⟨b', o', none⟩) P.nn c') from ⟨c', hrw⟩)
  have Hcl := hide (show RowAt W2 b' o' P.nn (nx i) from hcl)
  have Hnp := hide hnp
  have Hin := hide (show i < P.nn by have := Hnn.out; omega)
  clear hrw hcl hnp
  gi_wp2_with (gi_at_call 63; refine Stop.out ?_)
  refine Stop.go ⟨trivial, callsIn_wide.2 (lines_c P i b bo b' o' (nx i) W2 _ Hnp.out Hrow.out Hcl.out (by have := Hnn.out; omega) Hin.out (fun j hj => Hf.out i j Hin.out hj) ?_)⟩
  intro W3 q cap ss hss _ hb3
  have hln : (ss.length : Int) + 1 = groupsN nx N.offs.length i := by
   have h1 := hss.length_eq
   unfold groupsN
   rw [← Hnn.out]
   have h2 : usedL nx P.nn i = (rowL (nx i) i P.nn).filter (fun l => !decide (l = -1)) := rfl
   rw [h2, ← h1]; omega
  have hsl : ss.length ≤ 12 := by
   have h1 := hss.length_eq
   have h3 := setL_len ((rowL (nx i) i P.nn).filter fun l => !decide (l = -1))
   have h4 := List.length_filter_le (fun l => !decide (l = -1)) (rowL (nx i) i P.nn)
   have h5 := rowL_len (nx i) i P.nn
   have h6 := Hnn.out
   omega
  have HI3 := hide (HI2.out.next hb3); have HOb3 := hide (HOb.out.next hb3)
  have HB3 := hide hb3
  have m3 := HOb3.out.cell (k := 3) (v := .int .i64 x.pockets) rfl; have m4 := HOb3.out.cell (k := 4) (v := .int .i64 (p : Int)) rfl
  generalize ss.length = L at *
  have ew : IntKind.i64.wrap (1 + (L : Int)) = ((L + 1 : Nat) : Int) := by rw [IntWalk.i64_in _ (by omega)]; omega
  have Hln := hide (show ((L + 1 : Nat) : Int) = groupsN nx N.offs.length i by omega)
  have Hsl := hide hsl
  clear hss hb3 hln hsl z0 p0 p1 p2 p3 HI2 HOb
  gi_wp2_with (gi_at_call 17; refine Stop.out ?_)
  refine Stop.go ⟨trivial, callsIn_wide.2 (scheme_c x.pockets p (L + 1) W3 _ hpk.1 hpk.2 (by omega) (by omega) (by have := Hsl.out; omega) ?_ ?_)⟩
  ·intro hbig
   have hbs := HbadS.out (by rw [← Hln.out]; omega)
   have Hbs := hide hbs
   have f0 := HI3.out.err.free 0; have c0 := HI3.out.err.cell (k := 0) (v := .int .i64 0) rfl
   clear hbig hbs m3 m4 ew
   gi_wp2
   exact ⟨KeepsFrom.trans (kfrom_below HB3.out) (kfrom_set _ _ _), rfl, Hbs.out, HI3.out.put HW0.out HN0.out HM0.out _⟩
  ·intro w5 q5 hle hb5 _
   have hok := Hgr.out (by rw [← Hln.out]; exact hle)
   have HI5 := hide (HI3.out.next hb5)
   have Hok := hide hok
   have HB5 := hide (bseq HB3.out hb5)
   clear hle hok m3 m4 ew hb5
   gi_wp2
   exact ⟨kfrom_below HB5.out, kpb_below HB5.out (fun k h => h), Hok.out, HI5.out⟩
 case hdone =>
  rintro D W hD ⟨hall, hT⟩ hd
  have HT := hide hT; have Hd := hide hd
  have hs : sortB N nx = true := by
   unfold sortB
   rw [List.all_eq_true]
   intro o ho
   exact decide_eq_true (hall o ho)
  have HF := hide HR.out
  rw [hs] at HF
  have c1 := HT.out.err.cell (k := 0) rfl
  have f1 := HT.out.err.free 0
  have hDn : D ≠ w.heap.size + 1 := by have := H2.out.err.lt; omega
  have HT2 := hide (HT.out.put HW0.out HN0.out HM0.out (.int .i64 0))
  have hd2 : (W.setCell ⟨w.heap.size + 1, 0, none⟩ (.int .i64 0)).heap[D]? = some (.deferred (some [])) := by
   rw [Below.heap_setCell _ _ _ _ hDn]; exact Hd.out
  have Hd2 := hide hd2
  clear hall hT hd hs hd2 hDn
  go_wp2
  refine ⟨by simp, .inl ⟨_, _, rfl, run_takeDeferred Hd2.out, ?_⟩⟩
  have hg := grownBy_putObj' (W.setCell ⟨w.heap.size + 1, 0, none⟩ (.int .i64 0)) D (.deferred none)
  have hI2 := HT2.out.own (B := w2.heap.size) H2.out.below.size hg (fun r e => by cases e; exact ⟨hD, _, Hd2.out, rfl⟩)
  have z3 := hI2.err.cell (k := 0) rfl
  refine ⟨.int .i64 0, ?_, HF.out _ hI2.below⟩
  clear hg hI2
  simp [results, Tryz.results37, go_sem, z3]
 case hstop =>
  rintro D cd W hD ⟨rfl, hs, hT⟩ hd
  have HT := hide hT; have Hd := hide hd
  have HF := hide HR.out
  rw [hs] at HF
  clear hT hd hs
  refine wpIn_ret ?_
  try rw [Exit.noGoto_ret]
  refine ⟨by simp, .inl ⟨_, _, rfl, run_takeDeferred Hd.out, ?_⟩⟩
  have hg := grownBy_putObj' W D (.deferred none)
  have hI2 := HT.out.own (B := w2.heap.size) H2.out.below.size hg (fun r e => by cases e; exact ⟨hD, _, Hd.out, rfl⟩)
  have z3 := hI2.err.cell (k := 0) rfl
  refine ⟨.int .i64 140, ?_, HF.out _ hI2.below⟩
  clear hg hI2
  simp [results, Tryz.results37, go_sem, z3]
end
section
open Go.RowKit Go.Shelf
set_option maxRecDepth 100000 in
theorem bnd1_c (i j : Int) (w : World) (R) (hR : R (.returned (.int .i64 noneI)) w) : Calls Tryz.prog 135 #[.int .i64 i, .int .i64 j] w R := by
 have HR := hide hR
 clear hR
 go_enter Tryz.func135, Tryz.ntmps135
 go_wp2
 exact HR.out
def CostR (m : Nat) (cost : Nat → Int) : Prop := ∀ i, i < m → cost i = noneI ∨ (2 ≤ cost i ∧ cost i ≤ 100000)
theorem least_low {N : Net} {cost : Nat → Int} (hC : CostR N.lins.length cost) : ∀ k, k ≤ N.lins.length → LowB N.offs.length 100000 (leastM N cost k)
 | 0, _ => fun i j _ _ => .inl rfl
 | k + 1, hk => fun i j hi hj => by
  have ih := least_low hC k (by omega)
  simp only [leastM]
  rcases hC k (by omega) with hc | hc
  ·rw [if_pos hc]; exact ih i j hi hj
  ·have hne : cost k ≠ noneI := by unfold noneI; omega
   rw [if_neg hne]
   unfold updM
   split
   ·next h =>
    right
    have := ih i j hi hj
    rw [← h.1, ← h.2]
    rcases this with h2 | h2
    ·rw [h2]; unfold noneI; omega
    ·omega
   ·exact ih i j hi hj
set_option maxRecDepth 100000 in
set_option maxHeartbeats 4000000 in
theorem bnd2_c (p : Option Addr) (n c ge gs i j : Nat) (M : Nat → Nat → Int) (w : World) (R) (hn : n ≤ 40) (hi : i < n) (hj : j < n) (hL : LowB n 1000000000 M) (he : Blk w ge #[.int .i64 0] 43) (hg : Blk w gs #[.slice p n c] 36) (h : MatAt w p n M)
  (hR : ∀ w', Below w.heap.size w w' → R (.returned (.int .i64 (if M i j = noneI then -1 else -(M i j)))) w') :
  Calls Tryz.prog 137 #[.int .i64 (i : Int), .int .i64 (j : Int), .pointer (some ⟨ge, 0, none⟩), .pointer (some ⟨gs, 0, none⟩)] w R := by
 obtain ⟨b, o, b', o', c', hp, hr, hc⟩ := h i hi
 have c0 := hc j hj
 have x0 := hg.cell (k := 0) (v := .slice p n c) rfl
 have x1 := he.cell (k := 0) (v := .int .i64 0) rfl
 rw [hp] at x0
 have hm := hL i j hi hj
 have q1 : (0 : Int) ≤ (i : Int) := by omega
 have q2 : (i : Int) < (n : Int) := by omega
 have q3 : (0 : Int) ≤ (j : Int) := by omega
 have q4 : (j : Int) < (n : Int) := by omega
 clear hc hp hg h hL he
 generalize M i j = m at *
 have HR := hide (hR w (Below.refl _ _))
 clear hR
 by_cases hmn : m = noneI
 ·rw [if_pos hmn] at HR
  unfold noneI at hmn
  subst hmn
  clear hm
  go_enter Tryz.func137, Tryz.ntmps137
  go_wp2
  exact HR.out
 ·rw [if_neg hmn] at HR
  have e0 : (m == (-1099511627776 : Int)) = false := by
   unfold noneI at hmn
   simpa using hmn
  have e1 : IntKind.i64.wrap (-m) = -m := IntWalk.i64_in _ (by omega)
  clear hm hmn
  go_enter Tryz.func137, Tryz.ntmps137
  go_wp2
  exact HR.out
set_option maxRecDepth 100000 in
set_option maxHeartbeats 4000000 in
theorem bounds_c (N : Net) (gc : Nat) (cost : Nat → Int) (w : World) (R) (hN : NetAt w N) (hS : Snd N) (hc : RowAt w gc 0 N.lins.length cost) (hC : CostR N.lins.length cost)
  (hR : ∀ w' g, Below w.heap.size w w' → MtO w.heap.size w' g N.offs.length (boundM N cost) → R (.returned (.slice (some ⟨g, 0, none⟩) N.offs.length N.offs.length)) w') :
  Calls Tryz.prog 66 #[.agg N.cells, .slice (some ⟨gc, 0, none⟩) N.lins.length N.lins.length] w R := by
 have HR := hide hR; have HN := hide hN; have HSnd := hide hS; have HC := hide hC
 obtain ⟨w1, hw1, hb1, k1, hs1⟩ := net_box N w
 have HB1 := hide hb1; have HK1 := hide k1; have Hs1 := hide hs1; have HRow := hide (hc.next hb1)
 obtain ⟨y0, y1, y2, y3, y4, y5⟩ := k1.net6
 have hno : N.offs.length ≤ 12 := hS.noff
 have hnl : N.lins.length ≤ 40 := hS.nlin
 unfold Net.cells at hw1
 clear hR hN hS hc hC hb1 k1 hs1
 unfold Net.cells
 go_enter Tryz.func66, Tryz.ntmps66
 go_wp2_with (go_at_call 134; refine Stop.out ?_)
 refine Stop.go (table_c N 135 #[] (fun _ _ => noneI) w1 _ (by omega) (enters_of Tryz.func135 (by kernel_rfl) rfl) ?_ ?_)
 ·intro i j W hi hj hb R' hR'
  exact bnd1_c _ _ W R' (hR' W (Below.refl _ _))
 intro w2 g hb hM
 have HB2 := hide hb; have HM := hide hM
 have z4 := (HK1.out.next hb).net6.2.2.2.2.1
 have hg1 : w1.heap.size ≤ g := hM.1
 clear hb hM y0 y1 y2 y3 y4 y5 hw1
 go_wp2
 clear z4
 go_loopw [15] (fun si wr => ∃ k : Nat, k ≤ N.lins.length ∧ si = .int .i64 k ∧ Hid (MtO w1.heap.size wr g N.offs.length (leastM N cost k)) ∧ Hid (Below w1.heap.size w1 wr)) (fun si _ => N.lins.length - (intOf si).toNat)
 case atStart => exact ⟨0, Nat.zero_le _, rfl, HM, HB2⟩
 case round =>
  clear HM HB2
  obtain ⟨k, hk, rfl, HM, HB⟩ := hrel
  by_cases hlt : k < N.lins.length
  ·obtain ⟨s, kk, l, o, c, hX, hs, hkk⟩ := HSnd.out.linX (i := k) hlt
   have HX := hide hX
   have HN2 := hide (HN.out.next (bseq HB1.out HB.out))
   obtain ⟨b1, o1, l', hp1, hl', _, l0, l1, l2, l3, l4, l5⟩ := HN2.out.lin_ (i := k) hlt
   rw [hX.lin] at hl'; injection hl' with hl'; subst hl'
   have hP := linP_of (HSnd.out.lin k hlt)
   rw [getD_some hX.lin] at hP
   obtain ⟨d, hd⟩ : ∃ d : Nat, l.dst = (d : Int) := ⟨l.dst.toNat, (Int.toNat_of_nonneg hP.dst.1).symm⟩
   have hdlt : d < N.offs.length := by have := hP.dst.2; omega
   have hss : l.src = (s : Int) := hX.src
   rw [hss] at l1
   rw [hd] at l2
   have hlin : linOf N (k : Int) = l := hX.linOf
   have Hst := hide (show leastM N cost (k + 1) = if cost k = noneI then leastM N cost k else updM (leastM N cost k) s d (max (leastM N cost k s d) (-cost k)) by
    rw [leastM, hlin, hss, hd]; rfl)
   have hlow := least_low HC.out k hk s d hs hdlt
   have hcr := HC.out k hlt
   have HCk := hide ((HRow.out.next HB.out) k hlt)
   have Hp1 := hide hp1
   rw [hp1]
   have q1 : (0 : Int) ≤ (k : Int) := by omega
   have q2 : (k : Int) < (N.lins.length : Int) := by omega
   obtain ⟨w3, hw3⟩ : ∃ w3, wr.alloc (.cells #[.string l.name, .int .i64 (s : Int), .int .i64 (d : Int), .int .i64 l.at_, .int .i64 l.travel, .int .i64 l.load] 55) = w3 := ⟨_, rfl⟩
   have hb3 : Below wr.heap.size wr w3 := hw3 ▸ balloc (Below.refl _ _) _
   have kl : Blk w3 wr.heap.size #[.string l.name, .int .i64 (s : Int), .int .i64 (d : Int), .int .i64 l.at_, .int .i64 l.travel, .int .i64 l.load] 55 := by rw [← hw3]; exact Blk.new _ _ _
   have c0 : w3.cell? ⟨gc, k, none⟩ = some (.int .i64 (cost k)) := by have := cell_later hb3 HCk.out; rwa [Nat.zero_add] at this
   have m1 := kl.cell (k := 1) (v := .int .i64 (s : Int)) rfl
   have m2 := kl.cell (k := 2) (v := .int .i64 (d : Int)) rfl
   have HM3 := hide (HM.out.next hb3)
   have HB3 := hide (bseq HB.out hb3)
   clear hX hP hd hss hlin hp1 hk kl hb3 HM HB
   by_cases hcn : cost k = noneI
   ·have HM4 : Hid (MtO w1.heap.size w3 g N.offs.length (leastM N cost (k + 1))) := hide (by rw [Hst.out, if_pos hcn]; exact HM3.out)
    have hcn2 : cost k = -1099511627776 := hcn
    rw [hcn2] at c0
    clear HM3 hcn hcn2 hcr hlow
    go_wp2
    go_roundw
    case rel => exact ⟨k + 1, by omega, by go_num, HM4, HB3⟩
    case measure => simp [intOf]; omega
   ·have hcr2 : 2 ≤ cost k ∧ cost k ≤ 100000 := by
     rcases hcr with h | h
     ·exact absurd h hcn
     ·exact h
    have hst2 := Hst.out
    rw [if_neg hcn] at hst2
    have Hst2 := hide hst2
    obtain ⟨rb, hrb, r0, r1, r2, hput⟩ := HM3.out.row hs hdlt
    have HM4 : Hid (MtO w1.heap.size (w3.drew.setCell ⟨rb, d, none⟩ (.int .i64 (max (leastM N cost k s d) (-cost k)))) g N.offs.length (leastM N cost (k + 1))) := hide (by
     have := hput (max (leastM N cost k s d) (-cost k))
     rw [hst2]
     exact this)
    have HB4 : Hid (Below w1.heap.size w1 (w3.drew.setCell ⟨rb, d, none⟩ (.int .i64 (max (leastM N cost k s d) (-cost k))))) := hide ((HB3.out.drew).setCell (p := ⟨rb, d, none⟩) hrb _)
    have e0 : (cost k == (-1099511627776 : Int)) = false := by simp; omega
    have e0' : (cost k != (-1099511627776 : Int)) = true := by simp; omega
    have e1 : IntKind.i64.wrap (-(cost k)) = -(cost k) := IntWalk.i64_in _ (by omega)
    have q3 : (0 : Int) ≤ (s : Int) := by omega
    have q4 : (s : Int) < (N.offs.length : Int) := by omega
    have q5 : (0 : Int) ≤ (d : Int) := by omega
    have q6 : (d : Int) < (N.offs.length : Int) := by omega
    clear hcr hcr2 hcn hst2 hput HM3 hlow Hst HCk
    generalize cost k = ck at *
    generalize leastM N cost k s d = lk at *
    go_wp2
    go_still_tail 23, (by kernel_rfl)
    have r1' : w3.drew.cell? ⟨rb, d, none⟩ = some (.int .i64 lk) := r1
    have r2' : w3.drew.frozen? ⟨rb, d, none⟩ = false := r2
    change wpList _ _ _ _ _ w3.drew
    clear r0 r1 r2 c0 m1 m2 e0 e0' e1 q1 q2 q3 q4 q5 q6 hw3 HB3
    generalize w3.drew = w4 at *
    go_wp2
    go_roundw
    case rel => exact ⟨k + 1, by omega, by go_num, HM4, HB4⟩
    case measure => simp [intOf]; omega
  ·have hkn : k = N.lins.length := by omega
   have q1 : ¬ (k : Int) < (N.lins.length : Int) := by omega
   subst hkn
   have HL := hide (least_low HC.out _ (Nat.le_refl _))
   go_wp2_with (go_at_call 136; refine Stop.out ?_)
   refine Stop.go (star_c (some ⟨g, 0, none⟩) N.offs.length N.offs.length (leastM N cost N.lins.length) wr _ hno HM.out.mat HL.out ?_)
   intro w5 p5 hb5 hm5
   obtain ⟨w6, hw6⟩ : ∃ w6, (w5.alloc (.cells #[.slice p5 N.offs.length N.offs.length] 36)).alloc (.cells #[.int .i64 0] 43) = w6 := ⟨_, rfl⟩
   have hb6 : Below w5.heap.size w5 w6 := hw6 ▸ balloc (balloc (Below.refl _ _) _) _
   have d1 : Blk w6 w5.heap.size #[.slice p5 N.offs.length N.offs.length] 36 := by rw [← hw6]; exact Blk.alloc (Blk.new _ _ _) _
   have d2 : Blk w6 (w5.heap.size + 1) #[.int .i64 0] 43 := by rw [← hw6]; exact Blk.new_at (by simp)
   have c1 := d2.cell (k := 0) (v := .int .i64 0) rfl
   have f1 := d2.free 0
   obtain ⟨w7, hw7⟩ : ∃ w7, w6.setCell ⟨w5.heap.size + 1, 0, none⟩ (.int .i64 0) = w7 := ⟨_, rfl⟩
   have hb7 : Below w5.heap.size w5 w7 := hw7 ▸ hb6.setCell (p := ⟨w5.heap.size + 1, 0, none⟩) (Nat.le_succ _) _
   have d3 : Blk w7 w5.heap.size #[.slice p5 N.offs.length N.offs.length] 36 := by rw [← hw7]; exact d1.far (p := ⟨w5.heap.size + 1, 0, none⟩) (show w5.heap.size ≠ w5.heap.size + 1 by omega) _
   have d4 : Blk w7 (w5.heap.size + 1) #[.int .i64 0] 43 := by rw [← hw7]; exact d2.set 0 (.int .i64 0)
   have HB6 := hide (bseq HB.out (bseq hb5 hb7))
   have HM6 := hide (hm5.next hb7); have HD1 := hide d3; have HD2 := hide d4
   obtain ⟨y0, y1, y2, y3, y4, y5⟩ := (HK1.out.below HB6.out (by have := Hs1.out; omega)).net6
   clear hb5 hm5 hb6 d1 d2 d3 d4 hb7 HM HB q1
   go_wp2_with (go_at_call 134; refine Stop.out ?_)
   clear hw6 hw7 c1 f1
   refine Stop.go (table_c N 137 #[.pointer (some ⟨w5.heap.size + 1, 0, none⟩), .pointer (some ⟨w5.heap.size, 0, none⟩)] (boundM N cost) w7 _ (by omega) (enters_of Tryz.func137 (by kernel_rfl) rfl) ?_ ?_)
   ·intro i j W hi hj hb R' hR'
    exact bnd2_c p5 N.offs.length N.offs.length (w5.heap.size + 1) w5.heap.size i j (starM (leastM N cost N.lins.length) N.offs.length) W R' (by omega) hi hj (star_fit HL.out hno (Nat.le_refl _)) (HD2.out.next hb) (HD1.out.next hb) (HM6.out.next hb) hR'
   intro w8 g8 hb8 hm8
   have HF := hide (HR.out _ _ (bseq HB1.out (bseq HB6.out hb8)) (hm8.mono (by have := HB1.out.size; have := HB6.out.size; omega)))
   clear hb8 hm8 y0 y1 y2 y3 y4 y5
   go_wp2
   exact HF.out
end
end Go.Proofs.YtgfhcmidnbahjaaGreatDoor
