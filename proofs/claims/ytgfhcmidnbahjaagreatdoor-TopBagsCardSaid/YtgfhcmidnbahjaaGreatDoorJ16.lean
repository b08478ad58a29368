/- Maxplus: build. Maxplus: Star. Maxplus: Star as a whole. -/
import Derived.Test.YtgfhcmidnbahjaaGreatDoorJ15
import Derived.Deep.RegionHeld3
import Derived.BigQuiet
set_option linter.unusedVariables false
set_option linter.unusedSimpArgs false
namespace Go.Proofs.YtgfhcmidnbahjaaGreatDoor
section
open Go.RowKit Go.Shelf
theorem infoI2 : (Tryz.prog.info? 3).map (fun i => (i.zero, i.size, i.bytes)) = some (some (.int .i64 0), 1, 8) := by kernel_rfl
theorem infoR2 : (Tryz.prog.info? 40).map (fun i => (i.zero, i.size, i.bytes)) = some (some (.slice none 0 0), 1, 24) := by kernel_rfl
theorem und_mat2 : Tryz.prog.underlying 36 = some (.slice 40) := by kernel_rfl
theorem mkInts (w : World) (n : Nat) (hn : n ≤ 100000) : ∃ cs : Array Value, cs.size = n ∧ Sem.run Tryz.prog (Instr.makeSlice 40 (.int .i64 (n : Int)) (.int .i64 (n : Int))) w = .ok (.slice (some ⟨w.heap.size, 0, none⟩) n n) (w.alloc (.cells cs 3)) := by
 obtain ⟨i, hi, h⟩ := Option.map_eq_some_iff.1 infoI2
 simp only [Prod.mk.injEq] at h
 obtain ⟨hz, hs, hb⟩ := h
 exact ⟨_, by rw [size_madeCells, hs]; simp, run_make w 40 3 i _ und_mat hi hz .i64 .i64 n n (by omega) (by omega) (by rw [hb]; omega) (by omega)⟩
theorem mkRows (w : World) (n : Nat) (hn : n ≤ 100000) : ∃ cs : Array Value, cs.size = n ∧ Sem.run Tryz.prog (Instr.makeSlice 36 (.int .i64 (n : Int)) (.int .i64 (n : Int))) w = .ok (.slice (some ⟨w.heap.size, 0, none⟩) n n) (w.alloc (.cells cs 40)) := by
 obtain ⟨i, hi, h⟩ := Option.map_eq_some_iff.1 infoR2
 simp only [Prod.mk.injEq] at h
 obtain ⟨hz, hs, hb⟩ := h
 exact ⟨_, by rw [size_madeCells, hs]; simp, run_make w 36 40 i _ und_mat2 hi hz .i64 .i64 n n (by omega) (by omega) (by rw [hb]; omega) (by omega)⟩
def RowsI (M : Nat → Nat → Int) (n : Nat) (W : World) (os : Array Value) (i A B : Nat) : Prop :=
 ∃ r : Nat → Nat, (∀ i', i' < i → os[i']? = some (.slice (some ⟨r i', 0, none⟩) n n) ∧ A ≤ r i' ∧ r i' < B ∧ ∃ cs, Blk W (r i') cs 3 ∧ ∀ j, j < n → cs[j]? = some (.int .i64 (M i' j))) ∧ ∀ i' j', i' < j' → j' < i → r i' < r j'
theorem RowsI.next {M : Nat → Nat → Int} {n : Nat} {W W' : World} {os : Array Value} {i A B : Nat} (h : RowsI M n W os i A B) (hb : Below W.heap.size W W') : RowsI M n W' os i A B := by
 obtain ⟨r, h, hd⟩ := h
 refine ⟨r, fun i' hi => ?_, hd⟩
 obtain ⟨h1, h0, h2, cs, h3, h4⟩ := h i' hi
 exact ⟨h1, h0, h2, cs, h3.next hb, h4⟩
theorem RowsI.far {M : Nat → Nat → Int} {n : Nat} {W : World} {os : Array Value} {i A B : Nat} (h : RowsI M n W os i A B) {p : Addr} (hp : B ≤ p.block) (u : Value) : RowsI M n (W.setCell p u) os i A B := by
 obtain ⟨r, h, hd⟩ := h
 refine ⟨r, fun i' hi => ?_, hd⟩
 obtain ⟨h1, h0, h2, cs, h3, h4⟩ := h i' hi
 exact ⟨h1, h0, h2, cs, h3.far (by omega) u, h4⟩
structure BdR (w : World) (M : Nat → Nat → Int) (n m i : Nat) (W : World) : Prop where
 below : Below w.heap.size w W
 rows : ∃ os, Blk W w.heap.size os 40 ∧ os.size = n ∧ RowsI M m W os i w.heap.size W.heap.size
def MrO (A : Nat) (W : World) (g n m : Nat) (M : Nat → Nat → Int) : Prop := A ≤ g ∧ ∃ os B, Blk W g os 40 ∧ os.size = n ∧ RowsI M m W os n A B
abbrev MtO (A : Nat) (W : World) (g n : Nat) (M : Nat → Nat → Int) : Prop := MrO A W g n n M
theorem MtO.mat {A : Nat} {W : World} {g n : Nat} {M : Nat → Nat → Int} (h : MtO A W g n M) : MatAt W (some ⟨g, 0, none⟩) n M := fun i hi => by
 obtain ⟨_, os, B, h1, _, r, h2, _⟩ := h
 obtain ⟨h4, _, _, cs, h6, h7⟩ := h2 i hi
 exact ⟨_, 0, r i, 0, n, rfl, by rw [Nat.zero_add]; exact h1.cell h4, fun j hj => by rw [Nat.zero_add]; exact h6.cell (h7 j hj)⟩
theorem MrO.next {A : Nat} {W W' : World} {g n m : Nat} {M : Nat → Nat → Int} (h : MrO A W g n m M) (hb : Below W.heap.size W W') : MrO A W' g n m M := by
 obtain ⟨h0, os, B, h1, h2, h3⟩ := h
 exact ⟨h0, os, B, h1.next hb, h2, h3.next hb⟩
theorem MrO.row {A : Nat} {W : World} {g n m : Nat} {M : Nat → Nat → Int} (h : MrO A W g n m M) {a b : Nat} (ha : a < n) (hb : b < m) :
  ∃ rb, A ≤ rb ∧ W.cell? ⟨g, a, none⟩ = some (.slice (some ⟨rb, 0, none⟩) m m) ∧ W.cell? ⟨rb, b, none⟩ = some (.int .i64 (M a b)) ∧ W.frozen? ⟨rb, b, none⟩ = false ∧ ∀ x, MrO A (W.setCell ⟨rb, b, none⟩ (.int .i64 x)) g n m (fun i j => if i = a ∧ j = b then x else M i j) := by
 obtain ⟨h0, os, B, h1, hs, r, h2, hd⟩ := h
 obtain ⟨k1, k0, k2, cs, k3, k4⟩ := h2 a ha
 refine ⟨r a, k0, h1.cell k1, k3.cell (k4 b hb), k3.free b, fun x => ⟨h0, os, B, ?_, hs, r, fun i hi => ?_, hd⟩⟩
 ·exact h1.far (p := ⟨r a, b, none⟩) (Ne.symm (k3.ne_ h1 (by decide))) _
 ·by_cases e : i = a
  ·subst e
   refine ⟨k1, k0, k2, cs.setIfInBounds b (.int .i64 x), k3.set b _, fun j hj => ?_⟩
   rw [Array.getElem?_setIfInBounds]
   have hlt : b < cs.size := (Array.getElem?_eq_some_iff.1 (k4 b hb)).1
   by_cases e2 : b = j
   ·subst e2; rw [if_pos rfl, if_pos hlt]; simp
   ·rw [if_neg e2]; simp only [e2, true_and, eq_comm (a := j), if_false]; exact k4 j hj
  ·obtain ⟨l1, l0, l2, cs', l3, l4⟩ := h2 i hi
   have hne : r i ≠ r a := by
    rcases Nat.lt_or_gt_of_ne e with h | h
    ·have := hd i a h ha; omega
    ·have := hd a i h hi; omega
   refine ⟨l1, l0, l2, cs', l3.far (p := ⟨r a, b, none⟩) hne _, fun j hj => ?_⟩
   simp only [e, false_and, if_false]; exact l4 j hj
theorem MrO.mono {A A' : Nat} {W : World} {g n m : Nat} {M : Nat → Nat → Int} (h : MrO A W g n m M) (hA : A' ≤ A) : MrO A' W g n m M := by
 obtain ⟨h0, os, B, h1, h2, r, h3, h4⟩ := h
 exact ⟨by omega, os, B, h1, h2, r, fun i hi => by obtain ⟨k1, k2, k3⟩ := h3 i hi; exact ⟨k1, by omega, k3⟩, h4⟩
abbrev BdI (w : World) (M : Nat → Nat → Int) (n i : Nat) (W : World) : Prop := BdR w M n n i W
theorem BdR.own {w : World} {M : Nat → Nat → Int} {n m : Nat} {W : World} (h : BdR w M n m n W) : MrO w.heap.size W w.heap.size n m M := by
 obtain ⟨os, h1, h2, h3⟩ := h.rows
 exact ⟨Nat.le_refl _, os, _, h1, h2, h3⟩
theorem BdR.done {w : World} {M : Nat → Nat → Int} {n : Nat} {W : World} (h : BdR w M n n n W) : MatAt W (some ⟨w.heap.size, 0, none⟩) n M := MtO.mat h.own
structure BrR (w : World) (M : Nat → Nat → Int) (n m i g j : Nat) (W : World) : Prop where
 below : Below w.heap.size w W
 lt : w.heap.size < g
 rows : ∃ os cs, Blk W w.heap.size os 40 ∧ os.size = n ∧ RowsI M m W os i w.heap.size g ∧ os[i]? = some (.slice (some ⟨g, 0, none⟩) m m) ∧ Blk W g cs 3 ∧ cs.size = m ∧ ∀ j', j' < j → cs[j']? = some (.int .i64 (M i j'))
section
variable {w : World} {M : Nat → Nat → Int} {n m i g j : Nat} {W W' : World}
theorem BrR.next (h : BrR w M n m i g j W) (hb : Below W.heap.size W W') : BrR w M n m i g j W' := by
 obtain ⟨os, cs, h1, h2, h3, h4, h5, h6, h7⟩ := h.rows
 exact ⟨bseq h.below hb, h.lt, os, cs, h1.next hb, h2, h3.next hb, h4, h5.next hb, h6, h7⟩
theorem BrR.cell (h : BrR w M n m i g j W) : W.cell? ⟨w.heap.size, i, none⟩ = some (.slice (some ⟨g, 0, none⟩) m m) := by
 obtain ⟨os, cs, h1, h2, h3, h4, h5, h6, h7⟩ := h.rows
 exact h1.cell h4
theorem BrR.here (h : BrR w M n m i g j W) (hj : j < m) : (∃ v, W.cell? ⟨g, j, none⟩ = some v) ∧ W.frozen? ⟨g, j, none⟩ = false := by
 obtain ⟨os, cs, h1, h2, h3, h4, h5, h6, h7⟩ := h.rows
 exact ⟨⟨_, h5.cell (Array.getElem?_eq_getElem (by omega))⟩, h5.free j⟩
theorem BrR.put (h : BrR w M n m i g j W) (hj : j < m) : BrR w M n m i g (j + 1) (W.setCell ⟨g, j, none⟩ (.int .i64 (M i j))) := by
 obtain ⟨os, cs, h1, h2, h3, h4, h5, h6, h7⟩ := h.rows
 have hlt := h.lt
 refine ⟨h.below.setCell (p := ⟨g, j, none⟩) (Nat.le_of_lt h.lt) _, h.lt, os, cs.setIfInBounds j (.int .i64 (M i j)), h1.far (p := ⟨g, j, none⟩) (show w.heap.size ≠ g by omega) _, h2, h3.far (p := ⟨g, j, none⟩) (Nat.le_refl _) _, h4, h5.set j _, by simpa using h6, fun j' hj' => ?_⟩
 rw [Array.getElem?_setIfInBounds]
 by_cases e : j = j'
 ·subst e; rw [if_pos rfl, if_pos (by omega)]
 ·rw [if_neg e]; exact h7 j' (by omega)
theorem BrR.done (h : BrR w M n m i g m W) : BdR w M n m (i + 1) W := by
 obtain ⟨os, cs, h1, h2, ⟨r, h3, hd⟩, h4, h5, h6, h7⟩ := h.rows
 have hl := h.lt
 refine ⟨h.below, os, h1, h2, fun x => if x = i then g else r x, fun i' hi => ?_, fun i' j' h8 h9 => ?_⟩
 ·by_cases e : i' = i
  ·subst e; simp only [if_pos]; exact ⟨h4, by omega, h5.lt, cs, h5, h7⟩
  ·obtain ⟨k1, k0, k2, cs', k3, k4⟩ := h3 i' (by omega)
   simp only [if_neg e]
   exact ⟨k1, k0, k3.lt, cs', k3, k4⟩
 ·have e1 : i' ≠ i := by omega
  simp only [if_neg e1]
  by_cases e : j' = i
  ·rw [if_pos e]; exact (h3 i' (by omega)).2.2.1
  ·rw [if_neg e]; exact hd i' j' h8 (by omega)
end
theorem BdR.row {w : World} {M : Nat → Nat → Int} {n m i : Nat} {W : World} (h : BdR w M n m i W) (hi : i < n) {cs : Array Value} (hcs : cs.size = m) :
  BrR w M n m i W.heap.size 0 ((W.alloc (.cells cs 3)).setCell ⟨w.heap.size, i, none⟩ (.slice (some ⟨W.heap.size, 0, none⟩) m m)) := by
 obtain ⟨os, h1, h2, r, h3, hd⟩ := h.rows
 have hlt := h1.lt
 refine ⟨(balloc h.below _).setCell (p := ⟨w.heap.size, i, none⟩) (Nat.le_refl _) _, hlt, os.setIfInBounds i (.slice (some ⟨W.heap.size, 0, none⟩) m m), cs, (h1.alloc _).set i _, by simpa using h2, ⟨r, fun i' hi' => ?_, hd⟩, ?_, (Blk.new _ _ _).far (p := ⟨w.heap.size, i, none⟩) (show W.heap.size ≠ w.heap.size by omega) _, hcs, fun j' hj' => by omega⟩
 ·obtain ⟨k1, k0, k2, cs', k3, k4⟩ := h3 i' hi'
  refine ⟨?_, k0, k2, cs', (k3.alloc _).far (p := ⟨w.heap.size, i, none⟩) (k3.ne_ h1 (by decide)) _, k4⟩
  rw [Array.getElem?_setIfInBounds, if_neg (by omega)]; exact k1
 ·rw [Array.getElem?_setIfInBounds, if_pos rfl, if_pos (by omega)]
theorem BdR.cell {w : World} {M : Nat → Nat → Int} {n m i : Nat} {W : World} (h : BdR w M n m i W) (hi : i < n) : (∃ v, W.cell? ⟨w.heap.size, i, none⟩ = some v) ∧ W.frozen? ⟨w.heap.size, i, none⟩ = false := by
 obtain ⟨os, h1, h2, h3⟩ := h.rows
 exact ⟨⟨_, h1.cell (Array.getElem?_eq_getElem (by omega))⟩, h1.free i⟩
abbrev BrI (w : World) (M : Nat → Nat → Int) (n i g j : Nat) (W : World) : Prop := BrR w M n n i g j W
theorem BdI.zero (w : World) (M : Nat → Nat → Int) (n : Nat) {m : Nat} {os : Array Value} (hos : os.size = n) : BdR w M n m 0 (w.alloc (.cells os 40)) :=
 ⟨balloc (Below.refl _ _) _, os, Blk.new _ _ _, hos, fun _ => 0, fun i h => by omega, fun i j h h2 => by omega⟩
set_option maxRecDepth 100000 in
set_option maxHeartbeats 4000000 in
theorem build_c (n : Nat) (f : FuncId) (lb : Array Value) (M : Nat → Nat → Int) (w : World) (R) (hn : n ≤ 40) (eg : ∀ args w, (callFunc f args).run Tryz.prog w = .ok (.enter f args) w)
  (ht : ∀ i j W, i < n → j < n → Below w.heap.size w W → ∀ R, (∀ W', Below W.heap.size W W' → R (.returned (.int .i64 (M i j))) W') → Calls Tryz.prog f (#[.int .i64 (i : Int), .int .i64 (j : Int)] ++ lb) W R)
  (hR : ∀ w' p, Below w.heap.size w w' → MatAt w' p n M → R (.returned (.slice p n n)) w') :
  Calls Tryz.prog 191 #[.int .i64 (n : Int), .func (.func f) #[] lb] w R := by
 have HR := hide hR; have HT := hide ht
 clear hR ht
 obtain ⟨os, hos, hmk⟩ := mkRows w n (by omega)
 have H0 := hide (show BdI w M n 0 (w.alloc (.cells os 40)) from BdI.zero w M n hos)
 clear hos
 go_enter Tryz.func191, Tryz.ntmps191
 go_wp2
 clear hmk
 go_loopw [11] (fun si wr => ∃ k : Nat, k ≤ n ∧ si = .int .i64 k ∧ Hid (BdI w M n k wr)) (fun si _ => n - (intOf si).toNat)
 case atStart => exact ⟨0, Nat.zero_le _, rfl, H0⟩
 case round =>
  clear H0
  obtain ⟨k, hk, rfl, HD⟩ := hrel
  by_cases hlt : k < n
  ·obtain ⟨cs, hcs, hmk⟩ := mkInts wr n (by omega)
   obtain ⟨⟨v0, c0⟩, f0⟩ := HD.out.cell hlt
   have c0' : (wr.alloc (.cells cs 3)).cell? ⟨w.heap.size, k, none⟩ = some v0 := cell_later (balloc (Below.refl _ _) _) c0
   have f0' : (wr.alloc (.cells cs 3)).frozen? ⟨w.heap.size, k, none⟩ = false := by
    obtain ⟨os, h1, h2, h3⟩ := HD.out.rows
    exact (h1.alloc _).free k
   have HR2 := hide (HD.out.row hlt hcs)
   have q1 : (0 : Int) ≤ (k : Int) := by omega
   have q2 : (k : Int) < (n : Int) := by omega
   clear hcs HD c0 f0
   go_wp2
   clear hmk c0' f0'
   generalize wr.heap.size = g at *
   go_loopw [20] (fun si wq => ∃ j : Nat, j ≤ n ∧ si = .int .i64 j ∧ Hid (BrI w M n k g j wq)) (fun si _ => n - (intOf si).toNat)
   case atStart => exact ⟨0, Nat.zero_le _, rfl, HR2⟩
   case round =>
    clear HR2
    obtain ⟨j, hj, rfl, HJ⟩ := hrel
    by_cases hlj : j < n
    ·have c0 := HJ.out.cell
     have q3 : (0 : Int) ≤ (j : Int) := by omega
     have q4 : (j : Int) < (n : Int) := by omega
     have KB : Hid (∀ W', Below wr.heap.size wr W' → W'.cell? ⟨w.heap.size, k, none⟩ = some (.slice (some ⟨g, 0, none⟩) n n)) := hide (fun W' hb => (HJ.out.next hb).cell)
     go_wp2
     go_region_held3 (fun w' => w'.cell? ⟨w.heap.size, k, none⟩ = some (.slice (some ⟨g, 0, none⟩) n n))
      (first | exact KB.out _ (Below.refl _ _).drew | exact KB.out _ hbb | exact (HJ2.out.put hlj).cell)
      (first
      | (refine HT.out k j _ hlt hlj (bseq HJ.out.below (Below.refl _ _).drew) _ (fun W' hb => ?_)
         have hbb : Below wr.heap.size wr W' := bseq (Below.refl _ _).drew hb
         have HJ2 := hide (HJ.out.next hbb)
         obtain ⟨⟨v1, c1⟩, f1⟩ := HJ2.out.here hlj))
     have HJ3 := hide (HJ2.out.put hlj)
     clear HJ2 hb hbb c0 f1 c1 q3 q4 HJ KB
     go_wp2
     go_roundw
     case rel => exact ⟨j + 1, by omega, by go_num, HJ3⟩
     case measure => simp [intOf]; omega
    ·have q3 : ¬ (j : Int) < (n : Int) := by omega
     obtain rfl : j = n := by omega
     have HD2 := hide HJ.out.done
     clear HJ
     go_wp2
     go_roundw
     case rel => exact ⟨k + 1, by omega, by go_num, HD2⟩
     case measure => simp [intOf]; omega
  ·have q1 : ¬ (k : Int) < (n : Int) := by omega
   obtain rfl : k = n := by omega
   have HF := hide (HR.out _ _ HD.out.below HD.out.done)
   clear HD
   go_wp2
   exact HF.out
end
section
open Go.RowKit Go.Shelf
def LowB (n : Nat) (b : Int) (M : Nat → Nat → Int) : Prop := ∀ i j, i < n → j < n → M i j = noneI ∨ (-b ≤ M i j ∧ M i j ≤ 0)
theorem infB_none : infB noneI = true := by decide
theorem infB_low {x b : Int} (hb : b ≤ 1000000000) (h : -b ≤ x) : infB x = false := by unfold infB; rw [decide_eq_false (by omega)]
theorem plusI_none {x : Int} {b : Int} (hb : b ≤ 1000000000) (h : x = noneI ∨ (-b ≤ x ∧ x ≤ 0)) : plusI noneI x = x := by
 rcases h with rfl | h
 ·rfl
 ·unfold plusI
  rw [infB_low hb h.1]
  simp only [Bool.and_false, Bool.false_eq_true, if_false]
  unfold noneI; omega
theorem plus_low {x y b : Int} (hb : b ≤ 1000000000) (hx : x = noneI ∨ (-b ≤ x ∧ x ≤ 0)) (hy : y = noneI ∨ (-b ≤ y ∧ y ≤ 0)) : plusI x y = noneI ∨ (-b ≤ plusI x y ∧ plusI x y ≤ 0) := by
 rcases hx with rfl | hx
 ·rw [plusI_none hb hy]; exact hy
 ·right
  unfold plusI
  rw [infB_low hb hx.1]
  simp only [Bool.false_and, Bool.false_eq_true, if_false]
  rcases hy with rfl | hy
  ·unfold noneI; omega
  ·omega
theorem times_low {x y b : Int} (hb : b ≤ 1000000000) (hx : x = noneI ∨ (-b ≤ x ∧ x ≤ 0)) (hy : y = noneI ∨ (-b ≤ y ∧ y ≤ 0)) : timesI x y = noneI ∨ (-(2 * b) ≤ timesI x y ∧ timesI x y ≤ 0) := by
 unfold timesI
 rcases hx with rfl | hx
 ·left; rw [infB_none]; rfl
 ·rcases hy with rfl | hy
  ·left; rw [infB_none, Bool.or_true]; rfl
  ·right
   rw [infB_low hb hx.1, infB_low hb hy.1]
   simp only [Bool.or_false, Bool.false_eq_true, if_false]
   omega
theorem star_low {n : Nat} {M : Nat → Nat → Int} (h : LowB n 100000 M) : ∀ k, k ≤ n → k ≤ 12 → LowB n (100000 * 2 ^ k) (starM M k) := by
 have hp : ∀ k : Nat, k ≤ 12 → (2 : Int) ^ k ≤ 4096 := by decide
 intro k
 induction k with
 | zero =>
  intro _ _ i j hi hj
  simp only [starM, Int.pow_zero, Int.mul_one]
  split
  ·exact plus_low (by decide) (.inr ⟨by decide, by decide⟩) (h i j hi hj)
  ·exact plus_low (by decide) (.inl rfl) (h i j hi hj)
 | succ k ih =>
  intro hk hk2 i j hi hj
  have H := ih (by omega) (by omega)
  have hb := hp k (by omega)
  have hb2 := hp (k + 1) hk2
  have hpos : (0 : Int) < 2 ^ k := Int.pow_pos (by decide)
  simp only [starM]
  have e : (100000 : Int) * 2 ^ (k + 1) = 2 * (100000 * 2 ^ k) := by rw [Int.pow_succ]; omega
  rw [e]
  have hx : starM M k i j = noneI ∨ (-(2 * (100000 * 2 ^ k)) ≤ starM M k i j ∧ starM M k i j ≤ 0) := by
   rcases H i j hi hj with h | h
   ·exact .inl h
   ·exact .inr ⟨by omega, h.2⟩
  exact plus_low (by omega) hx (times_low (by omega) (H i k hi (by omega)) (H k j (by omega) hj))
theorem star_fit {n k : Nat} {M : Nat → Nat → Int} (h : LowB n 100000 M) (hn : n ≤ 12) (hk : k ≤ n) : LowB n 1000000000 (starM M k) := fun i j hi hj => by
 have hp : ∀ k : Nat, k ≤ 12 → (2 : Int) ^ k ≤ 4096 := by decide
 have := hp k (by omega)
 rcases star_low h k hk (by omega) i j hi hj with h | h
 ·exact .inl h
 ·exact .inr ⟨by omega, h.2⟩
theorem low_elem {n : Nat} {M : Nat → Nat → Int} (h : LowB n 100000 M) : ∀ i j, i < n → j < n → elemB (M i j) = true := fun i j hi hj => by
 unfold elemB
 rcases h i j hi hj with h | h
 ·rw [h, infB_none]; rfl
 ·rw [decide_eq_true (show -1000000000 ≤ M i j by omega), decide_eq_true (show M i j ≤ 1000000000 by omega)]; simp
theorem low_le {n : Nat} {b : Int} {M : Nat → Nat → Int} (h : LowB n b M) {i : Nat} (hi : i < n) : M i i ≤ 0 := by
 rcases h i i hi hi with h | h
 ·rw [h]; decide
 ·exact h.2
set_option maxRecDepth 100000 in
set_option maxHeartbeats 4000000 in
theorem star1_c (p : Option Addr) (n c g i j : Nat) (M : Nat → Nat → Int) (w : World) (R) (hn : n ≤ 40) (hi : i < n) (hj : j < n) (hg : Blk w g #[.slice p n c] 36) (h : MatAt w p n M) (hR : ∀ w', Below w.heap.size w w' → R (.returned (.int .i64 (starM M 0 i j))) w') :
  Calls Tryz.prog 192 #[.int .i64 (i : Int), .int .i64 (j : Int), .pointer (some ⟨g, 0, none⟩)] w R := by
 obtain ⟨b, o, b', o', c', hp, hr, hc⟩ := h i hi
 have c0 := hc j hj
 have x0 := hg.cell (k := 0) (v := .slice p n c) rfl
 rw [hp] at x0
 have q1 : (0 : Int) ≤ (i : Int) := by omega
 have q2 : (i : Int) < (n : Int) := by omega
 have q3 : (0 : Int) ≤ (j : Int) := by omega
 have q4 : (j : Int) < (n : Int) := by omega
 by_cases hij : i = j
 ·have HR := hide (hR w (Below.refl _ _))
  simp only [starM, if_pos hij] at HR
  have t1 : ((i : Int) == (j : Int)) = true := by simp; omega
  clear hR hc hp hg h hij
  generalize M i j = m at *
  go_enter Tryz.func192, Tryz.ntmps192
  go_wp2_with (go_at_call 193; refine Stop.out ?_)
  refine Stop.go (plus_c _ _ _ _ ?_)
  clear x0 hr c0
  generalize plusI 0 m = y at *
  go_wp2
  exact HR.out
 ·have HR := hide (hR w (Below.refl _ _))
  simp only [starM, if_neg hij] at HR
  have t1 : ((i : Int) == (j : Int)) = false := by simp; omega
  clear hR hc hp hg h hij
  generalize M i j = m at *
  go_enter Tryz.func192, Tryz.ntmps192
  go_wp2_with (go_at_call 193; refine Stop.out ?_)
  refine Stop.go (plus_c _ _ _ _ ?_)
  clear x0 hr c0
  unfold noneI at HR
  generalize plusI (-1099511627776) m = y at *
  go_wp2
  exact HR.out
set_option maxRecDepth 100000 in
set_option maxHeartbeats 4000000 in
theorem star2_c (p : Option Addr) (n c g gk i j k : Nat) (M : Nat → Nat → Int) (w : World) (R) (hn : n ≤ 40) (hi : i < n) (hj : j < n) (hk : k < n) (hL : LowB n 1000000000 M) (hg : Blk w g #[.slice p n c] 36) (hgk : Blk w gk #[.int .i64 (k : Int)] 3) (h : MatAt w p n M)
  (hR : ∀ w', Below w.heap.size w w' → R (.returned (.int .i64 (plusI (M i j) (timesI (M i k) (M k j))))) w') :
  Calls Tryz.prog 195 #[.int .i64 (i : Int), .int .i64 (j : Int), .pointer (some ⟨g, 0, none⟩), .pointer (some ⟨gk, 0, none⟩)] w R := by
 have HR := hide hR
 obtain ⟨b, o, b1, o1, c1, hp, hr1, hc1⟩ := h i hi
 obtain ⟨b', o', b2, o2, c2, hp', hr2, hc2⟩ := h k hk
 obtain ⟨rfl, rfl⟩ : b = b' ∧ o = o' := by rw [hp] at hp'; injection hp' with e; injection e with e1 e2; exact ⟨e1, e2⟩
 have e1 := hc1 j hj; have e2 := hc1 k hk; have e3 := hc2 j hj
 have x0 := hg.cell (k := 0) (v := .slice p n c) rfl
 have x1 := hgk.cell (k := 0) (v := .int .i64 (k : Int)) rfl
 rw [hp] at x0
 have hr : -4000000000000000000 ≤ M i k ∧ M i k ≤ 4000000000000000000 ∧ -4000000000000000000 ≤ M k j ∧ M k j ≤ 4000000000000000000 := by
  have h1 := hL i k hi hk; have h2 := hL k j hk hj
  unfold noneI at h1 h2
  omega
 have Hr := hide hr
 have q1 : (0 : Int) ≤ (i : Int) := by omega
 have q2 : (i : Int) < (n : Int) := by omega
 have q3 : (0 : Int) ≤ (j : Int) := by omega
 have q4 : (j : Int) < (n : Int) := by omega
 have q5 : (0 : Int) ≤ (k : Int) := by omega
 have q6 : (k : Int) < (n : Int) := by omega
 clear hR hc1 hc2 hp hp' hg hgk h hL hr
 generalize M i j = m1 at *
 generalize M i k = m2 at *
 generalize M k j = m3 at *
 go_enter Tryz.func195, Tryz.ntmps195
 go_wp2
 go_quiet ((first | (go_at_call 196; exact quiet_dr (times_c m2 m3 _ _ Hr.out ⟨rfl, Dr.refl _⟩)) | (go_at_call 193; exact quiet_dr (plus_c m1 (timesI m2 m3) _ _ ⟨rfl, Dr.refl _⟩))))
 clear x0 x1 hr1 hr2 e1 e2 e3
 go_wp2
 exact HR.out _ (below_drewN' (Below.refl _ _) _)
end
section
open Go.RowKit Go.Shelf
set_option maxRecDepth 100000 in
set_option maxHeartbeats 4000000 in
theorem star_c (p : Option Addr) (n c : Nat) (M : Nat → Nat → Int) (w : World) (R) (hn : n ≤ 12) (h : MatAt w p n M) (hL : LowB n 100000 M) (hR : ∀ w' p', Below w.heap.size w w' → MatAt w' p' n (starM M n) → R (.returned (.tuple #[.slice p' n n, .int .i64 0])) w') :
  Calls Tryz.prog 136 #[.slice p n c] w R := by
 obtain ⟨w1, hw1⟩ : ∃ w1, w.alloc (.cells #[.slice p n c] 36) = w1 := ⟨_, rfl⟩
 have hb1 : Below w.heap.size w w1 := hw1 ▸ balloc (Below.refl _ _) _
 have d0 : Blk w1 w.heap.size #[.slice p n c] 36 := by rw [← hw1]; exact Blk.new _ _ _
 have x0 := d0.cell (k := 0) (v := .slice p n c) rfl
 have HB1 := hide hb1; have HD := hide d0; have HM := hide (h.next hb1); have HR := hide hR; have HL := hide hL
 clear hR h hL hb1 d0
 go_enter Tryz.func136, Tryz.ntmps136
 go_wp2_with (go_at_call 190; refine Stop.out ?_)
 refine Stop.go (mxValid_c p n c M w1 _ (by omega) HM.out (low_elem HL.out) ?_)
 intro w2 hb
 have HB2 := hide (bseq HB1.out hb); have HD2 := hide (HD.out.next hb); have HM2 := hide (HM.out.next hb)
 clear hb x0 hw1 HB1 HD HM
 have x0 := HD2.out.cell (k := 0) (v := .slice p n c) rfl
 go_wp2_with (go_at_call 191; refine Stop.out ?_)
 refine Stop.go (build_c n 192 #[.pointer (some ⟨w.heap.size, 0, none⟩)] (starM M 0) w2 _ (by omega) (enters_of Tryz.func192 (by kernel_rfl) rfl) ?_ ?_)
 ·intro i j W hi hj hb R' hR'
  exact star1_c p n c w.heap.size i j M W R' (by omega) hi hj (HD2.out.next hb) (HM2.out.next hb) hR'
 intro w3 p3 hb hm3
 have HB3 := hide (bseq HB2.out hb); have HM3 := hide hm3
 clear hb hm3 x0 HD2 HM2 HB2
 go_wp2_with (go_at_call 194; refine Stop.out ?_)
 refine Stop.go (cyclic_c p3 n n (starM M 0) w3 _ (by omega) HM3.out (fun i hi => low_le (star_fit HL.out hn (Nat.zero_le _)) hi) ?_)
 intro w4 hb
 have HB4 := hide (bseq HB3.out hb); have HM4 := hide (HM3.out.next hb)
 clear hb HB3 HM3
 go_wp2
 go_loopw [5, 19] (fun sv si wr => ∃ (k : Nat) (q : Option Addr), k ≤ n ∧ sv = .slice q n n ∧ si = .int .i64 k ∧ Hid (Below w.heap.size w wr) ∧ Hid (MatAt wr q n (starM M k))) (fun _ si _ => n - (intOf si).toNat)
 case atStart => exact ⟨0, p3, Nat.zero_le _, rfl, rfl, HB4, HM4⟩
 case round =>
  clear HB4 HM4
  obtain ⟨k, q, hk, rfl, rfl, HB, HM⟩ := hrel
  by_cases hlt : k < n
  ·obtain ⟨w5, hw5⟩ : ∃ w5, (wr.alloc (.cells #[.int .i64 (k : Int)] 3)).alloc (.cells #[.slice q n n] 36) = w5 := ⟨_, rfl⟩
   have hb5 : Below wr.heap.size wr w5 := hw5 ▸ balloc (balloc (Below.refl _ _) _) _
   have d1 : Blk w5 wr.heap.size #[.int .i64 (k : Int)] 3 := by rw [← hw5]; exact Blk.alloc (Blk.new _ _ _) _
   have d2 : Blk w5 (wr.heap.size + 1) #[.slice q n n] 36 := by rw [← hw5]; exact Blk.new_at (by simp)
   have HB5 := hide (bseq HB.out hb5); have HM5 := hide (HM.out.next hb5)
   have HD1 := hide d1; have HD2 := hide d2
   have q1 : (k : Int) < (n : Int) := by omega
   clear hb5 d1 d2 HB HM
   go_wp2_with (go_at_call 191; refine Stop.out ?_)
   try rw [hw5]
   refine Stop.go (build_c n 195 #[.pointer (some ⟨wr.heap.size + 1, 0, none⟩), .pointer (some ⟨wr.heap.size, 0, none⟩)] (starM M (k + 1)) w5 _ (by omega) (enters_of Tryz.func195 (by kernel_rfl) rfl) ?_ ?_)
   ·intro i j W hi hj hb R' hR'
    exact star2_c q n n (wr.heap.size + 1) wr.heap.size i j k (starM M k) W R' (by omega) hi hj hlt (star_fit HL.out hn (Nat.le_of_lt hlt)) (HD2.out.next hb) (HD1.out.next hb) (HM5.out.next hb) hR'
   intro w6 p6 hb hm6
   have HB6 := hide (bseq HB5.out hb); have HM6 := hide hm6
   clear hb hm6 HB5 HM5 HD1 HD2 hw5
   go_wp2_with (go_at_call 194; refine Stop.out ?_)
   refine Stop.go (cyclic_c p6 n n (starM M (k + 1)) w6 _ (by omega) HM6.out (fun i hi => low_le (star_fit HL.out hn hlt) hi) ?_)
   intro w7 hb
   have HB7 := hide (bseq HB6.out hb); have HM7 := hide (HM6.out.next hb)
   clear hb HB6 HM6
   go_wp2
   go_roundw
   case rel => exact ⟨k + 1, p6, by omega, rfl, by go_num, HB7, HM7⟩
   case measure => simp [intOf]; omega
  ·have q1 : ¬ (k : Int) < (n : Int) := by omega
   obtain rfl : k = n := by omega
   have HF := hide (HR.out _ _ HB.out HM.out)
   clear HB HM
   go_wp2
   exact HF.out
end
end Go.Proofs.YtgfhcmidnbahjaaGreatDoor
