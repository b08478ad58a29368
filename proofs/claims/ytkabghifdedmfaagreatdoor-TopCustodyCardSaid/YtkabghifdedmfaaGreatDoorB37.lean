/- The distances of the fixed network. -/
import Derived.Test.YtkabghifdedmfaaGreatDoorB31
import Derived.Laws.CopyOwn
set_option linter.unusedVariables false
set_option linter.unusedSimpArgs false
namespace Go.Proofs.YtkabghifdedmfaaGreatDoor
open Go.RowKit Go.Sort Go.Shelf

def mat (f : Nat → Nat → Int) : Array Value := ((List.range 144).map (fun k => Value.int .i64 (f (k / 12) (k % 12)))).toArray
theorem mat_get (f : Nat → Nat → Int) {a b : Nat} (ha : a < 12) (hb : b < 12) : (mat f)[a * 12 + b]? = some (.int .i64 (f a b)) := by
  unfold mat
  rw [List.getElem?_toArray, List.getElem?_map, List.getElem?_range (by omega)]
  simp only [Option.map_some]
  rw [show (a * 12 + b) / 12 = a by omega, show (a * 12 + b) % 12 = b by omega]
def updM (f : Nat → Nat → Int) (a b : Nat) (v : Int) : Nat → Nat → Int := fun x y => if x = a ∧ y = b then v else f x y
theorem mat_set (f : Nat → Nat → Int) {a b : Nat} (ha : a < 12) (hb : b < 12) (v : Int) : (mat f).setIfInBounds (a * 12 + b) (.int .i64 v) = mat (updM f a b v) := by
  apply Array.ext_getElem?
  intro k
  unfold mat
  rw [Array.getElem?_setIfInBounds]
  by_cases hk : k < 144
  · rw [List.getElem?_toArray, List.getElem?_toArray, List.getElem?_map, List.getElem?_map, List.getElem?_range hk]
    simp only [Option.map_some]
    by_cases he : a * 12 + b = k
    · subst he
      rw [if_pos rfl, if_pos (by simp; omega), updM, if_pos (by omega)]
    · rw [if_neg he, updM, if_neg (by omega)]
  · have h1 : ∀ f : Nat → Nat → Int, ((List.range 144).map (fun k => Value.int .i64 (f (k / 12) (k % 12)))).toArray[k]? = none := fun f => by
      rw [Array.getElem?_eq_none_iff]; simp; omega
    rw [h1, h1, if_neg (by omega)]
theorem mat_congr {f g : Nat → Nat → Int} (h : ∀ a b, a < 12 → b < 12 → f a b = g a b) : mat f = mat g := by
  unfold mat
  congr 1
  apply List.map_congr_left
  intro k hk
  rw [List.mem_range] at hk
  rw [h _ _ (by omega) (by omega)]
/-- At the start, while the first loop goes on. -/
def initM (n m : Nat) : Nat → Nat → Int := fun a b => if (a < n ∨ a = n ∧ b < m) ∧ a ≠ b then -1 else 0
def noneM : Nat → Nat → Int := fun a b => if a = b then 0 else -1
def relM : Nat → Nat → Int := fun a b => if a = b then 0 else if a = 0 ∧ b = 1 then 120 else if a = 1 ∧ b = 0 then 60 else -1
theorem initM_full : mat (initM 12 0) = mat noneM := mat_congr fun a b ha hb => by
  unfold initM noneM
  by_cases h : a = b
  · rw [if_neg (by omega), if_pos h]
  · rw [if_pos (by omega), if_neg h]
theorem relM_upd : mat (updM (updM noneM 0 1 120) 1 0 60) = mat relM := mat_congr fun a b _ _ => by
  unfold updM noneM relM
  by_cases h1 : a = 1 ∧ b = 0
  · rw [if_pos h1, if_neg (by omega), if_neg (by omega), if_pos h1]
  · by_cases h2 : a = 0 ∧ b = 1
    · rw [if_neg h1, if_pos h2, if_neg (by omega), if_pos h2]
    · rw [if_neg h1, if_neg h2, if_neg (c := a = 0 ∧ b = 1) h2, if_neg (c := a = 1 ∧ b = 0) h1]
theorem initM_row (n : Nat) : mat (initM n 12) = mat (initM (n + 1) 0) := mat_congr fun a b ha hb => by
  unfold initM
  by_cases h : (a < n ∨ a = n ∧ b < 12) ∧ a ≠ b
  · rw [if_pos h, if_pos (by omega)]
  · rw [if_neg h, if_neg (by omega)]
theorem initM_step (n m : Nat) : updM (initM n m) n m (if n = m then 0 else -1) = initM n (m + 1) := by
  funext a b
  unfold updM initM
  by_cases h : a = n ∧ b = m
  · rw [if_pos h]
    by_cases e : n = m
    · rw [if_pos e, if_neg (by omega)]
    · rw [if_neg e, if_pos (by omega)]
  · rw [if_neg h]
    by_cases e : (a < n ∨ a = n ∧ b < m) ∧ a ≠ b
    · rw [if_pos e, if_pos (by omega)]
    · rw [if_neg e, if_neg (by omega)]
theorem initM_same {n : Nat} : updM (initM n n) n n 0 = initM n n := by
  funext a b
  unfold updM
  by_cases h : a = n ∧ b = n
  · rw [if_pos h]; unfold initM; rw [if_neg (by omega)]
  · rw [if_neg h]
theorem relM_tri : ∀ o, o < 12 → ∀ a, a < 12 → ∀ b, b < 12 → relM a o ≠ -1 → relM o b ≠ -1 → relM a b ≠ -1 ∧ ¬ relM a o + relM o b < relM a b := by
  intro o ho a ha b hb h1 h2
  unfold relM at *
  by_cases e1 : a = o
  · subst e1
    rw [if_pos rfl]
    refine ⟨h2, ?_⟩
    omega
  · by_cases e2 : o = b
    · subst e2
      rw [if_pos (rfl : o = o)]
      exact ⟨h1, by omega⟩
    · rw [if_neg e1] at h1
      rw [if_neg e2] at h2
      by_cases e3 : a = 0 ∧ o = 1
      · have e4 : o = 1 ∧ b = 0 := by
          by_cases h : o = 0 ∧ b = 1
          · omega
          · by_cases h' : o = 1 ∧ b = 0
            · exact h'
            · rw [if_neg h, if_neg h'] at h2; exact absurd rfl h2
        rw [if_pos (show a = b by omega), if_neg e1, if_pos e3, if_neg e2, if_neg (by omega), if_pos e4]
        decide
      · by_cases e3' : a = 1 ∧ o = 0
        · have e4 : o = 0 ∧ b = 1 := by
            by_cases h : o = 0 ∧ b = 1
            · exact h
            · by_cases h' : o = 1 ∧ b = 0
              · omega
              · rw [if_neg h, if_neg h'] at h2; exact absurd rfl h2
          rw [if_pos (show a = b by omega), if_neg e1, if_neg e3, if_pos e3', if_neg e2, if_pos e4]
          decide
        · rw [if_neg e3, if_neg e3'] at h1; exact absurd rfl h1
theorem relM_ne {a b : Nat} (h : a < 2) (h' : b < 2) : relM a b ≠ -1 := by
  unfold relM
  by_cases e : a = b
  · rw [if_pos e]; decide
  · rw [if_neg e]
    by_cases e1 : a = 0 ∧ b = 1
    · rw [if_pos e1]; decide
    · rw [if_neg e1, if_pos (by omega)]; decide
theorem relM_range (a b : Nat) : -1 ≤ relM a b ∧ relM a b ≤ 120 := by
  unfold relM
  by_cases e : a = b
  · rw [if_pos e]; decide
  · rw [if_neg e]
    by_cases e1 : a = 0 ∧ b = 1
    · rw [if_pos e1]; decide
    · rw [if_neg e1]
      by_cases e2 : a = 1 ∧ b = 0
      · rw [if_pos e2]; decide
      · rw [if_neg e2]; decide
set_option maxRecDepth 100000 in
set_option maxHeartbeats 2000000 in
theorem relaxNo_c (g a b : Nat) (len x : Int) (f : Nat → Nat → Int) (w : World) (R) (ha : a < 12) (hb : b < 12) (hB : Blk w g (mat f) 180) (hx : f a b = x) (h1 : x ≠ -1) (h2 : ¬ len < x)
    (hR : R (.returned (.tuple #[])) w) : Calls Tryz.prog 126 #[.int .i64 (a : Int), .int .i64 (b : Int), .int .i64 len, .pointer (some ⟨g, 0, none⟩)] w R := by
  have HR := hide hR
  have c0 := hB.cell (mat_get f ha hb)
  rw [hx] at c0
  clear hR hB hx
  have q1 : (x == -1) = false := by simpa using h1
  clear h1
  go_enter Tryz.func126, Tryz.ntmps126
  go_wp2
  exact bodyPost_end (results_none Tryz.results126 _ _ _) rfl HR.out
theorem relaxNoQ (g a b : Nat) (len x : Int) (f : Nat → Nat → Int) (w : World) (ha : a < 12) (hb : b < 12) (hB : Blk w g (mat f) 180) (hx : f a b = x) (h1 : x ≠ -1) (h2 : ¬ len < x) :
    Calls Tryz.prog 126 #[.int .i64 (a : Int), .int .i64 (b : Int), .int .i64 len, .pointer (some ⟨g, 0, none⟩)] w fun e w' => e = .returned (.tuple #[]) ∧ Dr w w' :=
  relaxNo_c g a b len x f w _ ha hb hB hx h1 h2 ⟨rfl, 0, rfl⟩
set_option maxRecDepth 100000 in
set_option maxHeartbeats 2000000 in
theorem relaxSet_c (g a b : Nat) (len : Int) (f : Nat → Nat → Int) (w : World) (R) (ha : a < 12) (hb : b < 12) (hB : Blk w g (mat f) 180) (hx : f a b = -1)
    (hR : R (.returned (.tuple #[])) (w.setCell ⟨g, a * 12 + b, none⟩ (.int .i64 len))) : Calls Tryz.prog 126 #[.int .i64 (a : Int), .int .i64 (b : Int), .int .i64 len, .pointer (some ⟨g, 0, none⟩)] w R := by
  have HR := hide hR
  have c0 := hB.cell (mat_get f ha hb)
  have f0 := hB.free (a * 12 + b)
  rw [hx] at c0
  clear hR hB hx
  go_enter Tryz.func126, Tryz.ntmps126
  go_wp2
  exact bodyPost_end (results_none Tryz.results126 _ _ _) rfl HR.out
theorem und180 : Tryz.prog.underlying 180 = some (.array 12 179) := by kernel_rfl
theorem store_mat (cells old : Array Value) (g : Nat) (w : World) (hg : w.heap[g]? = some (.cells old 180 (0, 0))) (ho : old.size = 144) (hc : cells.size = 144) (h1 : cells.all (·.oneCell') = true) : Sem.run Tryz.prog (storeCells ⟨g, 0, none⟩ cells.toList) w = .ok () (w.setRow g cells) := by
  have := run_storeCells_from (P := Tryz.prog) g 180 cells.toList 0 old w hg (by simp; omega) (fun v hv => (Array.all_eq_true_iff_forall_mem.1 h1) v (by simpa using hv))
  simpa using this
theorem zero_mat : Tryz.zeroCells180 = mat (initM 0 0) := by kernel_rfl
/-- What stands while the distances are made. -/
structure RI (w : World) (a : Net) (g : Nat) (f : Nat → Nat → Int) (W : World) : Prop where
  below : Below w.heap.size w W
  net : Blk W g #[.slice (some ⟨a.cal, 0, none⟩) 1 1, .slice (some ⟨a.nam, 0, none⟩) 1 1, .slice (some ⟨a.opr, 0, none⟩) 2 2, .slice (some ⟨a.off, 0, none⟩) 2 2, .slice (some ⟨a.lin, 0, none⟩) 2 2, .slice (some ⟨a.cls, 0, none⟩) 1 1] 60
  res : Blk W (g + 1) (mat (initM 0 0)) 180
  row : Blk W (g + 1 + 1) (mat f) 180
theorem RI.set {w W : World} {a : Net} {g : Nat} {f : Nat → Nat → Int} (h : RI w a g f W) (hg : w.heap.size ≤ g) {x y : Nat} (hx : x < 12) (hy : y < 12) (v : Int) : RI w a g (updM f x y v) (W.setCell ⟨g + 1 + 1, x * 12 + y, none⟩ (.int .i64 v)) :=
  ⟨h.below.setCell (p := ⟨g + 1 + 1, x * 12 + y, none⟩) (show w.heap.size ≤ g + 1 + 1 by omega) _, h.net.set_other (show g + 1 + 1 ≠ g by omega) _, h.res.set_other (show g + 1 + 1 ≠ g + 1 by omega) _, mat_set f hx hy v ▸ h.row.set _ _⟩
theorem RI.next {w W W' : World} {a : Net} {g : Nat} {f : Nat → Nat → Int} (h : RI w a g f W) (hb : Below W.heap.size W W') : RI w a g f W' := ⟨bseq h.below hb, h.net.next hb, h.res.next hb, h.row.next hb⟩
set_option maxRecDepth 100000 in
set_option maxHeartbeats 4000000 in
theorem relaxed_c (a : Net) (w : World) (R) (hN : NetAt w a) (hR : ∀ w', Below w.heap.size w w' → R (.returned (.agg (mat relM))) w') : Calls Tryz.prog 95 #[.agg (netC a)] w R := by
  have HR := hide hR; have HN := hide hN
  clear hR hN
  unfold netC
  go_enter Tryz.func95, Tryz.ntmps95
  go_wp2
  obtain ⟨w1, hw1⟩ : ∃ w1, (w.alloc (.cells #[.slice (some ⟨a.cal, 0, none⟩) 1 1, .slice (some ⟨a.nam, 0, none⟩) 1 1, .slice (some ⟨a.opr, 0, none⟩) 2 2, .slice (some ⟨a.off, 0, none⟩) 2 2, .slice (some ⟨a.lin, 0, none⟩) 2 2, .slice (some ⟨a.cls, 0, none⟩) 1 1] 60)) = w1 := ⟨_, rfl⟩
  have hb1 : Below w.heap.size w w1 := hw1 ▸ balloc (Below.refl _ _) _
  have k1 : Blk w1 w.heap.size #[.slice (some ⟨a.cal, 0, none⟩) 1 1, .slice (some ⟨a.nam, 0, none⟩) 1 1, .slice (some ⟨a.opr, 0, none⟩) 2 2, .slice (some ⟨a.off, 0, none⟩) 2 2, .slice (some ⟨a.lin, 0, none⟩) 2 2, .slice (some ⟨a.cls, 0, none⟩) 1 1] 60 := hw1 ▸ Blk.new _ _ _
  have s1 : w1.heap.size = w.heap.size + 1 := by rw [← hw1, World.size_alloc]
  obtain ⟨w2, hw2⟩ : ∃ w2, (w1.alloc (.cells Tryz.zeroCells180 180)) = w2 := ⟨_, rfl⟩
  have k2 : Blk w2 (w.heap.size + 1) (mat (initM 0 0)) 180 := by rw [← hw2, ← zero_mat, ← s1]; exact Blk.new _ _ _
  have s2 : w2.heap.size = w.heap.size + 1 + 1 := by rw [← hw2, World.size_alloc, s1]
  have hb2 : Below w1.heap.size w1 w2 := hw2 ▸ balloc (Below.refl _ _) _
  obtain ⟨w3, hw3⟩ : ∃ w3, (w2.alloc (.cells Tryz.zeroCells180 180)) = w3 := ⟨_, rfl⟩
  have k3 : Blk w3 (w.heap.size + 1 + 1) (mat (initM 0 0)) 180 := by rw [← hw3, ← zero_mat, ← s2]; exact Blk.new _ _ _
  have hb3 : Below w2.heap.size w2 w3 := hw3 ▸ balloc (Below.refl _ _) _
  rw [hw1, hw2, hw3]
  have HI0 := hide (show RI w a w.heap.size (initM 0 0) w3 from ⟨bseq (bseq hb1 hb2) hb3, (k1.next hb2).next hb3, k2.next hb3, k3⟩)
  clear hw1 hw2 hw3 hb1 hb2 hb3 k1 k2 k3 s1 s2
  go_loopw [12] (fun si wr => ∃ i : Nat, i ≤ 12 ∧ si = .int .i64 i ∧ Hid (RI w a w.heap.size (initM i 0) wr)) (fun si _ => 12 - (intOf si).toNat)
  case atStart => exact ⟨0, by decide, rfl, HI0⟩
  case round =>
    obtain ⟨i, hi, rfl, HI⟩ := hrel
    by_cases hlt : i < 12
    · have hltI : (i : Int) < 12 := by omega
      go_wp2
      go_loopw [15] (fun sj wr => ∃ j : Nat, j ≤ 12 ∧ sj = .int .i64 j ∧ Hid (RI w a w.heap.size (initM i j) wr)) (fun sj _ => 12 - (intOf sj).toNat)
      case atStart => exact ⟨0, by decide, rfl, HI⟩
      case round =>
        obtain ⟨j, hj, rfl, HJ⟩ := hrel
        by_cases hlj : j < 12
        · have hljI : (j : Int) < 12 := by omega
          by_cases he : i = j
          · subst he
            go_wp2
            go_roundw
            case rel => exact ⟨i + 1, by omega, by go_num, hide (by
              have h := HJ.out
              rw [← initM_step, if_pos rfl, initM_same]; exact h)⟩
            case measure => simp [intOf]; omega
          · have q1 : ¬ (i : Int) = (j : Int) := by omega
            have c0 := HJ.out.row.cell (mat_get _ hlt hlj)
            have f0 := HJ.out.row.free (i * 12 + j)
            have HJ2 := hide (show RI w a w.heap.size (initM i (j + 1)) (wr.setCell ⟨w.heap.size + 1 + 1, i * 12 + j, none⟩ (.int .i64 (-1))) from by
              have h := HJ.out.set (Nat.le_refl _) hlt hlj (-1)
              rw [← initM_step, if_neg he]; exact h)
            clear he
            go_wp2
            go_roundw
            case rel => exact ⟨j + 1, by omega, by go_num, HJ2⟩
            case measure => simp [intOf]; omega
        · obtain rfl : j = 12 := by omega
          go_wp2
          go_roundw
          case rel => exact ⟨i + 1, by omega, by go_num, hide (by
            have h := HJ.out
            exact ⟨h.below, h.net, h.res, initM_row i ▸ h.row⟩)⟩
          case measure => simp [intOf]; omega
    · have HI1 := hide (show RI w a w.heap.size noneM wr from by
        have h := HI.out
        obtain rfl : i = 12 := by omega
        exact ⟨h.below, h.net, h.res, initM_full ▸ h.row⟩)
      have hltI : ¬ (i : Int) < 12 := by omega
      clear HI hlt hi
      have c4 := HI1.out.net.cell (k := 4) rfl
      have HNr := hide (HN.out.lin.later HI1.out.below HN.out.lin.lt)
      have l0 := HNr.out.cell (k := 0) rfl; have l1 := HNr.out.cell (k := 1) rfl; have l2 := HNr.out.cell (k := 2) rfl; have l3 := HNr.out.cell (k := 3) rfl; have l4 := HNr.out.cell (k := 4) rfl; have l5 := HNr.out.cell (k := 5) rfl
      go_wp2
      go_loopw [31] (fun si wr => ∃ i : Nat, i ≤ 2 ∧ si = .int .i64 i ∧ Hid (RI w a w.heap.size (if i = 0 then noneM else if i = 1 then updM noneM 0 1 120 else updM (updM noneM 0 1 120) 1 0 60) wr)) (fun si _ => 2 - (intOf si).toNat)
      case atStart => exact ⟨0, by decide, rfl, HI1⟩
      case round =>
        clear HNr l0 l1 l2 l3 l4 l5 c4
        obtain ⟨i, hi, rfl, HJ⟩ := hrel
        have hi3 : i = 0 ∨ i = 1 ∨ i = 2 := by omega
        have HNr := hide (HN.out.lin.later HJ.out.below HN.out.lin.lt)
        rcases hi3 with rfl | rfl | hi2
        · have l0 := HNr.out.cell (k := 0) rfl; have l1 := HNr.out.cell (k := 1) rfl; have l2 := HNr.out.cell (k := 2) rfl; have l3 := HNr.out.cell (k := 3) rfl; have l4 := HNr.out.cell (k := 4) rfl; have l5 := HNr.out.cell (k := 5) rfl
          have HJ1 := hide (show RI w a w.heap.size (noneM) (wr.alloc (.cells #[.string (str1 108), .int .i64 0, .int .i64 1, .int .i64 480, .int .i64 120, .int .i64 1] 110)) from HJ.out.next (balloc (Below.refl _ _) _))
          go_wp2_with (go_at_call 126; refine Stop.out ?_)
          refine Stop.go (relaxSet_c (w.heap.size + 1 + 1) 0 1 120 (noneM) _ _ (by decide) (by decide) HJ1.out.row (by decide) ?_)
          have HJ2 := hide (HJ1.out.set (Nat.le_refl _) (x := 0) (y := 1) (by decide) (by decide) 120)
          clear HJ1 HNr l0 l1 l2 l3 l4 l5
          go_wp2
          go_roundw
          case rel => exact ⟨1, by omega, by go_num, HJ2⟩
          case measure => simp [intOf]
        · have l0 := HNr.out.cell (k := 6) rfl; have l1 := HNr.out.cell (k := 7) rfl; have l2 := HNr.out.cell (k := 8) rfl; have l3 := HNr.out.cell (k := 9) rfl; have l4 := HNr.out.cell (k := 10) rfl; have l5 := HNr.out.cell (k := 11) rfl
          have HJ1 := hide (show RI w a w.heap.size (updM noneM 0 1 120) (wr.alloc (.cells #[.string (str1 109), .int .i64 1, .int .i64 0, .int .i64 600, .int .i64 60, .int .i64 1] 110)) from HJ.out.next (balloc (Below.refl _ _) _))
          go_wp2_with (go_at_call 126; refine Stop.out ?_)
          refine Stop.go (relaxSet_c (w.heap.size + 1 + 1) 1 0 60 (updM noneM 0 1 120) _ _ (by decide) (by decide) HJ1.out.row (by decide) ?_)
          have HJ2 := hide (HJ1.out.set (Nat.le_refl _) (x := 1) (y := 0) (by decide) (by decide) 60)
          clear HJ1 HNr l0 l1 l2 l3 l4 l5
          go_wp2
          go_roundw
          case rel => exact ⟨2, by omega, by go_num, HJ2⟩
          case measure => simp [intOf]
        · have HI2 := hide (show RI w a w.heap.size relM wr from by
            have h := HJ.out
            subst hi2
            exact ⟨h.below, h.net, h.res, relM_upd ▸ h.row⟩)
          have hiI : ¬ (i : Int) < 2 := by omega
          clear HJ HNr HI1 hi2 hi
          go_wp2
          go_loopw [44] (fun so wr => ∃ o : Nat, o ≤ 12 ∧ so = .int .i64 o ∧ Hid (RI w a w.heap.size relM wr)) (fun so _ => 12 - (intOf so).toNat)
          case atStart => exact ⟨0, by decide, rfl, HI2⟩
          case round =>
            clear HI2
            obtain ⟨o, ho, rfl, HO⟩ := hrel
            by_cases hlo : o < 12
            · have hloI : (o : Int) < 12 := by omega
              go_wp2
              go_loopw [47] (fun sa wr => ∃ x : Nat, x ≤ 12 ∧ sa = .int .i64 x ∧ Hid (RI w a w.heap.size relM wr)) (fun sa _ => 12 - (intOf sa).toNat)
              case atStart => exact ⟨0, by decide, rfl, HO⟩
              case round =>
                clear HO
                obtain ⟨x, hx, rfl, HX⟩ := hrel
                by_cases hlx : x < 12
                · have hlxI : (x : Int) < 12 := by omega
                  go_wp2
                  go_loopw [50] (fun sb wr => ∃ y : Nat, y ≤ 12 ∧ sb = .int .i64 y ∧ Hid (RI w a w.heap.size relM wr)) (fun sb _ => 12 - (intOf sb).toNat)
                  case atStart => exact ⟨0, by decide, rfl, HX⟩
                  case round =>
                    clear HX
                    obtain ⟨y, hy, rfl, HY⟩ := hrel
                    by_cases hly : y < 12
                    · have hlyI : (y : Int) < 12 := by omega
                      have c1 := HY.out.row.cell (mat_get _ hlx hlo)
                      have c2 := HY.out.row.cell (mat_get _ hlo hly)
                      have htri := hide (relM_tri o hlo x hlx y hly)
                      have r1 := relM_range x o
                      have r2 := relM_range o y
                      have Hxo := hide (show relM x o = relM x o from rfl)
                      obtain ⟨u, hu⟩ : ∃ u, relM x o = u := ⟨_, rfl⟩
                      obtain ⟨v, hv⟩ : ∃ v, relM o y = v := ⟨_, rfl⟩
                      rw [hu] at c1 r1 htri
                      rw [hv] at c2 r2 htri
                      clear hu hv Hxo
                      by_cases h1 : u = -1
                      · have q1 : (u != -1) = false := by simpa using h1
                        clear htri h1
                        go_wp2
                        go_roundw
                        case rel => exact ⟨y + 1, by omega, by go_num, HY⟩
                        case measure => simp [intOf]; omega
                      · by_cases h2 : v = -1
                        · subst h2
                          clear htri
                          have q1 : ¬ u = -1 := h1
                          go_wp2
                          go_roundw
                          case rel => exact ⟨y + 1, by omega, by go_num, HY⟩
                          case measure => simp [intOf]; omega
                        · have Ht := hide (htri.out h1 h2)
                          have z1 : IntKind.i64.wrap (u + v) = u + v := IntWalk.i64_in _ (by omega)
                          clear htri
                          have H1 := hide (show u ≠ -1 from h1); have H2 := hide (show v ≠ -1 from h2)
                          have q1 : (u != -1) = true := by simpa using h1
                          have q2 : (v != -1) = true := by simpa using h2
                          clear h1 h2
                          go_wp2
                          go_quiet ((go_at_call 126; exact quiet_dr (relaxNoQ (w.heap.size + 1 + 1) x y (u + v) (relM x y) relM _ hlx hly (HY.out.row.drewN _) rfl Ht.out.1 (by have := Ht.out.2; omega))))
                          go_wp2
                          go_roundw
                          case rel => exact ⟨y + 1, by omega, by go_num, hide (HY.out.next (below_drewN' (Below.refl _ _) _))⟩
                          case measure => simp [intOf]; omega
                    · obtain rfl : y = 12 := by omega
                      go_wp2
                      go_roundw
                      case rel => exact ⟨x + 1, by omega, by go_num, HY⟩
                      case measure => simp [intOf]; omega
                · obtain rfl : x = 12 := by omega
                  go_wp2
                  go_roundw
                  case rel => exact ⟨o + 1, by omega, by go_num, HX⟩
                  case measure => simp [intOf]; omega
            · have hloI : ¬ (o : Int) < 12 := by omega
              go_wp2
              refine wp_load_row 180 (.tmp 3) rfl (w.heap.size + 1 + 1) rfl 180 (mat relM) (0, 0) _ HO.out.row und180 rfl (by kernel_rfl) ?_
              have hsc := store_mat (mat relM) (mat (initM 0 0)) (w.heap.size + 1) wr HO.out.res (by kernel_rfl) (by kernel_rfl) (by kernel_rfl)
              have hsz : (mat relM).size = 144 := by kernel_rfl
              have HF := hide (HR.out _ (show Below w.heap.size w (wr.setRow (w.heap.size + 1) (mat relM)) from below_setRow HO.out.below (by omega) _))
              have HB := hide (show (wr.setRow (w.heap.size + 1) (mat relM)).heap[w.heap.size + 1]? = some (.cells (mat relM) 180 (0, 0)) from setRow_heap wr _ _ _ 180 (0, 0) HO.out.res)
              clear HO hlo
              go_wp2
              exact bodyPost_ret (results_cell_row (p := 2) (ty := 180) Tryz.results95 _ _ (w.heap.size + 1) 180 (mat relM) (0, 0) _ rfl HB.out und180 rfl (by kernel_rfl)) rfl HF.out
end Go.Proofs.YtkabghifdedmfaaGreatDoor
