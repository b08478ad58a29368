/- Survey: the distances of any network. Survey: Check on any network: no faults exactly if it is sound. -/
import Derived.Test.YtgfhcmidnbahjaaGreatDoorJ11
set_option linter.unusedVariables false
set_option linter.unusedSimpArgs false
namespace Go.Proofs.YtgfhcmidnbahjaaGreatDoor
section
open Go.RowKit
def mat (f : Nat → Nat → Int) : Array Value := ((List.range 144).map (fun k => Value.int .i64 (f (k / 12) (k % 12)))).toArray
theorem mat_get (f : Nat → Nat → Int) {a b : Nat} (ha : a < 12) (hb : b < 12) : (mat f)[a * 12 + b]? = some (.int .i64 (f a b)) := by
 unfold mat
 rw [List.getElem?_toArray, List.getElem?_map, List.getElem?_range (by omega)]
 simp only [Option.map_some]
 rw [show (a * 12 + b) / 12 = a by omega, show (a * 12 + b) % 12 = b by omega]
theorem mat_set (f : Nat → Nat → Int) {a b : Nat} (ha : a < 12) (hb : b < 12) (v : Int) : (mat f).setIfInBounds (a * 12 + b) (.int .i64 v) = mat (updM f a b v) := by
 apply Array.ext_getElem?
 intro k
 unfold mat
 rw [Array.getElem?_setIfInBounds]
 by_cases hk : k < 144
 ·rw [List.getElem?_toArray, List.getElem?_toArray, List.getElem?_map, List.getElem?_map, List.getElem?_range hk]
  simp only [Option.map_some]
  by_cases he : a * 12 + b = k
  ·subst he
   rw [if_pos rfl, if_pos (by simp; omega), updM, if_pos (by omega)]
  ·rw [if_neg he, updM, if_neg (by omega)]
 ·have h1 : ∀ f : Nat → Nat → Int, ((List.range 144).map (fun k => Value.int .i64 (f (k / 12) (k % 12)))).toArray[k]? = none := fun f => by
   rw [Array.getElem?_eq_none_iff]; simp; omega
  rw [h1, h1, if_neg (by omega)]
theorem mat_congr {f g : Nat → Nat → Int} (h : ∀ a b, a < 12 → b < 12 → f a b = g a b) : mat f = mat g := by
 unfold mat
 congr 1
 apply List.map_congr_left
 intro k hk
 rw [List.mem_range] at hk
 rw [h _ _ (by omega) (by omega)]
def initM (n m : Nat) : Nat → Nat → Int := fun a b => if (a < n ∨ a = n ∧ b < m) ∧ a ≠ b then -1 else 0
theorem initM_full : mat (initM 12 0) = mat noneM := mat_congr fun a b ha hb => by
 unfold initM noneM
 by_cases h : a = b
 ·rw [if_neg (by omega), if_pos h]
 ·rw [if_pos (by omega), if_neg h]
theorem initM_row (n : Nat) : mat (initM n 12) = mat (initM (n + 1) 0) := mat_congr fun a b ha hb => by
 unfold initM
 by_cases h : (a < n ∨ a = n ∧ b < 12) ∧ a ≠ b
 ·rw [if_pos h, if_pos (by omega)]
 ·rw [if_neg h, if_neg (by omega)]
theorem initM_step (n m : Nat) : updM (initM n m) n m (if n = m then 0 else -1) = initM n (m + 1) := by
 funext a b
 unfold updM initM
 by_cases h : a = n ∧ b = m
 ·rw [if_pos h]
  by_cases e : n = m
  ·rw [if_pos e, if_neg (by omega)]
  ·rw [if_neg e, if_pos (by omega)]
 ·rw [if_neg h]
  by_cases e : (a < n ∨ a = n ∧ b < m) ∧ a ≠ b
  ·rw [if_pos e, if_pos (by omega)]
  ·rw [if_neg e, if_neg (by omega)]
theorem initM_same {n : Nat} : updM (initM n n) n n 0 = initM n n := by
 funext a b
 unfold updM
 by_cases h : a = n ∧ b = n
 ·rw [if_pos h]; unfold initM; rw [if_neg (by omega)]
 ·rw [if_neg h]
theorem undMat : Tryz.prog.underlying 235 = some (.array 12 234) := by kernel_rfl
theorem store_mat (cells old : Array Value) (g : Nat) (w : World) (hg : w.heap[g]? = some (.cells old 235 (0, 0))) (ho : old.size = 144) (hc : cells.size = 144) (h1 : cells.all (·.oneCell') = true) : Sem.run Tryz.prog (storeCells ⟨g, 0, none⟩ cells.toList) w = .ok () (w.setRow g cells) := by
 have := run_storeCells_from (P := Tryz.prog) g 235 cells.toList 0 old w hg (by simp; omega) (fun v hv => (Array.all_eq_true_iff_forall_mem.1 h1) v (by simpa using hv))
 simpa using this
theorem zero_mat : Tryz.zeroCells235 = mat (initM 0 0) := by kernel_rfl
set_option maxRecDepth 100000 in
set_option maxHeartbeats 2000000 in
theorem relax_c (g a b : Nat) (len : Int) (f : Mat) (w : World) (R) (ha : a < 12) (hb : b < 12) (hB : Blk w g (mat f) 235)
  (hR : ∀ w', w' = w ∨ w' = w.setCell ⟨g, a * 12 + b, none⟩ (.int .i64 len) → Blk w' g (mat (relaxM f a b len)) 235 → R (.returned (.tuple #[])) w') : Calls Tryz.prog 243 #[.int .i64 (a : Int), .int .i64 (b : Int), .int .i64 len, .pointer (some ⟨g, 0, none⟩)] w R := by
 have c0 := hB.cell (mat_get f ha hb)
 have f0 := hB.free (a * 12 + b)
 have hset : Blk (w.setCell ⟨g, a * 12 + b, none⟩ (.int .i64 len)) g (mat (updM f a b len)) 235 := mat_set f ha hb len ▸ hB.set _ _
 by_cases h1 : f a b = -1
 ·have HR := hide (hR _ (.inr rfl) (by unfold relaxM; rw [if_pos (.inl h1)]; exact hset))
  rw [h1] at c0
  clear hR hB h1 hset
  go_enter Tryz.func243, Tryz.ntmps243
  go_wp2
  exact bodyPost_end (results_none Tryz.results243 _ _ _) rfl HR.out
 ·by_cases h2 : len < f a b
  ·have HR := hide (hR _ (.inr rfl) (by unfold relaxM; rw [if_pos (.inr h2)]; exact hset))
   obtain ⟨x, hx⟩ : ∃ x, f a b = x := ⟨_, rfl⟩
   rw [hx] at c0 h1 h2
   have q1 : (x == -1) = false := by simpa using h1
   clear hR hB h1 hx hset
   go_enter Tryz.func243, Tryz.ntmps243
   go_wp2
   exact bodyPost_end (results_none Tryz.results243 _ _ _) rfl HR.out
  ·have HR := hide (hR _ (.inl rfl) (by unfold relaxM; rw [if_neg (by intro h; rcases h with h | h; exact h1 h; exact h2 h)]; exact hB))
   obtain ⟨x, hx⟩ : ∃ x, f a b = x := ⟨_, rfl⟩
   rw [hx] at c0 h1 h2
   have q1 : (x == -1) = false := by simpa using h1
   clear hR hB h1 hx hset
   go_enter Tryz.func243, Tryz.ntmps243
   go_wp2
   exact bodyPost_end (results_none Tryz.results243 _ _ _) rfl HR.out
theorem mat_size (f : Mat) : (mat f).size = 144 := by unfold mat; simp
theorem mat_one (f : Mat) : (mat f).all (·.oneCell') = true := by
 rw [Array.all_eq_true_iff_forall_mem]
 intro v hv
 unfold mat at hv
 rw [List.mem_toArray] at hv
 obtain ⟨k, _, rfl⟩ := List.mem_map.1 hv
 rfl
structure RI (w : World) (N : Net) (g : Nat) (f : Mat) (W : World) : Prop where
 below : Below w.heap.size w W
 net : Blk W g N.cells 29
 res : Blk W (g + 1) (mat (initM 0 0)) 235
 row : Blk W (g + 1 + 1) (mat f) 235
theorem RI.set {w W : World} {N : Net} {g : Nat} {f : Mat} (h : RI w N g f W) (hg : w.heap.size ≤ g) {x y : Nat} (hx : x < 12) (hy : y < 12) (v : Int) : RI w N g (updM f x y v) (W.setCell ⟨g + 1 + 1, x * 12 + y, none⟩ (.int .i64 v)) :=
 ⟨h.below.setCell (p := ⟨g + 1 + 1, x * 12 + y, none⟩) (show w.heap.size ≤ g + 1 + 1 by omega) _, h.net.far (p := ⟨g + 1 + 1, x * 12 + y, none⟩) (show g ≠ g + 1 + 1 by omega) _, h.res.far (p := ⟨g + 1 + 1, x * 12 + y, none⟩) (show g + 1 ≠ g + 1 + 1 by omega) _, mat_set f hx hy v ▸ h.row.set _ _⟩
theorem RI.next {w W W' : World} {N : Net} {g : Nat} {f : Mat} (h : RI w N g f W) (hb : Below W.heap.size W W') : RI w N g f W' := ⟨bseq h.below hb, h.net.next hb, h.res.next hb, h.row.next hb⟩
theorem RI.relax {w W W' : World} {N : Net} {g : Nat} {f f' : Mat} (h : RI w N g f W) (hg : w.heap.size ≤ g) {k : Nat} {v : Value} (h' : W' = W ∨ W' = W.setCell ⟨g + 1 + 1, k, none⟩ v) (hr : Blk W' (g + 1 + 1) (mat f') 235) : RI w N g f' W' := by
 rcases h' with rfl | rfl
 ·exact ⟨h.below, h.net, h.res, hr⟩
 ·exact ⟨h.below.setCell (p := ⟨g + 1 + 1, k, none⟩) (show w.heap.size ≤ g + 1 + 1 by omega) _, h.net.far (p := ⟨g + 1 + 1, k, none⟩) (show g ≠ g + 1 + 1 by omega) _, h.res.far (p := ⟨g + 1 + 1, k, none⟩) (show g + 1 ≠ g + 1 + 1 by omega) _, hr⟩
theorem overM_step (L : Mat) {o x y : Nat} (ho : o < 12) (hx : x < 12) (hy : y < 12) : overM L ((o * 12 + x) * 12 + y + 1) = tripM (overM L ((o * 12 + x) * 12 + y)) o x y := by
 rw [overM, show ((o * 12 + x) * 12 + y) / 144 = o by omega, show ((o * 12 + x) * 12 + y) / 12 % 12 = x by omega, show ((o * 12 + x) * 12 + y) % 12 = y by omega]
set_option maxRecDepth 100000 in
set_option maxHeartbeats 8000000 in
theorem relaxed_c (N : Net) (w : World) (R) (hN : NetAt w N) (hS : Snd N) (hR : ∀ w', Below w.heap.size w w' → R (.returned (.agg (mat (relM N)))) w') : Calls Tryz.prog 183 #[.agg N.cells] w R := by
 have HR := hide hR; have HN := hide hN; have HS := hide hS
 clear hR hN hS
 go_enter Tryz.func183, Tryz.ntmps183
 go_wp2
 obtain ⟨w1, hw1⟩ : ∃ w1, (w.alloc (.cells N.cells 29)) = w1 := ⟨_, rfl⟩
 have hb1 : Below w.heap.size w w1 := hw1 ▸ balloc (Below.refl _ _) _
 have k1 : Blk w1 w.heap.size N.cells 29 := hw1 ▸ Blk.new _ _ _
 have s1 : w1.heap.size = w.heap.size + 1 := by rw [← hw1, World.size_alloc]
 obtain ⟨w2, hw2⟩ : ∃ w2, (w1.alloc (.cells Tryz.zeroCells235 235)) = w2 := ⟨_, rfl⟩
 have k2 : Blk w2 (w.heap.size + 1) (mat (initM 0 0)) 235 := by rw [← hw2, ← zero_mat, ← s1]; exact Blk.new _ _ _
 have s2 : w2.heap.size = w.heap.size + 1 + 1 := by rw [← hw2, World.size_alloc, s1]
 have hb2 : Below w1.heap.size w1 w2 := hw2 ▸ balloc (Below.refl _ _) _
 obtain ⟨w3, hw3⟩ : ∃ w3, (w2.alloc (.cells Tryz.zeroCells235 235)) = w3 := ⟨_, rfl⟩
 have k3 : Blk w3 (w.heap.size + 1 + 1) (mat (initM 0 0)) 235 := by rw [← hw3, ← zero_mat, ← s2]; exact Blk.new _ _ _
 have hb3 : Below w2.heap.size w2 w3 := hw3 ▸ balloc (Below.refl _ _) _
 rw [hw1, hw2, hw3]
 have HI0 := hide (show RI w N w.heap.size (initM 0 0) w3 from ⟨bseq (bseq hb1 hb2) hb3, (k1.next hb2).next hb3, k2.next hb3, k3⟩)
 clear hw1 hw2 hw3 hb1 hb2 hb3 k1 k2 k3 s1 s2
 go_loopw [12] (fun si wr => ∃ i : Nat, i ≤ 12 ∧ si = .int .i64 i ∧ Hid (RI w N w.heap.size (initM i 0) wr)) (fun si _ => 12 - (intOf si).toNat)
 case atStart => exact ⟨0, by decide, rfl, HI0⟩
 case round =>
  obtain ⟨i, hi, rfl, HI⟩ := hrel
  by_cases hlt : i < 12
  ·have hltI : (i : Int) < 12 := by omega
   go_wp2
   go_loopw [15] (fun sj wr => ∃ j : Nat, j ≤ 12 ∧ sj = .int .i64 j ∧ Hid (RI w N w.heap.size (initM i j) wr)) (fun sj _ => 12 - (intOf sj).toNat)
   case atStart => exact ⟨0, by decide, rfl, HI⟩
   case round =>
    obtain ⟨j, hj, rfl, HJ⟩ := hrel
    by_cases hlj : j < 12
    ·have hljI : (j : Int) < 12 := by omega
     by_cases he : i = j
     ·subst he
      go_wp2
      go_roundw
      case rel => exact ⟨i + 1, by omega, by go_num, hide (by
       have h := HJ.out
       rw [← initM_step, if_pos rfl, initM_same]; exact h)⟩
      case measure => simp [intOf]; omega
     ·have q1 : ¬ (i : Int) = (j : Int) := by omega
      have c0 := HJ.out.row.cell (mat_get _ hlt hlj)
      have f0 := HJ.out.row.free (i * 12 + j)
      have HJ2 := hide (show RI w N w.heap.size (initM i (j + 1)) (wr.setCell ⟨w.heap.size + 1 + 1, i * 12 + j, none⟩ (.int .i64 (-1))) from by
       have h := HJ.out.set (Nat.le_refl _) hlt hlj (-1)
       rw [← initM_step, if_neg he]; exact h)
      clear he
      go_wp2
      go_roundw
      case rel => exact ⟨j + 1, by omega, by go_num, HJ2⟩
      case measure => simp [intOf]; omega
    ·obtain rfl : j = 12 := by omega
     go_wp2
     go_roundw
     case rel => exact ⟨i + 1, by omega, by go_num, hide (by
      have h := HJ.out
      exact ⟨h.below, h.net, h.res, initM_row i ▸ h.row⟩)⟩
     case measure => simp [intOf]; omega
  ·have HI1 := hide (show RI w N w.heap.size noneM wr from by
    have h := HI.out
    obtain rfl : i = 12 := by omega
    exact ⟨h.below, h.net, h.res, initM_full ▸ h.row⟩)
   have hltI : ¬ (i : Int) < 12 := by omega
   clear HI hlt hi
   have c4 : wr.cell? ⟨w.heap.size, 4, none⟩ = some (.slice N.lp N.lins.length N.lc) := HI1.out.net.cell (k := 4) rfl
   obtain ⟨n, hn⟩ : ∃ n, N.lins.length = n := ⟨_, rfl⟩
   have Hn := hide hn
   have hn40 : n ≤ 40 := by rw [← hn]; exact HS.out.nlin
   rw [hn] at c4
   clear hn
   go_wp2
   clear c4
   go_loopw [31] (fun si wr => ∃ i : Nat, i ≤ n ∧ si = .int .i64 i ∧ Hid (RI w N w.heap.size (linesM N i) wr)) (fun si _ => n - (intOf si).toNat)
   case atStart => exact ⟨0, Nat.zero_le _, rfl, HI1⟩
   case round =>
    clear HI1
    obtain ⟨i, hi, rfl, HJ⟩ := hrel
    by_cases hlt : i < n
    ·obtain ⟨b, o, x, hp, hx, _, l0, l1, l2, l3, l4, l5⟩ := (HN.out.next HJ.out.below).lin_ (i := i) (by rw [Hn.out]; exact hlt)
     have hP := linP_of (HS.out.lin i (by rw [Hn.out]; exact hlt))
     rw [getD_some hx] at hP
     have hnf := HS.out.noff
     obtain ⟨a, ha⟩ : ∃ a : Nat, x.src = (a : Int) := ⟨x.src.toNat, by have := hP.src; omega⟩
     obtain ⟨c, hc⟩ : ∃ c : Nat, x.dst = (c : Int) := ⟨x.dst.toNat, by have := hP.dst; omega⟩
     have ha12 : a < 12 := by have := hP.src; omega
     have hc12 : c < 12 := by have := hP.dst; omega
     have Hstep := hide (show linesM N (i + 1) = relaxM (linesM N i) a c x.travel by
      rw [linesM, getD_some hx, ha, hc]; rfl)
     rw [hp]
     rw [ha] at l1; rw [hc] at l2
     have HJ1 := hide (HJ.out.next (balloc (Below.refl _ _) (.cells #[.string x.name, .int .i64 (a : Int), .int .i64 (c : Int), .int .i64 x.at_, .int .i64 x.travel, .int .i64 x.load] 55)))
     clear hP hnf ha hc hx hp
     go_wp2_with (go_at_call 243; refine Stop.out ?_)
     refine Stop.go (relax_c (w.heap.size + 1 + 1) a c x.travel (linesM N i) _ _ ha12 hc12 HJ1.out.row ?_)
     intro w4 hw4 hB4
     have HJ2 := hide (show RI w N w.heap.size (linesM N (i + 1)) w4 from by rw [Hstep.out]; exact HJ1.out.relax (Nat.le_refl _) hw4 hB4)
     clear HJ1 l0 l1 l2 l3 l4 l5 hw4 hB4
     go_wp2
     go_roundw
     case rel => exact ⟨i + 1, by omega, by go_num, HJ2⟩
     case measure => simp [intOf]; omega
    ·have hiI : ¬ (i : Int) < (n : Int) := by omega
     obtain ⟨L, hL⟩ : ∃ L, linesM N N.lins.length = L := ⟨_, rfl⟩
     have HL := hide hL
     have HI2 := hide (show RI w N w.heap.size (overM L 0) wr from by
      have h := HJ.out
      obtain rfl : i = n := by omega
      rw [← Hn.out, hL] at h
      exact h)
     clear HJ hi hL hlt
     go_wp2
     go_loopw [44] (fun so wr => ∃ o : Nat, o ≤ 12 ∧ so = .int .i64 o ∧ Hid (RI w N w.heap.size (overM L (o * 144)) wr)) (fun so _ => 12 - (intOf so).toNat)
     case atStart => exact ⟨0, by decide, rfl, HI2⟩
     case round =>
      clear HI2
      obtain ⟨o, ho, rfl, HO⟩ := hrel
      by_cases hlo : o < 12
      ·have hloI : (o : Int) < 12 := by omega
       have HO1 := hide (show RI w N w.heap.size (overM L ((o * 12 + 0) * 12)) wr from by rw [show (o * 12 + 0) * 12 = o * 144 by omega]; exact HO.out)
       go_wp2
       go_loopw [47] (fun sa wr => ∃ x : Nat, x ≤ 12 ∧ sa = .int .i64 x ∧ Hid (RI w N w.heap.size (overM L ((o * 12 + x) * 12)) wr)) (fun sa _ => 12 - (intOf sa).toNat)
       case atStart => exact ⟨0, by decide, rfl, HO1⟩
       case round =>
        clear HO HO1
        obtain ⟨x, hx, rfl, HX⟩ := hrel
        by_cases hlx : x < 12
        ·have hlxI : (x : Int) < 12 := by omega
         go_wp2
         go_loopw [50] (fun sb wr => ∃ y : Nat, y ≤ 12 ∧ sb = .int .i64 y ∧ Hid (RI w N w.heap.size (overM L ((o * 12 + x) * 12 + y)) wr)) (fun sb _ => 12 - (intOf sb).toNat)
         case atStart => exact ⟨0, by decide, rfl, HX⟩
         case round =>
          clear HX
          obtain ⟨y, hy, rfl, HY⟩ := hrel
          by_cases hly : y < 12
          ·have hlyI : (y : Int) < 12 := by omega
           have Hst := hide (overM_step L hlo hlx hly)
           obtain ⟨f, hf⟩ : ∃ f, overM L ((o * 12 + x) * 12 + y) = f := ⟨_, rfl⟩
           have Hf := hide hf
           rw [hf] at HY Hst
           have c1 := HY.out.row.cell (mat_get f hlx hlo)
           have c2 := HY.out.row.cell (mat_get f hlo hly)
           obtain ⟨u, hu⟩ : ∃ u, f x o = u := ⟨_, rfl⟩
           obtain ⟨v, hv⟩ : ∃ v, f o y = v := ⟨_, rfl⟩
           have Ht : Hid (tripM f o x y = if u ≠ -1 ∧ v ≠ -1 then relaxM f x y (IntKind.i64.wrap (u + v)) else f) := hide (by rw [← hu, ← hv]; rfl)
           rw [hu] at c1
           rw [hv] at c2
           clear hu hv hf
           by_cases h1 : u = -1
           ·have q1 : (u != -1) = false := by simpa using h1
            have HY2 := hide (show RI w N w.heap.size (overM L ((o * 12 + x) * 12 + (y + 1))) wr from by
             rw [show (o * 12 + x) * 12 + (y + 1) = (o * 12 + x) * 12 + y + 1 by omega, Hst.out, Ht.out, if_neg (fun h => h.1 h1)]; exact HY.out)
            clear h1
            go_wp2
            go_roundw
            case rel => exact ⟨y + 1, by omega, by go_num, HY2⟩
            case measure => simp [intOf]; omega
           ·by_cases h2 : v = -1
            ·have HY2 := hide (show RI w N w.heap.size (overM L ((o * 12 + x) * 12 + (y + 1))) wr from by
              rw [show (o * 12 + x) * 12 + (y + 1) = (o * 12 + x) * 12 + y + 1 by omega, Hst.out, Ht.out, if_neg (fun h => h.2 h2)]; exact HY.out)
             have q1 : (u != -1) = true := by simpa using h1
             have q2 : (v != -1) = false := by simpa using h2
             clear h1 h2
             go_wp2
             go_roundw
             case rel => exact ⟨y + 1, by omega, by go_num, HY2⟩
             case measure => simp [intOf]; omega
            ·have Hst2 := hide (show overM L ((o * 12 + x) * 12 + (y + 1)) = relaxM f x y (IntKind.i64.wrap (u + v)) from by
              rw [show (o * 12 + x) * 12 + (y + 1) = (o * 12 + x) * 12 + y + 1 by omega, Hst.out, Ht.out, if_pos ⟨h1, h2⟩])
             have q1 : (u != -1) = true := by simpa using h1
             have q2 : (v != -1) = true := by simpa using h2
             obtain ⟨z, hz⟩ : ∃ z, IntKind.i64.wrap (u + v) = z := ⟨_, rfl⟩
             rw [hz] at Hst2
             have HYd := hide (HY.out.next ((Below.refl _ _).drew))
             clear h1 h2
             go_wp2
             go_still_tail 14, (by kernel_rfl)
             change wpList _ _ _ _ _ wr.drew
             clear c1 c2 hz q1 q2
             generalize wr.drew = w4 at *
             go_wp2_with (go_at_call 243; refine Stop.out ?_)
             refine Stop.go (relax_c (w.heap.size + 1 + 1) x y z f _ _ hlx hly HYd.out.row ?_)
             intro w5 hw5 hB5
             have HY2 := hide (show RI w N w.heap.size (overM L ((o * 12 + x) * 12 + (y + 1))) w5 from by rw [Hst2.out]; exact HYd.out.relax (Nat.le_refl _) hw5 hB5)
             clear hw5 hB5 HYd
             go_wp2
             go_roundw
             case rel => exact ⟨y + 1, by omega, by go_num, HY2⟩
             case measure => simp [intOf]; omega
          ·obtain rfl : y = 12 := by omega
           have HX2 := hide (show RI w N w.heap.size (overM L ((o * 12 + (x + 1)) * 12)) wr from by rw [show (o * 12 + (x + 1)) * 12 = (o * 12 + x) * 12 + 12 by omega]; exact HY.out)
           go_wp2
           go_roundw
           case rel => exact ⟨x + 1, by omega, by go_num, HX2⟩
           case measure => simp [intOf]; omega
        ·obtain rfl : x = 12 := by omega
         have HO2 := hide (show RI w N w.heap.size (overM L ((o + 1) * 144)) wr from by rw [show (o + 1) * 144 = (o * 12 + 12) * 12 by omega]; exact HX.out)
         go_wp2
         go_roundw
         case rel => exact ⟨o + 1, by omega, by go_num, HO2⟩
         case measure => simp [intOf]; omega
      ·have hloI : ¬ (o : Int) < 12 := by omega
       obtain ⟨M, hM⟩ : ∃ M, relM N = M := ⟨_, rfl⟩
       have HO2 := hide (show RI w N w.heap.size M wr from by
        have h := HO.out
        obtain rfl : o = 12 := by omega
        rw [← HL.out] at h
        rw [← hM]; exact h)
       rw [hM] at HR
       clear HO hM hlo ho
       go_wp2
       refine wp_load_row 235 (.tmp 3) rfl (w.heap.size + 1 + 1) rfl 235 (mat M) (0, 0) _ HO2.out.row undMat rfl (by rw [mat_size]; kernel_rfl) ?_
       have hsc := store_mat (mat M) (mat (initM 0 0)) (w.heap.size + 1) wr HO2.out.res (mat_size _) (mat_size _) (mat_one _)
       have hsz : (mat M).size = 144 := mat_size _
       have HF := hide (HR.out _ (show Below w.heap.size w (wr.setRow (w.heap.size + 1) (mat M)) from below_setRow HO2.out.below (by omega) _))
       have HB := hide (show (wr.setRow (w.heap.size + 1) (mat M)).heap[w.heap.size + 1]? = some (.cells (mat M) 235 (0, 0)) from setRow_heap wr _ _ _ 235 (0, 0) HO2.out.res)
       clear HO2
       go_wp2
       exact bodyPost_ret (results_cell_row (p := 2) (ty := 235) Tryz.results183 _ _ (w.heap.size + 1) 235 (mat M) (0, 0) _ rfl HB.out undMat rfl (by rw [mat_size]; kernel_rfl)) rfl HF.out
end
section
open Go.RowKit
structure CI (w : World) (N : Net) (g : Nat) (M : Mat) (v : Value) (c : Nat) (xs : List Value) (W : World) : Prop where
 below : Below w.heap.size w W
 net : Blk W w.heap.size N.cells 29
 row : Blk W g (mat M) 235
 own : W.ownsRow w.heap.size 238 3 v c xs
theorem CI.app {w : World} {N : Net} {g : Nat} {M : Mat} {v v' : Value} {c c' : Nat} {xs xs' : List Value} {W W' : World} (h : CI w N g M v c xs W) (hg : W.grownBy W' v.ownBlock) (ho : W'.ownsRow w.heap.size 238 3 v' c' xs') : CI w N g M v' c' xs' W' :=
 ⟨h.below.grown hg h.below.size (fun k hk => (own_lt h.own hk).1), h.net.grown hg (own_ne_blk h.own h.net (by decide)), h.row.grown hg (own_ne_blk h.own h.row (by decide)), ho⟩
theorem CI.next {w : World} {N : Net} {g : Nat} {M : Mat} {v : Value} {c : Nat} {xs : List Value} {W W' : World} (h : CI w N g M v c xs W) (hb : Below W.heap.size W W') : CI w N g M v c xs W' :=
 ⟨bseq h.below hb, h.net.next hb, h.row.next hb, own_below h.own hb⟩
set_option maxRecDepth 100000 in
set_option maxHeartbeats 8000000 in
theorem check_c (N : Net) (w : World) (R) (hk : KwAt w) (hN : NetAt w N) (hR : ∀ w' p n cap, Below w.heap.size w w' → (n = 0 ↔ soundB N = true) → n ≤ 100 → R (.returned (.slice p n cap)) w') : Calls Tryz.prog 115 #[.agg N.cells] w R := by
 have HR := hide hR
 obtain ⟨w1, hw1⟩ : ∃ w1, w.alloc (.cells N.cells 29) = w1 := ⟨_, rfl⟩
 have hb1 : Below w.heap.size w w1 := hw1 ▸ balloc (Below.refl _ _) _
 have k1 : Blk w1 w.heap.size N.cells 29 := hw1 ▸ Blk.new _ _ _
 have HI := hide (show KwAt w1 ∧ NetAt w1 N ∧ Blk w1 w.heap.size N.cells 29 ∧ Below w.heap.size w w1 from ⟨hk.next hb1, hN.next hb1, k1, hb1⟩)
 have x0 := k1.cell (k := 0) (v := .slice N.cp N.cals.length N.cc) rfl; have x1 := k1.cell (k := 1) (v := .slice N.np N.names.length N.nc) rfl; have x2 := k1.cell (k := 2) (v := .slice N.op N.oprs.length N.oc) rfl; have x3 := k1.cell (k := 3) (v := .slice N.fp N.offs.length N.fc) rfl; have x4 := k1.cell (k := 4) (v := .slice N.lp N.lins.length N.lc) rfl; have x5 := k1.cell (k := 5) (v := .slice N.kp N.clss.length N.kc) rfl
 have HNw := hide hN
 clear hR hk hN hb1 k1
 go_enter Tryz.func115, Tryz.ntmps115
 go_wp2_with (go_at_call 182; refine Stop.out ?_)
 refine Stop.go (incon_c N _ _ HI.out.1 HI.out.2.1 ?_)
 intro w2 v xs hb ho hy
 obtain ⟨p, cap, rfl, _⟩ := own_val ho
 have HI2 := hide (show KwAt w2 ∧ NetAt w2 N ∧ Blk w2 w.heap.size N.cells 29 ∧ Below w.heap.size w w2 from ⟨HI.out.1.next hb, HI.out.2.1.next hb, HI.out.2.2.1.next hb, bseq HI.out.2.2.2 hb⟩)
 clear hb hw1 x0 x1 x2 x3 x4 x5
 have hfl : faultsN N ≤ 75 := by
  unfold faultsN
  have a1 := kindN_le 6 N.cals.length (calNm N) (calGd N); have a2 := kindN_le 6 N.oprs.length (oprNm N) (fun _ => true); have a3 := kindN_le 12 N.offs.length (offNm N) (offGd N); have a4 := kindN_le 40 N.lins.length (linNm N) (linGd N); have a5 := kindN_le 4 N.clss.length (clsNm N) (clsGd N)
  split <;> omega
 have HO := hide (own_mono ho HI.out.2.2.2.size)
 clear ho hy HI
 by_cases hz : ¬ faultsN N = 0
 ·have hpos : (0 : Int) < (faultsN N : Int) := by omega
  have HF := hide (HR.out w2 p (faultsN N) cap HI2.out.2.2.2 (by
   unfold soundB
   rw [decide_eq_false hz]
   simp; exact hz) (by omega))
  clear hz hfl
  generalize faultsN N = k at *
  go_wp2
  exact HF.out
 ·replace hz : faultsN N = 0 := by omega
  have HS := hide (snd_faults hz)
  rw [hz] at HO ⊢
  have Hsnd : Hid (soundB N = reachB N) := hide (by unfold soundB; rw [hz]; rfl)
  have x0 := HI2.out.2.2.1.cell (k := 0) (v := .slice N.cp N.cals.length N.cc) rfl; have x1 := HI2.out.2.2.1.cell (k := 1) (v := .slice N.np N.names.length N.nc) rfl; have x2 := HI2.out.2.2.1.cell (k := 2) (v := .slice N.op N.oprs.length N.oc) rfl; have x3 := HI2.out.2.2.1.cell (k := 3) (v := .slice N.fp N.offs.length N.fc) rfl; have x4 := HI2.out.2.2.1.cell (k := 4) (v := .slice N.lp N.lins.length N.lc) rfl; have x5 := HI2.out.2.2.1.cell (k := 5) (v := .slice N.kp N.clss.length N.kc) rfl
  clear hz hfl
  go_wp2_with (go_at_call 183; refine Stop.out ?_)
  refine Stop.go (relaxed_c N _ _ HI2.out.2.1 HS.out ?_)
  intro w3 hb
  have HI3 := hide (show Blk w3 w.heap.size N.cells 29 ∧ Below w.heap.size w w3 from ⟨HI2.out.2.2.1.next hb, bseq HI2.out.2.2.2 hb⟩)
  have HO3 := hide (own_below HO.out hb)
  clear hb HI2 x0 x1 x2 x3 x4 x5 HO
  obtain ⟨M, hM⟩ : ∃ M, relM N = M := ⟨_, rfl⟩
  have HM := hide hM
  rw [hM]
  clear hM
  obtain ⟨w4, hw4⟩ : ∃ w4, w3.alloc (.cells Tryz.zeroCells235 235) = w4 := ⟨_, rfl⟩
  have k4 : Blk w4 w3.heap.size (mat (initM 0 0)) 235 := by rw [← hw4, ← zero_mat]; exact Blk.new _ _ _
  have hb4 : Below w3.heap.size w3 w4 := hw4 ▸ balloc (Below.refl _ _) _
  have hst := store_mat (mat M) (mat (initM 0 0)) w3.heap.size w4 k4 (mat_size _) (mat_size _) (mat_one _)
  rw [← hw4] at hst
  have hb5 : Below w3.heap.size w3 ((w3.alloc (.cells Tryz.zeroCells235 235)).setRow w3.heap.size (mat M)) := by
   rw [hw4]; exact below_setRow hb4 (Nat.le_refl _) _
  have k5 : Blk ((w3.alloc (.cells Tryz.zeroCells235 235)).setRow w3.heap.size (mat M)) w3.heap.size (mat M) 235 := by
   rw [hw4]; exact setRow_heap w4 _ _ _ 235 (0, 0) k4
  have hsz : (mat M).size = 144 := mat_size _
  have HI5 := hide (show CI w N w3.heap.size M (.slice p 0 cap) 0 xs ((w3.alloc (.cells Tryz.zeroCells235 235)).setRow w3.heap.size (mat M)) from ⟨bseq HI3.out.2 hb5, HI3.out.1.next hb5, k5, own_below HO3.out hb5⟩)
  have x3 := (HI3.out.1.next hb5).cell (k := 3) (v := .slice N.fp N.offs.length N.fc) rfl
  obtain ⟨n, hn⟩ : ∃ n, N.offs.length = n := ⟨_, rfl⟩
  have Hn := hide hn
  have hn12 : n ≤ 12 := by rw [← hn]; exact HS.out.noff
  rw [hn] at x3
  clear hb4 hb5 k4 k5 hw4 HI3 HO3 hn
  go_wp2
  clear hst x3 hsz
  generalize ((w3.alloc (.cells Tryz.zeroCells235 235)).setRow w3.heap.size (mat M)) = w5 at *
  go_loopw [3, 18] (fun v si wr => ∃ (i c : Nat) (xs : List Value), i ≤ n ∧ si = .int .i64 i ∧ c ≤ i ∧ Hid (c = 0 ↔ ∀ y, y < i → ∀ a, a < n → M a y ≠ -1) ∧ Hid (CI w N w3.heap.size M v c xs wr)) (fun _ si _ => n - (intOf si).toNat)
  case atStart => exact ⟨0, 0, xs, Nat.zero_le _, rfl, Nat.le_refl _, hide ⟨fun _ y hy => by omega, fun _ => rfl⟩, HI5⟩
  case round =>
   clear HI5
   obtain ⟨v0, rfl⟩ : ∃ v0, v0 = u3 := ⟨u3, rfl⟩
   obtain ⟨W0, rfl⟩ : ∃ W0, W0 = wr := ⟨wr, rfl⟩
   obtain ⟨i, c, xs, hi, rfl, hci, HC, HI⟩ := hrel
   by_cases hlt : i < n
   ·have hltI : (i : Int) < (n : Int) := by omega
    have hi12 : i < 12 := by omega
    have x3 : W0.cell? ⟨w.heap.size, 3, none⟩ = some (.slice N.fp n N.fc) := by rw [← Hn.out]; exact HI.out.net.cell (k := 3) rfl
    go_wp2
    clear x3
    go_loopw [3, 24] (fun v sj wq => v = v0 ∧ ∃ j : Nat, j ≤ n ∧ sj = .int .i64 j ∧ Hid (∀ a, a < j → M a i ≠ -1) ∧ wq = W0) (fun _ sj _ => n - (intOf sj).toNat)
    case atStart => exact ⟨rfl, 0, Nat.zero_le _, rfl, hide (fun a ha => by omega), rfl⟩
    case round =>
     obtain ⟨hv0, j, hj, rfl, HA, hwr⟩ := hrel
     obtain rfl : v0 = u3 := hv0.symm
     obtain rfl : W0 = wr := hwr.symm
     by_cases hlj : j < n
     ·have hljI : (j : Int) < (n : Int) := by omega
      have hj12 : j < 12 := by omega
      have c1 := HI.out.row.cell (mat_get M hj12 hi12)
      obtain ⟨x, hx⟩ : ∃ x, M j i = x := ⟨_, rfl⟩
      have Hx := hide hx
      rw [hx] at c1
      clear hx
      by_cases hxn : x = -1
      ·have q1 : (x == -1) = true := by simpa using hxn
       have HC' : Hid (c + 1 = 0 ↔ ∀ y, y < i + 1 → ∀ a, a < n → M a y ≠ -1) := hide ⟨fun h => by omega, fun h => absurd (Hx.out.trans hxn) (h i (by omega) j hlj)⟩
       obtain ⟨i0, hi0, hz0, hz1, hz2⟩ := info_parts infoFault
       have HT3 := hide (And.intro hi0 (And.intro hz0 (And.intro hz1 hz2)))
       clear hi0 hz0 hz1 hz2 hxn
       go_wp2_with (at_builtin; refine Stop.out ?_)
       refine Stop.go ?_
       obtain ⟨hi0, hz0, hz1, hz2⟩ := HT3.out
       refine wpList_app _ rfl (.tmp 33) (.tmp 36) 178 rfl w.heap.size 238 i0 _ 3 24 Tryz.underlying178 hi0 hz0 hz1 hz2 rfl (by omega) v0 c xs rfl (own_below HI.out.own (balloc (Below.refl _ _) _)) _ 1 1 [.int .i64 3, .int .i64 i, .int .i64 111] rfl (Src.lit rfl 3 rfl) (by simp [Value.oneCell']) (by unfold maxLen; omega) (by omega) (Nat.le_trans HI.out.below.size (by simp)) ?_
       intro v9 w9 hown hgr
       have HI9 := hide (CI.app (HI.out.next (balloc (Below.refl _ _) _)) hgr hown)
       clear hown hgr hi0 hz0 hz1 hz2 HT3 c1 q1
       go_wp2
       go_roundw
       case rel => exact ⟨i + 1, c + 1, _, by omega, by go_num, by omega, HC', HI9⟩
       case measure => simp [intOf]; omega
      ·have q1 : (x == -1) = false := by simpa using hxn
       have HA' : Hid (∀ a, a < j + 1 → M a i ≠ -1) := hide (fun a ha => by
        by_cases haj : a < j
        ·exact HA.out a haj
        ·obtain rfl : a = j := by omega
         rw [Hx.out]; exact hxn)
       clear hxn
       go_wp2
       go_roundw
       case rel => exact ⟨rfl, j + 1, by omega, by go_num, HA', by trivial⟩
       case measure => simp [intOf]; omega
     ·have hljI : ¬ (j : Int) < (n : Int) := by omega
      have HC' : Hid (c = 0 ↔ ∀ y, y < i + 1 → ∀ a, a < n → M a y ≠ -1) := hide ⟨fun h y hy a ha => by
        by_cases hyi : y < i
        ·exact HC.out.1 h y hyi a ha
        ·obtain rfl : y = i := by omega
         exact HA.out a (by omega), fun h => HC.out.2 (fun y hy => h y (by omega))⟩
      go_wp2
      go_roundw
      case rel => exact ⟨i + 1, c, xs, by omega, by go_num, by omega, HC', HI⟩
      case measure => simp [intOf]; omega
   ·have hltI : ¬ (i : Int) < (n : Int) := by omega
    obtain ⟨p', cap', rfl, _⟩ := own_val HI.out.own
    have HF := hide (HR.out W0 p' c cap' HI.out.below (by
     rw [Hsnd.out, HC.out]
     obtain rfl : i = n := by omega
     unfold reachB
     rw [HM.out, Hn.out]
     simp only [List.all_eq_true, List.mem_range, Bool.not_eq_true', decide_eq_false_iff_not]) (by omega))
    clear HI hlt
    go_wp2
    exact HF.out
theorem zero_iff {n : Nat} {b : Bool} (h : n = 0 ↔ b = true) : (b = true ∧ n = 0) ∨ (b = false ∧ 0 < n) := by
 cases b with
 | true => exact .inl ⟨rfl, h.2 rfl⟩
 | false => exact .inr ⟨rfl, by
   rcases Nat.eq_zero_or_pos n with h0 | h0
   ·have := h.1 h0; cases this
   ·exact h0⟩
end
end Go.Proofs.YtgfhcmidnbahjaaGreatDoor
