/- Calendars: days, minutes, working days. Calendars: whether a day is a working day. Rounds of a range over an iterator: what stays; regions that draw within a round. -/
import Derived.Test.YtgfhcmidnbahjaaGreatDoorJ12
import Derived.Laws.CopyRow
import Derived.Test.YtgfhcmidnbahjaaGreatDoorJ4
import Derived.WalkMore
set_option linter.unusedVariables false
set_option linter.unusedSimpArgs false
namespace Go.Proofs.YtgfhcmidnbahjaaGreatDoor
section
open Go.RowKit
theorem tmod_neg {a b : Int} (h : a < 0) : a.tmod b = -((-a).tmod b) := by
 have := Int.neg_tmod (-a) b
 rw [Int.neg_neg] at this; exact this
theorem tmod_1440 (a : Int) : (0 ≤ a.tmod 1440 → a.tmod 1440 = a % 1440) ∧ (a.tmod 1440 < 0 → a.tmod 1440 + 1440 = a % 1440) ∧ -1440 < a.tmod 1440 ∧ a.tmod 1440 < 1440 := by
 by_cases h : 0 ≤ a
 ·rw [Int.tmod_eq_emod_of_nonneg h]; omega
 ·rw [tmod_neg (by omega), Int.tmod_eq_emod_of_nonneg (show 0 ≤ -a by omega)]; omega
theorem tmod_7 (a : Int) : (0 ≤ a.tmod 7 → a.tmod 7 = a % 7) ∧ (a.tmod 7 < 0 → a.tmod 7 + 7 = a % 7) ∧ -7 < a.tmod 7 ∧ a.tmod 7 < 7 := by
 by_cases h : 0 ≤ a
 ·rw [Int.tmod_eq_emod_of_nonneg h]; omega
 ·rw [tmod_neg (by omega), Int.tmod_eq_emod_of_nonneg (show 0 ≤ -a by omega)]; omega
set_option maxRecDepth 100000 in
theorem rem1440_c (a : Int) (w : World) (R) (h : -9000000000 ≤ a ∧ a ≤ 9000000000) (hR : R (.returned (.int .i64 (a % 1440))) w) : Calls Tryz.prog 279 #[.int .i64 a, .int .i64 1440] w R := by
 have ht := tmod_1440 a
 obtain ⟨r, hr⟩ : ∃ r, a.tmod 1440 = r := ⟨_, rfl⟩
 rw [hr] at ht
 obtain ⟨h1, h2⟩ := h
 by_cases hneg : r < 0
 ·rw [← ht.2.1 hneg] at hR
  have HR := hide hR
  have b1 := ht.2.2.1
  clear hR ht
  go_enter Tryz.func279, Tryz.ntmps279
  go_wp2
  exact HR.out
 ·rw [← ht.1 (by omega)] at hR
  have HR := hide hR
  have b1 := ht.2.2.2
  clear hR ht
  go_enter Tryz.func279, Tryz.ntmps279
  go_wp2
  exact HR.out
set_option maxRecDepth 100000 in
theorem rem7_c (a : Int) (w : World) (R) (h : -9000000000 ≤ a ∧ a ≤ 9000000000) (hR : R (.returned (.int .i64 (a % 7))) w) : Calls Tryz.prog 279 #[.int .i64 a, .int .i64 7] w R := by
 have ht := tmod_7 a
 obtain ⟨r, hr⟩ : ∃ r, a.tmod 7 = r := ⟨_, rfl⟩
 rw [hr] at ht
 obtain ⟨h1, h2⟩ := h
 by_cases hneg : r < 0
 ·rw [← ht.2.1 hneg] at hR
  have HR := hide hR
  have b1 := ht.2.2.1
  clear hR ht
  go_enter Tryz.func279, Tryz.ntmps279
  go_wp2
  exact HR.out
 ·rw [← ht.1 (by omega)] at hR
  have HR := hide hR
  have b1 := ht.2.2.2
  clear hR ht
  go_enter Tryz.func279, Tryz.ntmps279
  go_wp2
  exact HR.out
theorem inRange_c (d : Int) (w : World) (R) (h1 : -1000000 ≤ d) (h2 : d ≤ 1000000) (hR : R (.returned (.bool true)) w) : Calls Tryz.prog 280 #[.int .i64 d] w R := by
 have HR := hide hR
 clear hR
 go_enter Tryz.func280, Tryz.ntmps280
 go_wp2
 exact HR.out
theorem cal_box (c : Cal) (w : World) : ∃ w1, w.alloc (.cells c.cells.toArray 164) = w1 ∧ Below w.heap.size w w1 ∧ Blk w1 w.heap.size c.cells.toArray 164 :=
 ⟨_, rfl, balloc (Below.refl _ _) _, Blk.new _ _ _⟩
set_option maxRecDepth 100000 in
set_option maxHeartbeats 2000000 in
theorem local_c (c : Cal) (t : Int) (w : World) (R) (hC : CalAt w c) (hok : calOk c = true) (h1 : -1000000000 ≤ t) (h2 : t ≤ 1000000000) (hR : ∀ w', Below w.heap.size w w' → R (.returned (.tuple #[.int .i64 (dayOf c t), .int .i64 (minOf c t)])) w') : Calls Tryz.prog 223 #[.agg c.cells.toArray, .int .i64 t] w R := by
 have HR := hide hR; have HC := hide hC
 obtain ⟨w1, hw1, hb1, k1⟩ := cal_box c w
 have HB1 := hide hb1; have HK1 := hide k1; have Hok := hide hok
 have x0 := k1.cell (k := 0) (v := .int .i64 c.zone) rfl; have x1 := k1.cell (k := 1) (v := .slice c.wp c.week.length c.wc) rfl; have x2 := k1.cell (k := 2) (v := .slice c.hp c.hol.length c.hc) rfl
 unfold Cal.cells at hw1 ⊢
 have hz := (calP_of hok).zone
 clear hR hC hb1 k1 hok
 go_enter Tryz.func223, Tryz.ntmps223
 go_wp2_with (go_at_call 227; refine Stop.out ?_)
 refine Stop.go (valid_c c _ _ (HC.out.keep (Keeps.of_below HB1.out)) ?_)
 rw [Hok.out]
 intro w2 hb
 have HB2 := hide (bseq HB1.out hb)
 have y0 := (HK1.out.next hb).cell (k := 0) (v := .int .i64 c.zone) rfl
 clear hb x0 x1 x2 hw1
 obtain ⟨z, hz'⟩ : ∃ z, c.zone = z := ⟨_, rfl⟩
 have HZ := hide hz'
 rw [hz'] at y0 hz
 clear hz'
 obtain ⟨z1, z2⟩ := hz
 go_wp2_with (go_at_call 279; refine Stop.out ?_)
 refine Stop.go (rem1440_c _ _ _ ⟨by omega, by omega⟩ ?_)
 have hm1 : 0 ≤ (t + z) % 1440 := by omega
 have hm2 : (t + z) % 1440 < 1440 := by omega
 have hdv : (t + z - (t + z) % 1440).tdiv 1440 = (t + z) / 1440 := by
  obtain ⟨q, hq⟩ : ∃ q, (t + z) / 1440 = q := ⟨_, rfl⟩
  have e : t + z - (t + z) % 1440 = q * 1440 := by omega
  rw [e, hq]
  exact Int.mul_tdiv_cancel q (by decide)
 have HF := hide (HR.out _ HB2.out)
 unfold dayOf minOf at HF
 rw [HZ.out, ← hdv] at HF
 have b1 : -1000000720 ≤ t + z := by omega
 have b2 : t + z ≤ 1000000840 := by omega
 clear hdv y0
 generalize (t + z) % 1440 = m at *
 generalize t + z = s at *
 go_wp2
 exact HF.out
set_option maxRecDepth 100000 in
set_option maxHeartbeats 2000000 in
theorem time_c (c : Cal) (d m : Int) (w : World) (R) (hC : CalAt w c) (hok : calOk c = true) (h1 : -1000000 ≤ d) (h2 : d ≤ 1000000) (h3 : 0 ≤ m) (h4 : m ≤ 1439) (hR : ∀ w', Below w.heap.size w w' → R (.returned (.int .i64 (timeOf c d m))) w') : Calls Tryz.prog 245 #[.agg c.cells.toArray, .int .i64 d, .int .i64 m] w R := by
 have HR := hide hR; have HC := hide hC
 obtain ⟨w1, hw1, hb1, k1⟩ := cal_box c w
 have HB1 := hide hb1; have HK1 := hide k1; have Hok := hide hok
 have x0 := k1.cell (k := 0) (v := .int .i64 c.zone) rfl; have x1 := k1.cell (k := 1) (v := .slice c.wp c.week.length c.wc) rfl; have x2 := k1.cell (k := 2) (v := .slice c.hp c.hol.length c.hc) rfl
 unfold Cal.cells at hw1 ⊢
 have hz := (calP_of hok).zone
 clear hR hC hb1 k1 hok
 go_enter Tryz.func245, Tryz.ntmps245
 go_wp2_with (go_at_call 227; refine Stop.out ?_)
 refine Stop.go (valid_c c _ _ (HC.out.keep (Keeps.of_below HB1.out)) ?_)
 rw [Hok.out]
 intro w2 hb
 have HB2 := hide (bseq HB1.out hb)
 have y0 := (HK1.out.next hb).cell (k := 0) (v := .int .i64 c.zone) rfl
 clear hb x0 x1 x2 hw1
 have HF := hide (HR.out _ HB2.out)
 unfold timeOf at HF
 obtain ⟨z, hz'⟩ : ∃ z, c.zone = z := ⟨_, rfl⟩
 rw [hz'] at y0 hz HF
 clear hz'
 obtain ⟨z1, z2⟩ := hz
 go_wp2_with (go_at_call 280; refine Stop.out ?_)
 refine Stop.go (inRange_c d _ _ h1 h2 ?_)
 go_wp2
 exact HF.out
theorem undBools : Tryz.prog.underlying 162 = some (.slice 4) := by kernel_rfl
theorem infoB : (Tryz.prog.info? 4).map (·.size) = some 1 := by kernel_rfl
def Cal.wk (c : Cal) : Array Value := (c.week.map Value.bool).toArray
structure WkI (c : Cal) (g : Nat) (W : World) : Prop where
 cal : Blk W g c.cells.toArray 164
 week : Blk W (g + 1) c.wk 331
 data : CalAt W c
theorem WkI.next {c : Cal} {g : Nat} {W W' : World} (h : WkI c g W) (hb : Below W.heap.size W W') : WkI c g W' := ⟨h.cal.next hb, h.week.next hb, h.data.keep (Keeps.of_below hb)⟩
set_option maxRecDepth 100000 in
set_option maxHeartbeats 2000000 in
theorem worker_c (c : Cal) (w : World) (R) (hC : CalAt w c) (hok : calOk c = true)
  (hR : ∀ w', Below w.heap.size w w' → WkI c w.heap.size w' → w'.heap.size = w.heap.size + 2 → R (.returned (.func (.func 332) #[] #[.pointer (some ⟨w.heap.size + 1, 0, none⟩), .pointer (some ⟨w.heap.size, 0, none⟩)])) w') :
  Calls Tryz.prog 323 #[.agg c.cells.toArray] w R := by
 have HR := hide hR
 have h7 := (calP_of hok).week
 obtain ⟨w1, hw1⟩ : ∃ w1, (w.alloc (.cells c.cells.toArray 164)).alloc (.cells #[.bool false, .bool false, .bool false, .bool false, .bool false, .bool false, .bool false] 331) = w1 := ⟨_, rfl⟩
 have hb1 : Below w.heap.size w w1 := hw1 ▸ balloc (balloc (Below.refl _ _) _) _
 have k1 : Blk w1 w.heap.size c.cells.toArray 164 := by rw [← hw1]; exact (Blk.new _ _ _).next (balloc (Below.refl _ _) _)
 have k2 : Blk w1 (w.heap.size + 1) #[.bool false, .bool false, .bool false, .bool false, .bool false, .bool false, .bool false] 331 := by rw [← hw1]; exact Blk.new_at (by simp)
 have hsz1 : w1.heap.size = w.heap.size + 2 := by rw [← hw1]; simp
 have HI := hide (show Blk w1.drew w.heap.size c.cells.toArray 164 ∧ Blk w1.drew (w.heap.size + 1) #[.bool false, .bool false, .bool false, .bool false, .bool false, .bool false, .bool false] 331 ∧ CalAt w1.drew c ∧ Below w.heap.size w w1.drew ∧ w1.drew.heap.size = w.heap.size + 2 from ⟨k1, k2, hC.keep ((Keeps.of_below hb1).trans (Keeps.drew _)), hb1.drew, hsz1⟩)
 have x1 := k1.cell (k := 1) (v := .slice c.wp c.week.length c.wc) rfl
 obtain ⟨b, o, _, hp, _, _⟩ := hC.week.bool (i := 0) (by omega)
 rw [hp, h7] at x1
 have hcp : Sem.run Tryz.prog (Builtin.copy_ #[162, 162] 3 #[.slice (some ⟨w.heap.size + 1, 0, none⟩) 7 7, .slice (some ⟨b, o, none⟩) 7 c.wc]) w1.drew = .ok (goInt 7) (w1.drew.setRow (w.heap.size + 1) c.wk) := by
  have := run_copy_row Tryz.prog w1.drew 162 162 3 4 (w.heap.size + 1) 0 7 7 ⟨b, o, none⟩ 7 c.wc #[.bool false, .bool false, .bool false, .bool false, .bool false, .bool false, .bool false] 331 (c.week.map Value.bool) undBools infoB HI.out.2.1 (by rw [List.length_map, h7]; rfl)
   (fun j v hv => by
    rw [List.getElem?_map] at hv
    obtain ⟨x, hx, rfl⟩ := Option.map_eq_some_iff.1 hv
    rw [Addr.add_lit]
    have hj := (List.getElem?_eq_some_iff.1 hx).1
    obtain ⟨b', o', x', hp', hx', hc'⟩ := HI.out.2.2.1.week.bool (i := j) hj
    rw [hp] at hp'; injection hp' with hp'; injection hp' with e1 e2; subst e1; subst e2
    rw [hx] at hx'; injection hx' with hx'; subst hx'
    exact hc') (by rw [List.length_map, h7]; decide) (fun v hv => by obtain ⟨x, _, rfl⟩ := List.mem_map.1 hv; rfl)
  rw [this, List.length_map, h7]
  simp [Cal.wk]
 have hb := below_setRow (Below.refl (w.heap.size + 1) w1.drew) (Nat.le_refl _) c.wk
 have HF := hide (HR.out _ (HI.out.2.2.2.1.trans (hb.mono (Nat.le_succ _))) ⟨HI.out.1.same (hb.block _ (Nat.lt_succ_self _)), setRow_heap w1.drew _ _ _ 331 (0, 0) HI.out.2.1, hC.keep (Keeps.of_below (HI.out.2.2.2.1.trans (hb.mono (Nat.le_succ _))))⟩ (by rw [← HI.out.2.2.2.2]; simp [World.setRow]))
 unfold Cal.cells at hw1 ⊢
 clear hR hC hb1 k1 k2 hb hp h7 hok hsz1
 go_enter Tryz.func323, Tryz.ntmps323
 go_wp2
 clear hw1
 go_still_tail 3, (by kernel_rfl)
 change wpList _ _ _ _ _ w1.drew
 go_wp2
 exact HF.out
end
section
open Go.RowKit
structure Cut (l : List Int) (d : Int) (i j : Nat) : Prop where
 le : i ≤ j
 top : j ≤ l.length
 low : i = 0 ∨ ∃ x, l[i - 1]? = some x ∧ x < d
 high : j = l.length ∨ ∃ x, l[j]? = some x ∧ d ≤ x
theorem incr_lt {l : List Int} (h : incr l = true) : ∀ (k i : Nat) (x y : Int), l[i]? = some x → l[i + k + 1]? = some y → x < y
 | 0, i, x, y, hx, hy => incr_spec.1 h i x y hx hy
 | k + 1, i, x, y, hx, hy => by
  have hlt : i + k + 1 < l.length := by have := (List.getElem?_eq_some_iff.1 hy).1; omega
  obtain ⟨z, hz⟩ : ∃ z, l[i + k + 1]? = some z := ⟨_, List.getElem?_eq_getElem hlt⟩
  have h1 := incr_lt h k i x z hx hz
  have h2 := incr_spec.1 h (i + k + 1) z y hz hy
  omega
theorem incr_mono {l : List Int} (h : incr l = true) {i j : Nat} {x y : Int} (hx : l[i]? = some x) (hy : l[j]? = some y) (hij : i < j) : x < y := by
 have := incr_lt h (j - i - 1) i x y hx (by rw [show i + (j - i - 1) + 1 = j by omega]; exact hy)
 exact this
theorem cut_mem {l : List Int} {d : Int} {r : Nat} (hi : incr l = true) (h : Cut l d r r) : d ∈ l ↔ l[r]? = some d := by
 constructor
 ·intro hd
  obtain ⟨j, hj⟩ := List.getElem?_of_mem hd
  have hjl := (List.getElem?_eq_some_iff.1 hj).1
  rcases Nat.lt_trichotomy j r with hlt | rfl | hgt
  ·rcases h.low with h0 | ⟨x, hx, hxd⟩
   ·omega
   ·by_cases e : j = r - 1
    ·subst e; rw [hj] at hx; injection hx with hx; omega
    ·have := incr_mono hi hj hx (by omega); omega
  ·exact hj
  ·rcases h.high with h0 | ⟨x, hx, hxd⟩
   ·omega
   ·have := incr_mono hi hx hj hgt; omega
 ·exact fun h => List.mem_of_getElem? h
structure HgI (c : Cal) (d : Int) (g gd : Nat) (W : World) : Prop where
 wk : WkI c g W
 day : Blk W gd #[.int .i64 d] 3
theorem HgI.next {c : Cal} {d : Int} {g gd : Nat} {W W' : World} (h : HgI c d g gd W) (hb : Below W.heap.size W W') : HgI c d g gd W' := ⟨h.wk.next hb, h.day.next hb⟩
set_option maxRecDepth 100000 in
theorem hge_c (c : Cal) (d : Int) (g gd i : Nat) (x : Int) (t : Bool) (w : World) (R) (h : HgI c d g gd w) (hl : c.hol.length ≤ 40) (hx : c.hol[i]? = some x) (ht : decide (d ≤ x) = t) (hR : ∀ w', Dr w w' → R (.returned (.bool t)) w') :
  Calls Tryz.prog 334 #[.int .i64 (i : Int), .pointer (some ⟨g, 0, none⟩), .pointer (some ⟨gd, 0, none⟩)] w R := by
 have HR := hide hR
 have hi := (List.getElem?_eq_some_iff.1 hx).1
 obtain ⟨b, o, y, hp, hy, c0⟩ := h.wk.data.hol.at_ hi
 rw [hx] at hy; injection hy with hy; subst hy
 have x2 := h.wk.cal.cell (k := 2) (v := .slice c.hp c.hol.length c.hc) rfl
 have x3 := h.day.cell (k := 0) (v := .int .i64 d) rfl
 rw [hp] at x2
 obtain ⟨n, hn⟩ : ∃ n, c.hol.length = n := ⟨_, rfl⟩
 rw [hn] at x2 hi hl
 have q1 : (0 : Int) ≤ (i : Int) := by omega
 have q2 : (i : Int) < (n : Int) := by omega
 clear hR h hx hp hn
 cases t with
 | true =>
  have q3 : d ≤ x := of_decide_eq_true ht
  clear ht
  go_enter Tryz.func334, Tryz.ntmps334
  go_wp2
  go_quiet (fail)
  go_wp2
  exact HR.out _ (Dr.one _ _)
 | false =>
  have q3 : ¬ d ≤ x := of_decide_eq_false ht
  have q4 : x < d := by omega
  have q5 : decide (d ≤ x) = false := ht
  clear ht q3
  go_enter Tryz.func334, Tryz.ntmps334
  go_wp2
  go_quiet (fail)
  go_wp2
  exact HR.out _ (Dr.one _ _)
set_option maxHeartbeats 1000000 in
theorem search_c (c : Cal) (d : Int) (g gd : Nat) (w : World) (R) (h : HgI c d g gd w) (hl : c.hol.length ≤ 40)
  (hR : ∀ r w', Below w.heap.size w w' → Cut c.hol d r r → R (.returned (.int .i64 (r : Int))) w') :
  Calls Tryz.prog 333 #[.int .i64 (c.hol.length : Int), .func (.func 334) #[] #[.pointer (some ⟨g, 0, none⟩), .pointer (some ⟨gd, 0, none⟩)]] w R := by
 have HR := hide hR; have H := hide h
 clear hR h
 go_enter Tryz.func333, Tryz.ntmps333
 go_wp2
 go_loopw [5, 6] (fun s5 s6 wr => ∃ i j : Nat, s5 = .int .i64 i ∧ s6 = .int .i64 j ∧ Hid (Cut c.hol d i j) ∧ Hid (Below w.heap.size w wr)) (fun s5 s6 _ => (intOf s6).toNat - (intOf s5).toNat)
 case atStart => exact ⟨0, c.hol.length, rfl, rfl, hide ⟨Nat.zero_le _, Nat.le_refl _, .inl rfl, .inl rfl⟩, hide (Below.refl _ _)⟩
 case round =>
  obtain ⟨i, j, rfl, rfl, HC, HB⟩ := hrel
  by_cases hlt : i < j
  ·have hjt := HC.out.top
   have em : ((i : Int) + (j : Int)) / 2 = (((i + j) / 2 : Nat) : Int) := by omega
   obtain ⟨m, hm⟩ : ∃ m, (i + j) / 2 = m := ⟨_, rfl⟩
   rw [hm] at em
   have m1 : i ≤ m := by omega
   have m2 : m < j := by omega
   obtain ⟨x, hx⟩ : ∃ x, c.hol[m]? = some x := ⟨_, List.getElem?_eq_getElem (by omega)⟩
   have Hx := hide hx
   clear hx
   cases hv : decide (d ≤ x) with
   | true =>
    have HC2 := hide (show Cut c.hol d i m from ⟨m1, by omega, HC.out.low, .inr ⟨x, Hx.out, of_decide_eq_true hv⟩⟩)
    have Hv := hide hv
    clear hv
    go_wp2_with (go_at_call 334; rw [em]; refine Stop.out ?_)
    refine Stop.go (hge_c c d g gd m x true _ _ (H.out.next HB.out) hl Hx.out Hv.out ?_)
    intro w2 hd
    have HB2 := hide (bseq HB.out hd.below)
    clear hd
    go_wp2
    go_roundw
    case rel => exact ⟨i, m, rfl, rfl, HC2, HB2⟩
    case measure => simp [intOf]; omega
   | false =>
    have HC2 := hide (show Cut c.hol d (m + 1) j from ⟨m2, HC.out.top, .inr ⟨x, Hx.out, by have := of_decide_eq_false hv; omega⟩, HC.out.high⟩)
    have Hv := hide hv
    clear hv
    go_wp2_with (go_at_call 334; rw [em]; refine Stop.out ?_)
    refine Stop.go (hge_c c d g gd m x false _ _ (H.out.next HB.out) hl Hx.out Hv.out ?_)
    intro w2 hd
    have HB2 := hide (bseq HB.out hd.below)
    clear hd
    go_wp2
    go_roundw
    case rel => exact ⟨m + 1, j, by go_num, rfl, HC2, HB2⟩
    case measure => simp [intOf]; omega
  ·obtain rfl : i = j := by have := HC.out.le; omega
   go_wp2
   exact HR.out _ _ HB.out HC.out
set_option maxRecDepth 100000 in
set_option maxHeartbeats 4000000 in
theorem wk_c (c : Cal) (d : Int) (g : Nat) (w : World) (R) (h : WkI c g w) (hok : calOk c = true) (h1 : -2000000 ≤ d) (h2 : d ≤ 2000000) (hR : ∀ w', Below w.heap.size w w' → R (.returned (.bool (workB c d))) w') :
  Calls Tryz.prog 332 #[.int .i64 d, .pointer (some ⟨g + 1, 0, none⟩), .pointer (some ⟨g, 0, none⟩)] w R := by
 have HR := hide hR
 obtain ⟨w1, hw1⟩ : ∃ w1, w.alloc (.cells #[.int .i64 d] 3) = w1 := ⟨_, rfl⟩
 have hb1 : Below w.heap.size w w1 := hw1 ▸ balloc (Below.refl _ _) _
 have HB1 := hide hb1
 have HI := hide (show HgI c d g w.heap.size w1 from ⟨h.next hb1, hw1 ▸ Blk.new _ _ _⟩)
 have hP := calP_of hok
 have HP := hide hP
 obtain ⟨m, hm⟩ : ∃ m : Nat, d % 7 = (m : Int) := ⟨(d % 7).toNat, by omega⟩
 have hm7 : m < 7 := by omega
 have Hm := hide hm
 obtain ⟨b, hb⟩ : ∃ b, c.week[m]? = some b := ⟨_, List.getElem?_eq_getElem (by rw [hP.week]; exact hm7)⟩
 have hwb : workB c d = (b && !c.hol.contains d) := by
  unfold workB; rw [show (d % 7).toNat = m by omega, getD_some hb]
 have Hwb := hide hwb
 have y0 := HI.out.wk.week.cell (k := m) (v := .bool b) (by unfold Cal.wk; rw [List.getElem?_toArray, List.getElem?_map, hb]; rfl)
 have x0 := HI.out.day.cell (k := 0) (v := .int .i64 d) rfl
 have hl40 := hP.hol
 clear hR h hb1 hP hm hb hwb hok
 have q1 : (0 : Int) ≤ (m : Int) := by omega
 have q2 : (m : Int) < 7 := by omega
 cases b with
 | false =>
  have HF := hide (HR.out _ HB1.out)
  rw [Hwb.out] at HF
  simp only [Bool.false_and] at HF
  go_enter Tryz.func332, Tryz.ntmps332
  go_wp2_with (go_at_call 279; refine Stop.out ?_)
  refine Stop.go (rem7_c _ _ _ ⟨by omega, by omega⟩ ?_)
  rw [Hm.out]
  go_wp2
  exact HF.out
 | true =>
  obtain ⟨n, hn⟩ : ∃ n, c.hol.length = n := ⟨_, rfl⟩
  have Hn := hide hn
  have x2 := HI.out.wk.cal.cell (k := 2) (v := .slice c.hp c.hol.length c.hc) rfl
  rw [hn] at x2 hl40
  clear hn
  go_enter Tryz.func332, Tryz.ntmps332
  go_wp2_with (go_at_call 279; refine Stop.out ?_)
  refine Stop.go (rem7_c _ _ _ ⟨by omega, by omega⟩ ?_)
  rw [Hm.out]
  go_wp2_with (go_at_call 333; refine Stop.out ?_)
  rw [← Hn.out]
  refine Stop.go (search_c c d g w.heap.size _ _ HI.out (by rw [Hn.out]; exact hl40) ?_)
  rw [Hn.out]
  intro r w2 hb hc
  have HC := hide hc
  have HI2 := hide (HI.out.next hb)
  have HB2 := hide (bseq HB1.out hb)
  have hrn : r ≤ n := by rw [← Hn.out]; exact hc.top
  clear hb hc x2 y0 x0 hw1
  have x2 := HI2.out.wk.cal.cell (k := 2) (v := .slice c.hp c.hol.length c.hc) rfl
  have x3 := HI2.out.day.cell (k := 0) (v := .int .i64 d) rfl
  rw [Hn.out] at x2
  by_cases hr : r = n
  ·have hnot : c.hol.contains d = false := by
    cases hh : c.hol.contains d with
    | false => rfl
    | true =>
     have := (cut_mem HP.out.inc HC.out).1 (by simpa using hh)
     rw [List.getElem?_eq_none (by rw [Hn.out]; omega)] at this; cases this
   have HF : Hid (∀ k, R (.returned (.bool true)) (w2.drewN k)) := hide (fun k => by
    have := HR.out _ (below_drewN' HB2.out k)
    rw [Hwb.out, hnot] at this; exact this)
   have t1 : ((r : Int) == (n : Int)) = true := by simp; omega
   clear hr hnot
   go_wp2
   go_quiet (fail)
   go_wp2
   exact HF.out _
  ·obtain ⟨b, o, x, hp, hx, c0⟩ := HI2.out.wk.data.hol.at_ (i := r) (by rw [Hn.out]; omega)
   rw [hp] at x2
   have hmem := cut_mem HP.out.inc HC.out
   rw [hx] at hmem
   have t1 : ((r : Int) == (n : Int)) = false := by simp; omega
   have q3 : (0 : Int) ≤ (r : Int) := by omega
   have q4 : (r : Int) < (n : Int) := by omega
   by_cases hxd : x = d
   ·have hyes : c.hol.contains d = true := by rw [List.contains_iff_mem]; exact hmem.2 (by rw [hxd])
    have HF : Hid (∀ k, R (.returned (.bool false)) (w2.drewN k)) := hide (fun k => by
     have := HR.out _ (below_drewN' HB2.out k)
     rw [Hwb.out, hyes] at this; exact this)
    have t2 : (x == d) = true := by simpa using hxd
    have t3 : (x != d) = false := by simpa using hxd
    clear hr hyes hmem hx hp hxd
    go_wp2
    go_quiet (fail)
    go_wp2
    exact HF.out _
   ·have hnot : c.hol.contains d = false := by
     cases hh : c.hol.contains d with
     | false => rfl
     | true =>
      have := hmem.1 (by simpa using hh)
      injection this with this; exact absurd this hxd
    have HF : Hid (∀ k, R (.returned (.bool true)) (w2.drewN k)) := hide (fun k => by
     have := HR.out _ (below_drewN' HB2.out k)
     rw [Hwb.out, hnot] at this; exact this)
    have t2 : (x == d) = false := by simpa using hxd
    have t3 : (x != d) = true := by simpa using hxd
    clear hr hnot hmem hx hp hxd
    go_wp2
    go_quiet (fail)
    go_wp2
    exact HF.out _
set_option maxRecDepth 100000 in
set_option maxHeartbeats 2000000 in
theorem work_c (c : Cal) (d : Int) (w : World) (R) (hC : CalAt w c) (hok : calOk c = true) (h1 : -1000000 ≤ d) (h2 : d ≤ 1000000) (hR : ∀ w', Below w.heap.size w w' → R (.returned (.bool (workB c d))) w') : Calls Tryz.prog 306 #[.agg c.cells.toArray, .int .i64 d] w R := by
 have HR := hide hR; have HC := hide hC
 obtain ⟨w1, hw1, hb1, k1⟩ := cal_box c w
 have HB1 := hide hb1; have HK1 := hide k1; have Hok := hide hok
 have x0 := k1.cell (k := 0) (v := .int .i64 c.zone) rfl; have x1 := k1.cell (k := 1) (v := .slice c.wp c.week.length c.wc) rfl; have x2 := k1.cell (k := 2) (v := .slice c.hp c.hol.length c.hc) rfl
 unfold Cal.cells at hw1 ⊢
 clear hR hC hb1 k1 hok
 go_enter Tryz.func306, Tryz.ntmps306
 go_wp2_with (go_at_call 227; refine Stop.out ?_)
 refine Stop.go (valid_c c _ _ (HC.out.keep (Keeps.of_below HB1.out)) ?_)
 rw [Hok.out]
 intro w2 hb
 have HB2 := hide (bseq HB1.out hb)
 have k2 := HK1.out.next hb
 clear hb x0 x1 x2 hw1
 have x0 := k2.cell (k := 0) (v := .int .i64 c.zone) rfl; have x1 := k2.cell (k := 1) (v := .slice c.wp c.week.length c.wc) rfl; have x2 := k2.cell (k := 2) (v := .slice c.hp c.hol.length c.hc) rfl
 clear k2
 go_wp2_with (go_at_call 280; refine Stop.out ?_)
 refine Stop.go (inRange_c d _ _ h1 h2 ?_)
 go_wp2_with (go_at_call 323; refine Stop.out ?_)
 refine Stop.go (worker_c c _ _ (HC.out.keep (Keeps.of_below HB2.out)) Hok.out ?_)
 intro w3 hb hW _
 have HB3 := hide (bseq HB2.out hb)
 have HW := hide hW
 clear hb hW x0 x1 x2
 go_wp2_with (go_at_call 332; refine Stop.out ?_)
 refine Stop.go (wk_c c d _ _ _ HW.out Hok.out (by omega) (by omega) ?_)
 intro w4 hb
 have HF := hide (HR.out _ (bseq HB3.out hb))
 clear hb
 generalize workB c d = bb at *
 go_wp2
 exact HF.out
end
section
open Go.RowKit
abbrev OwnR (W W' : World) (B : Nat) (row : Option Nat) : Prop := W.grownBy W' row ∧ ∀ r, row = some r → B ≤ r ∧ ∃ o : Obj, W.heap[r]? = some o ∧ o.isCells = false
theorem keeps_own {W W' : World} {row : Option Nat} {B : Nat} (hg : W.grownBy W' row) (hr : ∀ r, row = some r → B ≤ r ∧ ∃ o : Obj, W.heap[r]? = some o ∧ o.isCells = false) : Keeps W W' := fun a v h => by
 refine (World.cell?_of_block (hg.block a.block (block_lt h) (fun e => ?_))).trans h
 obtain ⟨_, o, ho, hc⟩ := hr a.block e.symm
 unfold World.cell? at h
 rw [ho] at h
 cases o <;> simp_all [Obj.isCells]
theorem Blk.own {W W' : World} {row : Option Nat} {B k : Nat} {cs : Array Value} {t : TypeId} (hk : Blk W k cs t) (hg : W.grownBy W' row) (hr : ∀ r, row = some r → B ≤ r ∧ ∃ o : Obj, W.heap[r]? = some o ∧ o.isCells = false) : Blk W' k cs t := by
 refine hk.same (hg.block k hk.lt ?_)
 intro e
 obtain ⟨_, o, ho, hc⟩ := hr k e.symm
 have hk' : W.heap[k]? = some (.cells cs t (0, 0)) := hk
 rw [hk'] at ho
 injection ho with ho
 subst ho
 exact absurd hc (by simp [Obj.isCells])
theorem below_own {w W W' : World} {row : Option Nat} {B : Nat} (h : Below w.heap.size w W) (hB : w.heap.size ≤ B) (hg : W.grownBy W' row) (hr : ∀ r, row = some r → B ≤ r ∧ ∃ o : Obj, W.heap[r]? = some o ∧ o.isCells = false) : Below w.heap.size w W' :=
 h.grown hg h.size (fun k e => Nat.le_trans hB (hr k e).1)
theorem Bump.own {B : Nat} {W W' : World} (h : Bump B W W') : ∃ row, W.grownBy W' row ∧ ∀ r, row = some r → B ≤ r ∧ ∃ o : Obj, W.heap[r]? = some o ∧ o.isCells = false := by
 obtain ⟨r, o, h1, h2, h3, h4⟩ := h
 exact ⟨some r, h4, fun r' e => by cases e; exact ⟨h1, o, h2, h3⟩⟩
theorem Bump.keeps {B : Nat} {W W' : World} (h : Bump B W W') : Keeps W W' := by obtain ⟨row, hg, hr⟩ := h.own; exact keeps_own hg hr
theorem kfrom_below {B : Nat} {W W' : World} (h : Below W.heap.size W W') : KeepsFrom B W W' := KeepsFrom.of_grownBy (grown_of_below h) (fun j e => by cases e)
theorem kfrom_set {B : Nat} (W : World) (a : Addr) (v : Value) : KeepsFrom B W (W.setCell a v) := (KeepsOthers.setCell _ _ _).from _
theorem kpb_below {bad : World → Nat → Prop} {W W' : World} (h : Below W.heap.size W W') (hb : ∀ k, bad W' k → bad W k) : Kpb bad W W' := ⟨h.size, fun k hk hn => ⟨h.block k hk, fun e => hn (hb k e)⟩⟩
theorem kpb_set {g : Nat} (W : World) (i : Nat) (v : Value) {bad : World → Nat → Prop} (hg : bad W g) (hb : ∀ k, bad (W.setCell ⟨g, i, none⟩ v) k → bad W k) : Kpb bad W (W.setCell ⟨g, i, none⟩ v) :=
 ⟨by simp [World.setCell], fun k hk hn => ⟨Below.heap_setCell _ _ _ _ (fun e => hn (by rw [e]; exact hg)), fun e => hn (hb k e)⟩⟩
def noDefer (ops : Array Oper) : Bool := ops.all fun o => match o.op with | .defer _ => false | _ => true
theorem noDefer_spec {ops : Array Oper} (h : noDefer ops = true) {i : Nat} {o : Oper} (hi : ops[i]? = some o) : ∀ c, o.op ≠ .defer c := fun c e => by
 unfold noDefer at h
 rw [Array.all_eq_true_iff_forall_mem] at h
 have := h o (Array.mem_of_getElem? hi)
 rw [e] at this
 simp at this
theorem uponIn_of_upon {l n : Nat} {P : Program} {o : Oper} {a : Act} {K : Act → World → Prop} {Q : Exit → Act → World → Prop} {r : Result Next} (h : o.upon P a K Q r) : o.uponIn (Fence.wide.inRound l) n P a K Q r := by
 cases r with
 | ok x w' =>
  cases x with
  | value v => exact h
  | skip => exact h
  | defer d => exact h
  | enter f args => exact ⟨(fun hh => by cases hh), CallsIn.inRound l (callsIn_wide.2 h)⟩
  | row row args => exact ⟨(fun hh => by cases hh), fun c cs _ => let ⟨v, w', r, s⟩ := h c cs; ⟨v, w', r, stepsIn_wide.2 s⟩⟩
  | _ => exact h.elim
 | halt x w' =>
  cases x with
  | panic v => exact h
  | _ => exact h.elim
theorem wpAnyIn_of_wpAny {l n : Nat} {P : Program} {md : Region.Mode} {ops : Array Oper} {Q : Exit → Act → World → Prop} (hd : noDefer ops = true) (hno : ∀ a w, ¬ Q .outgrown a w) :
  ∀ (fuel : Nat) (listed : Array Bool) (a : Act) (w : World), wpAny P md ops Q fuel listed a w → wpAnyIn (Fence.wide.inRound l) n P md ops Q fuel listed a w
 | 0, _, _, _, h => h
 | fuel + 1, listed, a, w, h => ⟨h.1, fun i hi => by
  have h2 := h.2 i hi
  unfold wpOp at h2
  unfold wpOpIn
  cases ho : ops[i]? with
  | none => rw [ho] at h2; exact wpAnyIn_of_wpAny hd hno fuel _ _ _ h2
  | some o =>
   rw [ho] at h2
   simp only at h2 ⊢
   by_cases hw : Region.wanted o (yielded ops a.tmps) = true
   ·rw [if_pos hw] at h2 ⊢
    refine Oper.wpIn_mono (fun a' w' h' => wpAnyIn_of_wpAny hd hno fuel _ a' w' h') ⟨fun _ _ => trivial, ?_⟩
    rw [Oper.semAt_plain _ _ _ (noDefer_spec hd ho)]
    rcases h2 with h2 | ⟨_, a0, w0, hq⟩
    ·exact uponIn_of_upon h2
    ·exact (hno a0 w0 hq).elim
   ·rw [if_neg hw] at h2 ⊢
    exact ⟨fun _ _ => trivial, wpAnyIn_of_wpAny hd hno fuel _ _ _ h2⟩⟩
theorem rnd_any {l n : Nat} {P : Program} {ops : Array Oper} {Q : Exit → Act → World → Prop} {id : Nat} {a : Act} {w : World} (hm : P.follows .mixedOrders = true) (hd : noDefer ops = true) (hno : ∀ a w, ¬ Q .outgrown a w)
  (h : wpAny P .any ops Q ops.size (Array.replicate ops.size false) a w.drew) : (Code.region id ops true).wpIn (Fence.wide.inRound l) n P Q a w :=
 wpIn_region_any hm (wpAnyIn_of_wpAny hd hno _ _ _ _ h)
theorem rnd_still_tail {l' n' : Nat} {P : Program} {id : Nat} {Q : Exit → Act → World → Prop} {a : Act} {w : World} {l : List Oper} (n : Nat) (hm : P.follows .mixedOrders = true) (hd : noDefer l.toArray = true) (hno : ∀ a w, ¬ Q .outgrown a w) (hB : Region.lexTailB .any l.toArray n = true)
  (h : wpStill P l.toArray w.drew (fun a' => wpList P l.toArray Q (l.drop n) a' w.drew) (l.take n) a) : (Code.region id l.toArray true).wpIn (Fence.wide.inRound l') n' P Q a w := by
 simp only [Region.lexTailB, Bool.and_eq_true, decide_eq_true_eq] at hB
 obtain ⟨⟨⟨⟨hsel, hn⟩, hs⟩, hc⟩, hlex⟩ := hB
 have hn' : n < l.length := by simpa using hn
 have htl : (l.take n).length = n := by simp; omega
 have hdl : (l.drop n).length = l.toArray.size - n := by simp
 have inv0 : HeadInv .any l.toArray n (Array.replicate l.toArray.size false) :=
  ⟨by simp, fun j oj _ hl => (by rw [getD_replicate_false] at hl; cases hl), fun t _ ht => getD_in (by simpa using ht) (getD_replicate_false _ _)⟩
 have H := wpAnyL_lex (md := .any) (g := l.toArray.size - n) hsel hs hc hn (l.take n) 0 _ a (fun j hj => by
  have hj' : j < n := by rw [htl] at hj; exact hj
  simp [hj']) (by simpa using htl) inv0 (by rw [htl]; exact hlex) h
 refine rnd_any hm hd hno ?_
 have := wpAny_of_head (Q' := Q) (g := l.toArray.size - n) (fun listed a' hL => by
  have := wpAny_of_seq (md := .any) (Q' := Q) (l.drop n) n listed a' w.drew (fun j => by simp [List.getElem?_drop]) (by rw [hdl]; exact hL.1) hL.2
  rwa [hdl] at this) _ _ _ H
 rw [htl, show n + (l.toArray.size - n) = l.toArray.size by omega] at this
 exact this
theorem rnd_held {l n : Nat} {P : Program} {ops : Array Oper} {Q : Exit → Act → World → Prop} {S : World → Prop} {id : Nat} {a : Act} {w : World} (hm : P.follows .mixedOrders = true) (hd : noDefer ops = true) (hno : ∀ a w, ¬ Q .outgrown a w)
  (h : wpAnyH P .any ops Q S ops.size (Array.replicate ops.size false) a w.drew) : (Code.region id ops true).wpIn (Fence.wide.inRound l) n P Q a w :=
 rnd_any hm hd hno (wpAny_of_held _ _ _ _ h)
end
end Go.Proofs.YtgfhcmidnbahjaaGreatDoor
