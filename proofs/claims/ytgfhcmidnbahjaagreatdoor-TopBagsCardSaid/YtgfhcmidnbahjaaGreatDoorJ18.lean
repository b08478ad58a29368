/- Routing: costs. Promise: an office's calendar; when an item is ready. Promise: the first departure of a line. Promise: must, demand. Promise: the way of an item: the state of the walk. -/
import Derived.Test.YtgfhcmidnbahjaaGreatDoorJ17
import Derived.Test.YtgfhcmidnbahjaaGreatDoorJ15
import Derived.Deep.RegionHeld3
import Derived.Test.YtgfhcmidnbahjaaGreatDoorJ5
set_option linter.unusedVariables false
set_option linter.unusedSimpArgs false
namespace Go.Proofs.YtgfhcmidnbahjaaGreatDoor
section
open Go.RowKit Go.Shelf
def RwI (g n : Nat) (f : Nat → Int) (k : Nat) (W : World) : Prop := ∃ cs, Blk W g cs 3 ∧ cs.size = n ∧ ∀ j, j < k → cs[j]? = some (.int .i64 (f j))
section
variable {g n k : Nat} {f : Nat → Int} {W W' : World}
theorem RwI.next (h : RwI g n f k W) (hb : Below W.heap.size W W') : RwI g n f k W' := by
 obtain ⟨cs, h1, h2, h3⟩ := h
 exact ⟨cs, h1.next hb, h2, h3⟩
theorem RwI.here (h : RwI g n f k W) {j : Nat} (hj : j < n) : (∃ v, W.cell? ⟨g, j, none⟩ = some v) ∧ W.frozen? ⟨g, j, none⟩ = false := by
 obtain ⟨cs, h1, h2, h3⟩ := h
 exact ⟨⟨_, h1.cell (Array.getElem?_eq_getElem (by omega))⟩, h1.free j⟩
theorem RwI.put (h : RwI g n f k W) (hk : k < n) {x : Int} (hx : x = f k) : RwI g n f (k + 1) (W.setCell ⟨g, k, none⟩ (.int .i64 x)) := by
 subst hx
 obtain ⟨cs, h1, h2, h3⟩ := h
 refine ⟨cs.setIfInBounds k (.int .i64 (f k)), h1.set k _, by simpa using h2, fun j hj => ?_⟩
 rw [Array.getElem?_setIfInBounds]
 by_cases e : k = j
 ·subst e; rw [if_pos rfl, if_pos (by omega)]
 ·rw [if_neg e]; exact h3 j (by omega)
theorem RwI.row (h : RwI g n f n W) : RowAt W g 0 n f := fun j hj => by
 obtain ⟨cs, h1, h2, h3⟩ := h
 rw [Nat.zero_add]; exact h1.cell (h3 j hj)
end
theorem cost_eq {N : Net} {i s k : Nat} {l : Lin} {o : Off} {c : Cal} (hX : LinX N i s k l o c) (fr till : Int) : costF N fr till i = match waitF c l.at_ till (till - fr).toNat fr 0 with
 | none => noneI
 | some w => w + l.travel + (offOf N l.dst).passes * (offOf N l.dst).minutes := by
 unfold costF
 rw [hX.calOf', hX.linOf]
 rfl
theorem mul_small {a b : Int} (h1 : 1 ≤ a) (h2 : a ≤ 4) (h3 : 1 ≤ b) (h4 : b ≤ 240) : 1 ≤ a * b ∧ a * b ≤ 960 := by
 have : a = 1 ∨ a = 2 ∨ a = 3 ∨ a = 4 := by omega
 rcases this with rfl | rfl | rfl | rfl <;> omega
theorem cost_range {N : Net} (h : Snd N) {fr till : Int} {i : Nat} (hi : i < N.lins.length) (h86 : till ≤ fr + 86400) (h0 : 0 ≤ fr) : costF N fr till i = noneI ∨ (2 ≤ costF N fr till i ∧ costF N fr till i ≤ 100000) := by
 by_cases hc : costF N fr till i = noneI
 ·exact .inl hc
 ·right
  refine ⟨cost_pos h hi hc, ?_⟩
  obtain ⟨s, k, l, o, c, hX, _, _⟩ := h.linX hi
  rw [cost_eq hX] at hc ⊢
  have hw : ∀ (j : Nat) (t m w : Int), m ≤ 86400 → waitF c l.at_ till j t m = some w → w ≤ 86400 := by
   intro j
   induction j with
   | zero => intro t m w hm hw; simp only [waitF, Option.some.injEq] at hw; omega
   | succ j ih =>
    intro t m w hm hw
    by_cases ht : t < till
    ·cases hl : leaveF c l.at_ t with
     | none => rw [waitF_none ht hl] at hw; cases hw
     | some x =>
      rw [waitF_step ht hl] at hw
      have := leaveF_near hl
      exact ih _ _ _ (by omega) hw
    ·rw [waitF_end (by omega)] at hw; injection hw with hw; omega
  cases hW : waitF c l.at_ till (till - fr).toNat fr 0 with
  | none => rw [hW] at hc; exact absurd rfl hc
  | some w =>
   have h1 := hw _ _ _ _ (by decide) hW
   have hP := linP_of (h.lin i hi)
   rw [getD_some hX.lin] at hP
   have hO := h.offP (o := l.dst) hP.dst.1 hP.dst.2
   have h2 := mul_small hO.passes.1 hO.passes.2 hO.minutes.1 hO.minutes.2
   have h3 := hP.travel
   simp only []
   omega
set_option maxRecDepth 100000 in
set_option maxHeartbeats 4000000 in
theorem costs_c (N : Net) (fr till : Int) (w : World) (R) (hk : KwAt w) (hN : NetAt w N) (hS : soundB N = true) (h1 : 0 ≤ fr) (h2 : fr < till) (h3 : till ≤ 2000000) (h4 : till ≤ fr + 86400)
  (hR : ∀ w' g, Below w.heap.size w w' → RowAt w' g 0 N.lins.length (costF N fr till) → R (.returned (.slice (some ⟨g, 0, none⟩) N.lins.length N.lins.length)) w') :
  Calls Tryz.prog 67 #[.agg N.cells, .int .i64 fr, .int .i64 till] w R := by
 have HR := hide hR; have Hkw := hide hk; have HN := hide hN; have HS := hide hS
 have hsnd := snd_of hS
 have HSnd := hide hsnd
 obtain ⟨w1, hw1, hb1, k1, hs1⟩ := net_box N w
 have HB1 := hide hb1; have HK1 := hide k1; have Hs1 := hide hs1
 have y4 := k1.net6.2.2.2.2.1
 obtain ⟨cs, hcs, hmk⟩ := mkInts w1 N.lins.length (by have := (snd_of hS).nlin; omega)
 have H0 := hide (show RwI w1.heap.size N.lins.length (costF N fr till) 0 (w1.alloc (.cells cs 3)) from ⟨cs, Blk.new _ _ _, hcs, fun j hj => by omega⟩)
 have HB0 := hide (balloc (Below.refl w1.heap.size w1) (.cells cs 3))
 have y4' : (w1.alloc (.cells cs 3)).cell? ⟨w.heap.size, 4, none⟩ = some (.slice N.lp N.lins.length N.lc) := cell_later HB0.out y4
 have hn0 : N.lins.length ≤ 40 := (snd_of hS).nlin
 unfold Net.cells at hw1
 clear hR hk hN hS hb1 k1 hs1 hcs hsnd
 unfold Net.cells
 go_enter Tryz.func67, Tryz.ntmps67
 go_wp2
 clear hmk y4 y4' hw1
 go_loopw [20] (fun si wr => ∃ k : Nat, k ≤ N.lins.length ∧ si = .int .i64 k ∧ Hid (RwI w1.heap.size N.lins.length (costF N fr till) k wr) ∧ Hid (Below w1.heap.size w1 wr)) (fun si _ => N.lins.length - (intOf si).toNat)
 case atStart => exact ⟨0, Nat.zero_le _, rfl, H0, HB0⟩
 case round =>
  clear H0 HB0
  obtain ⟨k, hk, rfl, HW, HB⟩ := hrel
  by_cases hlt : k < N.lins.length
  ·obtain ⟨s, kk, l, o, c, hX, hs, hkk⟩ := HSnd.out.linX (i := k) hlt
   have HX := hide hX
   have hce := cost_eq hX fr till
   have Hce := hide hce
   have HN2 := hide (HN.out.next (bseq HB1.out HB.out))
   obtain ⟨b1, o1, l', hp1, hl', _, l0, l1, l2, l3, l4, l5⟩ := HN2.out.lin_ (i := k) hlt
   rw [hX.lin] at hl'; injection hl' with hl'; subst hl'
   have hP := linP_of (HSnd.out.lin k hlt)
   rw [getD_some hX.lin] at hP
   obtain ⟨d, hd⟩ : ∃ d : Nat, l.dst = (d : Int) := ⟨l.dst.toNat, (Int.toNat_of_nonneg hP.dst.1).symm⟩
   have hdlt : d < N.offs.length := by have := hP.dst.2; omega
   have hO := HSnd.out.offP (o := l.dst) hP.dst.1 hP.dst.2
   have hmul := mul_small hO.passes.1 hO.passes.2 hO.minutes.1 hO.minutes.2
   have htr := hP.travel
   have HK2 := hide (HK1.out.below HB.out (by have := Hs1.out; omega))
   obtain ⟨y0, y1, y2, y3, y4, y5⟩ := HK2.out.net6
   have Hp1 := hide hp1
   rw [hp1]
   have q1 : (0 : Int) ≤ (k : Int) := by omega
   have q2 : (k : Int) < (N.lins.length : Int) := by omega
   have hlt0 : w.heap.size < wr.heap.size := HK2.out.lt
   clear hX hce hP hO hk hp1
   go_wp2_with (go_at_call 138; refine Stop.out ?_)
   have HB2 := hide (balloc (Below.refl wr.heap.size wr) (.cells #[.string l.name, .int .i64 l.src, .int .i64 (d : Int), .int .i64 l.at_, .int .i64 l.travel, .int .i64 l.load] 55))
   have HL := hide (Blk.new wr 55 #[.string l.name, .int .i64 l.src, .int .i64 (d : Int), .int .i64 l.at_, .int .i64 l.travel, .int .i64 l.load])
   have HBB := hide (bseq HB1.out HB.out)
   clear l0 l1 l2 l3 l4 l5 y0 y1 y2 y3 y4 y5 q1 q2
   generalize wr.alloc (.cells #[.string l.name, .int .i64 l.src, .int .i64 (d : Int), .int .i64 l.at_, .int .i64 l.travel, .int .i64 l.load] 55) = w3 at *
   refine Stop.go (wait_c N k s kk l o c fr till w3 _ (Hkw.out.next (bseq HBB.out HB2.out)) (HN2.out.next HB2.out) HS.out HX.out h1 h2 h3 h4 ?_ ?_)
   ·intro m w4 hW hm0 hm1 hb4
    have HB4 := hide (bseq HB2.out hb4)
    have hN4 := HN2.out.next HB4.out
    obtain ⟨b2, o2, x, hp2, hx, _, m0, m1, m2, m3, m4, m5, m6⟩ := hN4.off_ hdlt
    have hox : offOf N l.dst = x := by unfold offOf; rw [hd, show ((d : Int)).toNat = d by omega, getD_some hx]
    rw [hox] at hmul Hce
    have HC := hide (Hce.out.trans (by rw [hW]))
    have y3 := (HK2.out.next HB4.out).net6.2.2.2.1
    rw [hp2] at y3
    have hL4 := (HL.out.next hb4)
    have l2 := hL4.cell (k := 2) (v := .int .i64 (d : Int)) rfl
    have l4 := hL4.cell (k := 4) (v := .int .i64 l.travel) rfl
    obtain ⟨w5, hw5⟩ : ∃ w5, w4.alloc (.cells #[.string x.name, .int .i64 x.operator, .int .i64 x.calendar, .int .i64 x.pockets, .int .i64 x.passes, .int .i64 x.minutes, .slice x.cp x.codes.length x.cc] 65) = w5 := ⟨_, rfl⟩
    have hb5 : Below w4.heap.size w4 w5 := hw5 ▸ balloc (Below.refl _ _) _
    have k5 : Blk w5 w4.heap.size #[.string x.name, .int .i64 x.operator, .int .i64 x.calendar, .int .i64 x.pockets, .int .i64 x.passes, .int .i64 x.minutes, .slice x.cp x.codes.length x.cc] 65 := by rw [← hw5]; exact Blk.new _ _ _
    have l4' := cell_later hb5 l4
    have n4 := k5.cell (k := 4) (v := .int .i64 x.passes) rfl
    have n5 := k5.cell (k := 5) (v := .int .i64 x.minutes) rfl
    have HW5 := hide ((HW.out.next HB4.out).next hb5)
    have HBe := hide (bseq HB.out (bseq HB4.out hb5))
    obtain ⟨⟨v0, c0⟩, f0⟩ := HW5.out.here hlt
    have HP := hide (HW5.out.put hlt HC.out.symm)
    have e1 : IntKind.i64.wrap (m + l.travel) = m + l.travel := IntWalk.i64_in _ (by omega)
    have e2 : IntKind.i64.wrap (x.passes * x.minutes) = x.passes * x.minutes := IntWalk.i64_in _ (by omega)
    have e3 : IntKind.i64.wrap (m + l.travel + x.passes * x.minutes) = m + l.travel + x.passes * x.minutes := IntWalk.i64_in _ (by omega)
    have q1 : (0 : Int) ≤ (k : Int) := by omega
    have q2 : (k : Int) < (N.lins.length : Int) := by omega
    have q3 : (0 : Int) ≤ (d : Int) := by omega
    have q4 : (d : Int) < (N.offs.length : Int) := by omega
    have HBf := hide (HBe.out.setCell (p := ⟨w1.heap.size, k, none⟩) (Nat.le_refl _) (.int .i64 (m + l.travel + x.passes * x.minutes)))
    clear hmul htr hd hW hm0 hm1 hb4 hb5 k5 hL4 hN4 hx hp2 hox HC HW5 HBe HW HB Hce h1 h2 h3 h4
    go_wp2
    go_roundw
    case rel => exact ⟨k + 1, by omega, by go_num, HP, HBf⟩
    case measure => simp [intOf]; omega
   ·intro w4 hW hb4
    have HB4 := hide (bseq HB2.out hb4)
    have HC := hide (Hce.out.trans (by rw [hW]))
    have HW4 := hide (HW.out.next HB4.out)
    have HBe := hide (bseq HB.out HB4.out)
    obtain ⟨⟨v0, c0⟩, f0⟩ := HW4.out.here hlt
    have HP := hide (HW4.out.put hlt (x := -1099511627776) HC.out.symm)
    have HBf := hide (HBe.out.setCell (p := ⟨w1.heap.size, k, none⟩) (Nat.le_refl _) (.int .i64 (-1099511627776)))
    have q1 : (0 : Int) ≤ (k : Int) := by omega
    have q2 : (k : Int) < (N.lins.length : Int) := by omega
    clear hmul htr hd hW hb4 HC HBe HW HB Hce h1 h2 h3 h4
    go_wp2
    go_roundw
    case rel => exact ⟨k + 1, by omega, by go_num, HP, HBf⟩
    case measure => simp [intOf]; omega
  ·have q1 : ¬ (k : Int) < (N.lins.length : Int) := by omega
   have hkn : k = N.lins.length := by omega
   have HF := hide (HR.out _ _ (bseq HB1.out HB.out) (hkn ▸ HW.out).row)
   clear HW HB
   go_wp2
   exact HF.out
end
section
open Go.RowKit Go.Shelf
structure OffX (N : Net) (s k : Nat) (o : Off) (c : Cal) : Prop where
 off : N.offs[s]? = some o
 cal : o.calendar = (k : Int)
 c : N.cals[k]? = some c
theorem Snd.offX {N : Net} (h : Snd N) {s : Nat} (hs : s < N.offs.length) : ∃ k o c, OffX N s k o c ∧ k < N.cals.length := by
 have ho : N.offs[s]? = some (N.offs[s]'hs) := List.getElem?_eq_getElem hs
 have hQ := offP_of (h.off s hs)
 rw [getD_some ho] at hQ
 have hc := hQ.cal
 exact ⟨_, _, _, ⟨ho, (Int.toNat_of_nonneg hc.1).symm, List.getElem?_eq_getElem (by omega)⟩, by omega⟩
theorem OffX.offOf {N : Net} {s k : Nat} {o : Off} {c : Cal} (h : OffX N s k o c) : offOf N (s : Int) = o := by
 unfold Go.Proofs.YtgfhcmidnbahjaaGreatDoor.offOf; rw [show ((s : Int)).toNat = s by omega, getD_some h.off]
theorem OffX.calOf {N : Net} {s k : Nat} {o : Off} {c : Cal} (h : OffX N s k o c) : calOf N (s : Int) = c := by
 unfold Go.Proofs.YtgfhcmidnbahjaaGreatDoor.calOf
 rw [h.offOf, h.cal, show ((k : Int)).toNat = k by omega, getD_some h.c]
theorem OffX.at_ {N : Net} {w : World} (hN : NetAt w N) {s k : Nat} {o : Off} {c : Cal} (h : OffX N s k o c) : CalAt w c := hN.cal c (List.mem_of_getElem? h.c)
theorem OffX.ok {N : Net} (hS : Snd N) {s k : Nat} {o : Off} {c : Cal} (h : OffX N s k o c) : calOk c = true := by
 have hk := (List.getElem?_eq_some_iff.1 h.c).1
 have := hS.cal k hk
 rwa [getD_some h.c] at this
set_option maxRecDepth 100000 in
set_option maxHeartbeats 2000000 in
theorem pCal_c (N : Net) (g s k : Nat) (o : Off) (c : Cal) (w : World) (R) (hg : Blk w g N.cells 29) (hN : NetAt w N) (hX : OffX N s k o c) (hR : ∀ w', Below w.heap.size w w' → R (.returned (.agg c.cells.toArray)) w') : Calls Tryz.prog 187 #[.pointer (some ⟨g, 0, none⟩), .int .i64 (s : Int)] w R := by
 have HR := hide hR
 obtain ⟨w1, hw1⟩ : ∃ w1, w.alloc (.cells #[.int .i64 0, .slice none 0 0, .slice none 0 0] 164) = w1 := ⟨_, rfl⟩
 have hb1 : Below w.heap.size w w1 := hw1 ▸ balloc (Below.refl _ _) _
 have k2 : Blk w1 w.heap.size #[.int .i64 0, .slice none 0 0, .slice none 0 0] 164 := by rw [← hw1]; exact Blk.new _ _ _
 have hN1 := hN.next hb1
 have k1 := hg.next hb1
 have hs := (List.getElem?_eq_some_iff.1 hX.off).1
 have hk := (List.getElem?_eq_some_iff.1 hX.c).1
 obtain ⟨b2, o2, o', hp2, ho', _, _, _, m2, _⟩ := hN1.off_ hs
 rw [hX.off] at ho'; injection ho' with ho'; subst ho'
 obtain ⟨b3, o3, c', hp3, hc', _, c0, c1, c2⟩ := hN1.cal_ hk
 rw [hX.c] at hc'; injection hc' with hc'; subst hc'
 rw [hX.cal] at m2
 have x0 := k1.cell (k := 0) (v := .slice N.cp N.cals.length N.cc) rfl; have x3 := k1.cell (k := 3) (v := .slice N.fp N.offs.length N.fc) rfl
 rw [hp3] at x0; rw [hp2] at x3
 have q3 : (0 : Int) ≤ (s : Int) := by omega
 have q4 : (s : Int) < (N.offs.length : Int) := by omega
 have q5 : (0 : Int) ≤ (k : Int) := by omega
 have q6 : (k : Int) < (N.cals.length : Int) := by omega
 have HB := hide hb1.drew
 have HK := hide (k2.next (Below.refl _ _).drew)
 clear hR hN hb1 k1 k2 hN1 hX hp2 hp3 hs hk hg
 go_enter Tryz.func187, Tryz.ntmps187
 go_wp2
 clear hw1
 go_still_tail 14, (by kernel_rfl)
 change wpList _ _ _ _ _ w1.drew
 clear x0 x3 m2 c0 c1 c2
 generalize w1.drew = w2 at *
 have y0 := HK.out.cell (k := 0) rfl; have y1 := HK.out.cell (k := 1) rfl; have y2 := HK.out.cell (k := 2) rfl
 have f0 := HK.out.free 0; have f1 := HK.out.free 1; have f2 := HK.out.free 2
 have HK3 := hide (((HK.out.set 0 (.int .i64 c.zone)).set 1 (.slice c.wp c.week.length c.wc)).set 2 (.slice c.hp c.hol.length c.hc))
 have HF := hide (HR.out _ (((HB.out.setCell (p := ⟨w.heap.size, 0, none⟩) (Nat.le_refl _) (.int .i64 c.zone)).setCell (p := ⟨w.heap.size, 1, none⟩) (Nat.le_refl _) (.slice c.wp c.week.length c.wc)).setCell (p := ⟨w.heap.size, 2, none⟩) (Nat.le_refl _) (.slice c.hp c.hol.length c.hc)))
 clear HB HK
 go_wp2
 refine bodyPost_ret (v := .agg c.cells.toArray) ?_ rfl HF.out
 have z0 := HK3.out.cell (k := 0) rfl; have z1 := HK3.out.cell (k := 1) rfl; have z2 := HK3.out.cell (k := 2) rfl
 rw [results_cell1 (p := 4) (ty := 164) Tryz.results187]
 simp [go_sem, z0, z1, z2, Cal.cells]
set_option maxRecDepth 100000 in
set_option maxHeartbeats 2000000 in
theorem ready_c (N : Net) (g s : Nat) (t : Int) (w : World) (R) (hg : Blk w g N.cells 29) (hN : NetAt w N) (hS : Snd N) (hs : s < N.offs.length) (h1 : -100000000 ≤ t) (h2 : t ≤ 100000000) (hR : ∀ w', Below w.heap.size w w' → R (.returned (.int .i64 (readyF N (s : Int) t))) w') : Calls Tryz.prog 125 #[.pointer (some ⟨g, 0, none⟩), .int .i64 (s : Int), .int .i64 t] w R := by
 have HR := hide hR
 obtain ⟨b2, o2, o', hp2, ho', _, _, _, _, _, m4, m5, _⟩ := hN.off_ hs
 have hof : offOf N (s : Int) = o' := by unfold offOf; rw [show ((s : Int)).toNat = s by omega, getD_some ho']
 have hO := hS.offP (o := (s : Int)) (by omega) (by omega)
 rw [hof] at hO
 have hmul := mul_small hO.passes.1 hO.passes.2 hO.minutes.1 hO.minutes.2
 have e1 : IntKind.i64.wrap (o'.passes * o'.minutes) = o'.passes * o'.minutes := IntWalk.i64_in _ (by omega)
 have e2 : IntKind.i64.wrap (t + o'.passes * o'.minutes) = t + o'.passes * o'.minutes := IntWalk.i64_in _ (by omega)
 have hE : readyF N (s : Int) t = t + o'.passes * o'.minutes := by unfold readyF; rw [hof]
 rw [hE] at HR
 have x3 := hg.cell (k := 3) (v := .slice N.fp N.offs.length N.fc) rfl
 rw [hp2] at x3
 have q3 : (0 : Int) ≤ (s : Int) := by omega
 have q4 : (s : Int) < (N.offs.length : Int) := by omega
 clear hR hg hN hS hs hof hO hmul hE hp2 ho'
 go_enter Tryz.func125, Tryz.ntmps125
 go_wp2
 go_quiet (fail)
 go_wp2
 exact HR.out _ (below_drewN' (Below.refl _ _) _)
end
section
open Go.RowKit Go.Shelf
theorem LinX.offX {N : Net} {i s k : Nat} {l : Lin} {o : Off} {c : Cal} (h : LinX N i s k l o c) : OffX N s k o c := ⟨h.off, h.cal, h.c⟩
set_option maxRecDepth 100000 in
set_option maxHeartbeats 600000 in
theorem pDepart_c (N : Net) (g i s k : Nat) (l : Lin) (o : Off) (c : Cal) (t : Int) (w : World) (R) (hg : Blk w g N.cells 29) (hN : NetAt w N) (hS : Snd N) (hX : LinX N i s k l o c)
  (hok : ∀ x w', departF N (i : Int) t = .ok x → Below w.heap.size w w' → R (.returned (.tuple #[.int .i64 x, .int .i64 0])) w') (her : ∀ e w', departF N (i : Int) t = .error e → Below w.heap.size w w' → R (.returned (.tuple #[.int .i64 0, .int .i64 e])) w') :
  Calls Tryz.prog 124 #[.pointer (some ⟨g, 0, none⟩), .int .i64 (i : Int), .int .i64 t] w R := by
 have hi := (List.getElem?_eq_some_iff.1 hX.lin).1
 have hP := linP_of (hS.lin i hi)
 rw [getD_some hX.lin] at hP
 have hdf : 0 ≤ t → t ≤ 2000000 → departF N (i : Int) t = match firstF c l.at_ t with | some x => .ok x | none => .error 20 := fun h1 h2 => by
  unfold departF; rw [if_pos ⟨h1, h2⟩, hX.calOf', hX.linOf]; rfl
 by_cases hr : 0 ≤ t ∧ t ≤ 2000000
 ·obtain ⟨b1, o1, l', hp1, hl', _, l0, l1, l2, l3, l4, l5⟩ := hN.lin_ hi
  rw [hX.lin] at hl'; injection hl' with hl'; subst hl'
  rw [hX.src] at l1
  have x4 := hg.cell (k := 4) (v := .slice N.lp N.lins.length N.lc) rfl
  rw [hp1] at x4
  have q1 : (0 : Int) ≤ (i : Int) := by omega
  have q2 : (i : Int) < (N.lins.length : Int) := by omega
  obtain ⟨h1, h2⟩ := hr
  have HN := hide hN; have HX := hide hX; have HG := hide hg; have Hok := hide hok; have Her := hide her
  have Hc := hide (hX.ok hS); have hat := hide hP.at_
  have KB : Hid (∀ W', Below w.heap.size w W' → W'.cell? ⟨g, 4, none⟩ = some (.slice (some ⟨b1, o1, none⟩) N.lins.length N.lc) ∧ W'.cell? ⟨b1, o1 + i * 6 + 1, none⟩ = some (.int .i64 (s : Int)) ∧ W'.cell? ⟨b1, o1 + i * 6 + 3, none⟩ = some (.int .i64 l.at_)) := hide (fun W' hb => ⟨cell_later hb x4, cell_later hb l1, cell_later hb l3⟩)
  have hdf2 := hdf h1 h2
  clear hP hdf hN hX hg hok her hp1 l0 l2 l4 l5 hS hi
  cases hf : firstF c l.at_ t with
  | some x =>
   rw [hf] at hdf2
   have HF := hide hdf2
   have Hf := hide hf
   clear hdf2 hf
   go_enter Tryz.func124, Tryz.ntmps124
   go_wp2
   go_region_held3 (fun w' => w'.cell? ⟨g, 4, none⟩ = some (.slice (some ⟨b1, o1, none⟩) N.lins.length N.lc) ∧ w'.cell? ⟨b1, o1 + i * 6 + 1, none⟩ = some (.int .i64 (s : Int)) ∧ w'.cell? ⟨b1, o1 + i * 6 + 3, none⟩ = some (.int .i64 l.at_))
    (first | exact KB.out _ (Below.refl _ _).drew | exact KB.out _ hbb | exact KB.out _ hbc)
    (first
    | (go_at_call 187
       refine pCal_c N g s k o c _ _ (HG.out.next (Below.refl _ _).drew) (HN.out.next (Below.refl _ _).drew) HX.out.offX (fun W' hb => ?_)
       have hbb : Below w.heap.size w W' := bseq (Below.refl _ _).drew hb)
    | (go_at_call 186
       refine pFirst_c c l.at_ t W' _ (HX.out.at_ (HN.out.next hbb)) Hc.out hat.out.1 hat.out.2 h1 (by omega) (fun x' W'' hx hb2 => ?_) (fun W'' hx hb2 => by rw [Hf.out] at hx; cases hx)
       obtain rfl : x = x' := by rw [Hf.out] at hx; injection hx
       have hbc : Below w.heap.size w W'' := bseq hbb hb2))
   have HE := hide (Hok.out x W'' HF.out hbc)
   clear hbc hb2 hx hbb hb KB
   go_wp2
   exact HE.out
  | none =>
   rw [hf] at hdf2
   have HF := hide hdf2
   have Hf := hide hf
   clear hdf2 hf
   go_enter Tryz.func124, Tryz.ntmps124
   go_wp2
   go_region_held3 (fun w' => w'.cell? ⟨g, 4, none⟩ = some (.slice (some ⟨b1, o1, none⟩) N.lins.length N.lc) ∧ w'.cell? ⟨b1, o1 + i * 6 + 1, none⟩ = some (.int .i64 (s : Int)) ∧ w'.cell? ⟨b1, o1 + i * 6 + 3, none⟩ = some (.int .i64 l.at_))
    (first | exact KB.out _ (Below.refl _ _).drew | exact KB.out _ hbb | exact KB.out _ hbc)
    (first
    | (go_at_call 187
       refine pCal_c N g s k o c _ _ (HG.out.next (Below.refl _ _).drew) (HN.out.next (Below.refl _ _).drew) HX.out.offX (fun W' hb => ?_)
       have hbb : Below w.heap.size w W' := bseq (Below.refl _ _).drew hb)
    | (go_at_call 186
       refine pFirst_c c l.at_ t W' _ (HX.out.at_ (HN.out.next hbb)) Hc.out hat.out.1 hat.out.2 h1 (by omega) (fun x' W'' hx hb2 => by rw [Hf.out] at hx; cases hx) (fun W'' hx hb2 => ?_)
       have hbc : Below w.heap.size w W'' := bseq hbb hb2))
   have HE := hide (Her.out 20 W'' HF.out hbc)
   clear hbc hb2 hx hbb hb KB
   go_wp2
   exact HE.out
 ·have hF : departF N (i : Int) t = .error 1 := by unfold departF; rw [if_neg hr]
  have HE := hide (her 1 w hF (Below.refl _ _))
  clear hok her hdf hP hN hX hg hF
  by_cases h0 : t < 0
  ·clear hr
   go_enter Tryz.func124, Tryz.ntmps124
   go_wp2
   exact HE.out
  ·have h2 : ¬ t ≤ 2000000 := by omega
   have h3 : 0 ≤ t := by omega
   clear hr h0
   go_enter Tryz.func124, Tryz.ntmps124
   go_wp2
   exact HE.out
end
section
open Go.RowKit Go.Shelf
theorem must_ok (x : Int) (w : World) (R) (hR : R (.returned (.int .i64 x)) w) : Calls Tryz.prog 123 #[.int .i64 x, .int .i64 0] w R := by
 have HR := hide hR
 clear hR
 go_enter Tryz.func123, Tryz.ntmps123
 go_wp2
 exact HR.out
theorem demand_ok (w : World) (R) (hR : ∀ v, R (.returned v) w) : Calls Tryz.prog 55 #[.bool true] w R := by
 have HR := hide hR
 clear hR
 go_enter Tryz.func55, Tryz.ntmps55
 go_wp2
 first
 | exact HR.out _
 | exact bodyPost_end (results_none Tryz.results55 _ _ _) rfl (HR.out _)
theorem must_err (e x : Int) (he : e ≠ 0) (w : World) (R : Ending → World → Prop) (hR : R (.panicked [{ v := .iface 43 (.int .i64 e), recovered := false }]) w) : Calls Tryz.prog 123 #[.int .i64 x, .int .i64 e] w R := by
 have HR := hide hR
 have t1 : (e == (0 : Int)) = false := by simpa using he
 have t2 : (e != (0 : Int)) = true := by simpa using he
 clear hR
 go_enter Tryz.func123, Tryz.ntmps123
 go_wp2
 exact ⟨rfl, HR.out⟩
theorem must_case (e x : Int) (w : World) (R : Ending → World → Prop) (h1 : e ≠ 0 → R (.panicked [{ v := .iface 43 (.int .i64 e), recovered := false }]) w) (h0 : e = 0 → R (.returned (.int .i64 x)) w) : Calls Tryz.prog 123 #[.int .i64 x, .int .i64 e] w R := by
 by_cases he : e = 0
 ·subst he; exact must_ok x w R (h0 rfl)
 ·exact must_err e x he w R (h1 he)
theorem demand_err (w : World) (R : Ending → World → Prop) (hR : R (.panicked [{ v := .iface 43 (.int .i64 1), recovered := false }]) w) : Calls Tryz.prog 55 #[.bool false] w R := by
 have HR := hide hR
 clear hR
 go_enter Tryz.func55, Tryz.ntmps55
 go_wp2
 exact ⟨rfl, HR.out⟩
end
section
open Go.RowKit Go.Shelf
def Stp.cells (s : Stp) : List Value := [.int .i64 s.office, .int .i64 s.arrive, .int .i64 s.depart, .int .i64 s.line]
theorem stp_len (s : Stp) : s.cells.length = 4 := rfl
def wayTo (done : List Stp) (r : Except Int (List Stp)) : Except Int (List Stp) := match r with | .ok l => .ok (done ++ l) | .error e => .error e
theorem wayTo_nil (r : Except Int (List Stp)) : wayTo [] r = r := by cases r <;> rfl
theorem wayTo_cons (done : List Stp) (s : Stp) (r : Except Int (List Stp)) : wayTo done (match r with | .error e => .error e | .ok l => .ok (s :: l)) = wayTo (done ++ [s]) r := by
 cases r with
 | error e => rfl
 | ok l => simp [wayTo]
structure WyI (w : World) (g cap : Nat) (done : List Stp) (s : Stp) (W : World) : Prop where
 below : Below w.heap.size w W
 row : W.ownsRow w.heap.size 53 4 (.slice (some ⟨g, 0, none⟩) (done.length + 1) cap) (done.length + 1) ((done ++ [s]).flatMap Stp.cells)
section
variable {w : World} {g cap : Nat} {done : List Stp} {s : Stp} {W W' : World}
theorem WyI.at_ (h : WyI w g cap done s W) :
  W.cell? ⟨g, done.length * 4, none⟩ = some (.int .i64 s.office) ∧ W.cell? ⟨g, done.length * 4 + 1, none⟩ = some (.int .i64 s.arrive) ∧ W.cell? ⟨g, done.length * 4 + 2, none⟩ = some (.int .i64 s.depart) ∧ W.cell? ⟨g, done.length * 4 + 3, none⟩ = some (.int .i64 s.line) := by
 have hs : (done ++ [s])[done.length]? = some s := by simp
 have hc : ∀ c, c < 4 → W.cell? ⟨g, done.length * 4 + c, none⟩ = s.cells[c]? := fun c hc => by
  rw [h.row.cellAt _ (by omega)]
  exact flatMap_at stp_len _ _ _ _ hs hc
 exact ⟨hc 0 (by decide), hc 1 (by decide), hc 2 (by decide), hc 3 (by decide)⟩
theorem WyI.free (h : WyI w g cap done s W) (i : Nat) : W.frozen? ⟨g, i, none⟩ = false := h.row.frozenAt i
theorem WyI.next (h : WyI w g cap done s W) (hb : Below W.heap.size W W') : WyI w g cap done s W' := ⟨bseq h.below hb, own_below h.row hb⟩
theorem WyI.base (h : WyI w g cap done s W) : w.heap.size ≤ g ∧ g < W.heap.size := h.row.lt g rfl
theorem flat_set (done : List Stp) (s s' : Stp) (c : Nat) (v : Value) (hc : c < 4) (hv : s.cells.set c v = s'.cells) : ((done ++ [s]).flatMap Stp.cells).set (done.length * 4 + c) v = (done ++ [s']).flatMap Stp.cells := by
 rw [List.flatMap_append, List.flatMap_append, List.set_append, if_neg (by rw [flatMap_len stp_len]; omega), flatMap_len stp_len]
 congr 1
 rw [show done.length * 4 + c - done.length * 4 = c by omega]
 simpa using hv
theorem WyI.put (h : WyI w g cap done s W) {s' : Stp} {c : Nat} {v : Value} (hc : c < 4) (hv : s.cells.set c v = s'.cells) : WyI w g cap done s' (W.setCell ⟨g, done.length * 4 + c, none⟩ v) := by
 have h2 := h.row.stored (done.length * 4 + c) v
 rw [flat_set done s s' c v hc hv] at h2
 exact ⟨bgrown h.below h2.2 h.base.1, h2.1⟩
theorem WyI.set2 {o t i : Int} (h : WyI w g cap done ⟨o, t, -1, i⟩ W) (hb : Below W.heap.size W W') (d : Int) : WyI w g cap done ⟨o, t, d, i⟩ (W'.setCell ⟨g, done.length * 4 + 2, none⟩ (.int .i64 d)) :=
 (h.next hb).put (c := 2) (by decide) rfl
theorem stps_one (l : List Stp) : ∀ u ∈ l.flatMap Stp.cells, u.oneCell' = true := fun u hu => by
 obtain ⟨s, _, hs⟩ := List.mem_flatMap.1 hu
 simp only [Stp.cells, List.mem_cons, List.not_mem_nil, or_false] at hs
 rcases hs with rfl | rfl | rfl | rfl <;> rfl
theorem WyI.app {done : List Stp} {s' : Stp} {v : Value} {n : Nat} (h : WyI w g cap done s W) (hg : W.grownBy W' (some g)) (ho : W'.ownsRow w.heap.size 53 4 v n ((done ++ [s]).flatMap Stp.cells ++ s'.cells)) (hn : n = done.length + 2) : ∃ g' cap', v = .slice (some ⟨g', 0, none⟩) (done.length + 2) cap' ∧ WyI w g' cap' (done ++ [s]) s' W' := by
 subst hn
 obtain ⟨g', cap', rfl⟩ : ∃ g' cap', v = .slice (some ⟨g', 0, none⟩) (done.length + 2) cap' := by
  rcases ho.2 with ⟨_, h0⟩ | ⟨g', cap', cur, hv, _⟩
  ·omega
  ·exact ⟨g', cap', hv⟩
 refine ⟨g', cap', rfl, bgrown h.below hg h.base.1, ?_⟩
 have e : ((done ++ [s]) ++ [s']).flatMap Stp.cells = (done ++ [s]).flatMap Stp.cells ++ s'.cells := by rw [List.flatMap_append]; simp
 rw [e]
 simpa using ho
end
section
variable {N : Net} {next : Mat} {tt k o : Nat} {t : Int}
theorem walkF_at : walkF N next tt k tt t = .ok [⟨tt, t, -1, -1⟩] := by cases k <;> simp [walkF]
theorem walkF_no (h : o ≠ tt) (hn : next o tt = -1) : walkF N next tt k o t = .error 170 := by cases k <;> simp [walkF, h, hn]
theorem walkF_err {e : Int} (h : o ≠ tt) (hn : next o tt ≠ -1) (hd : departF N (next o tt) (readyF N o t) = .error e) : walkF N next tt k o t = .error e := by cases k <;> simp [walkF, h, hn, hd]
theorem walkF_full {d : Int} (h : o ≠ tt) (hn : next o tt ≠ -1) (hd : departF N (next o tt) (readyF N o t) = .ok d) : walkF N next tt 0 o t = .error 170 := by simp [walkF, h, hn, hd]
theorem walkF_step {d : Int} (done : List Stp) (h : o ≠ tt) (hn : next o tt ≠ -1) (hd : departF N (next o tt) (readyF N o t) = .ok d) :
  wayTo done (walkF N next tt (k + 1) o t) = wayTo (done ++ [⟨o, t, d, next o tt⟩]) (walkF N next tt k (linOf N (next o tt)).dst.toNat (d + (linOf N (next o tt)).travel)) := by
 rw [← wayTo_cons]
 simp only [walkF, h, hn, hd, if_false]
 cases walkF N next tt k (linOf N (next o tt)).dst.toNat (d + (linOf N (next o tt)).travel) <;> rfl
end
theorem step_stp {P : Program} {w : World} {ops : Array Oper} {o : Oper} {a : Act} {K : Act → World → Prop} {Q : Exit → Act → World → Prop} {E : Prop} (hgd : o.guard = none) (s x : Operand) (t : TypeId)
  (ho : o.op = .call { callee := .builtin .append, args := #[s, x], argTypes := #[t, t] })
  (base : Nat) (e : TypeId) (i : TypeInfo) (z : Value) (size bytes : Nat) (ht : P.underlying t = some (.slice e)) (hi : P.info? e = some i) (hz : i.zero = some z)
  (hsize : i.size = size) (hby : i.bytes = bytes) (hzs : z.cells.size = size) (hsz : 0 < size)
  (v : Value) (n : Nat) (xs : List Value) (hs : a.eval s = v) (hown : w.ownsRow base e size v n xs)
  (ad : Addr) (m c : Nat) (news : List Value) (hx : a.eval x = .slice (some ad) m c) (hl : news.length = m * size) (hnews : ∀ j u, news[j]? = some u → w.cell? (ad.add j) = some u) (h1 : ∀ u ∈ news, u.oneCell' = true)
  (h63 : n + m ≤ maxLen) (hbytes : (n + m) * bytes ≤ 140737488355328) (hbase : base ≤ w.heap.size)
  (h : ∀ v' w', w'.ownsRow base e size v' (n + m) (xs ++ news) → w.grownBy w' v.ownBlock → K (a.put o.dst v') w') : if Region.wanted o (yielded ops a.tmps) = true then Oper.wp P o a w K Q else E :=
 step_where hgd s x t ho base e i z size bytes ht hi hz hsize hby hzs hsz v n xs hs hown ad m c news hx hl hnews h1 h63 hbytes hbase (fun v' w' h2 h3 _ => h v' w' h2 h3)
end
end Go.Proofs.YtgfhcmidnbahjaaGreatDoor
