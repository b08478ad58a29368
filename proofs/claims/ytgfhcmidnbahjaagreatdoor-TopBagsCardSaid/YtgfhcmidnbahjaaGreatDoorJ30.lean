/- Routing: the best line; Next; Bounds. Routing: Next, Bounds. Compile: its first step. Compile: the steps that choose lines, promise, certify. Compile: the step that certifies. -/
import Derived.Test.YtgfhcmidnbahjaaGreatDoorJ29
import Derived.Test.YtgfhcmidnbahjaaGreatDoorJ28
set_option linter.unusedVariables false
set_option linter.unusedSimpArgs false
namespace Go.Proofs.YtgfhcmidnbahjaaGreatDoor
section
open Go.RowKit Go.Shelf
theorem find_none_succ {p : Nat → Bool} {k : Nat} (h : ∀ i, i < k → p i = false) (hk : p k = false) : ∀ i, i < k + 1 → p i = false := fun i hi => by
 by_cases e : i = k
 ·rw [e]; exact hk
 ·exact h i (by omega)
theorem find_range {p : Nat → Bool} {m k : Nat} (h : ∀ i, i < k → p i = false) (hk : k < m) (hp : p k = true) : (List.range m).find? p = some k := by
 have e : List.range m = List.range k ++ k :: (List.range (m - k - 1)).map (fun j => k + 1 + j) := by
  apply List.ext_getElem?
  intro x
  by_cases hx : x < k
  ·rw [List.getElem?_append_left (by simpa using hx), List.getElem?_range hx, List.getElem?_range (by omega)]
  ·rw [List.getElem?_append_right (by simpa using Nat.le_of_not_lt hx), List.length_range]
   by_cases hx2 : x = k
   ·subst hx2; rw [Nat.sub_self, List.getElem?_range hk]; rfl
   ·rw [show x - k = (x - k - 1) + 1 by omega, List.getElem?_cons_succ, List.getElem?_map]
    by_cases hx3 : x < m
    ·rw [List.getElem?_range hx3, List.getElem?_range (by omega)]; simp; omega
    ·rw [List.getElem?_eq_none (by simpa using Nat.le_of_not_lt hx3), List.getElem?_eq_none (by simp; omega)]; rfl
 rw [e]
 exact find_first (fun y hy => h y (List.mem_range.1 hy)) hp
def BndR (n : Nat) (B : Nat → Nat → Int) : Prop := ∀ i j, i < n → j < n → -1 ≤ B i j ∧ B i j ≤ 1000000000
set_option maxRecDepth 100000 in
set_option maxHeartbeats 2000000 in
theorem best_c (N : Net) (gc : Nat) (cost : Nat → Int) (pb : Option Addr) (cb : Nat) (B : Nat → Nat → Int) (o d : Nat) (w : World) (R) (hN : NetAt w N) (hS : Snd N) (hc : RowAt w gc 0 N.lins.length cost) (hC : CostR N.lins.length cost) (hB : MatAt w pb N.offs.length B) (hBR : BndR N.offs.length B)
  (ho : o < N.offs.length) (hd : d < N.offs.length) (hR : ∀ w', Below w.heap.size w w' → R (.returned (.int .i64 (bestF N cost B o d))) w') :
  Calls Tryz.prog 167 #[.agg N.cells, .slice (some ⟨gc, 0, none⟩) N.lins.length N.lins.length, .slice pb N.offs.length cb, .int .i64 (o : Int), .int .i64 (d : Int)] w R := by
 have HR := hide hR; have HN := hide hN; have HSnd := hide hS; have HC := hide hC; have HBR := hide hBR
 obtain ⟨w1, hw1, hb1, k1, hs1⟩ := net_box N w
 have HB1 := hide hb1; have HK1 := hide k1; have Hs1 := hide hs1; have HRow := hide (hc.next hb1); have HM := hide (hB.next hb1)
 have y4 := k1.net6.2.2.2.2.1
 have hno : N.offs.length ≤ 12 := hS.noff
 have hnl : N.lins.length ≤ 40 := hS.nlin
 obtain ⟨bb, bo, bb1, bo1, bc1, hpb, hrow1, hcell1⟩ := hB.next hb1 o ho
 subst hpb
 have HR1 := hide hrow1; have HC1 := hide (hcell1 d hd)
 unfold Net.cells at hw1
 clear hR hN hS hc hC hb1 k1 hs1 hB hBR hrow1 hcell1
 unfold Net.cells
 go_enter Tryz.func167, Tryz.ntmps167
 go_wp2
 go_step3
 go_wp2
 go_step3
 go_wp2
 clear y4 hw1
 go_loopw [11, 17] (fun sf si wr => ∃ k : Nat, k ≤ N.lins.length ∧ sf = .int .i64 (-1) ∧ si = .int .i64 k ∧ Hid (∀ i, i < k → bestP N cost B o d i = false) ∧ Hid (Below w1.heap.size w1 wr)) (fun _ si _ => N.lins.length - (intOf si).toNat)
 case atStart => exact ⟨0, Nat.zero_le _, rfl, rfl, hide (fun i h => by omega), hide (Below.refl _ _)⟩
 case round =>
  obtain ⟨k, hk, rfl, rfl, HP, HB⟩ := hrel
  by_cases hlt : k < N.lins.length
  ·obtain ⟨s, kk, l, of, c, hX, hs, hkk⟩ := HSnd.out.linX (i := k) hlt
   have HN2 := hide (HN.out.next (bseq HB1.out HB.out))
   obtain ⟨b1, o1, l', hp1, hl', _, l0, l1, l2, l3, l4, l5⟩ := HN2.out.lin_ (i := k) hlt
   rw [hX.lin] at hl'; injection hl' with hl'; subst hl'
   have hP := linP_of (HSnd.out.lin k hlt)
   rw [getD_some hX.lin] at hP
   obtain ⟨e, he⟩ : ∃ e : Nat, l.dst = (e : Int) := ⟨l.dst.toNat, (Int.toNat_of_nonneg hP.dst.1).symm⟩
   have helt : e < N.offs.length := by have := hP.dst.2; omega
   have hss : l.src = (s : Int) := hX.src
   rw [hss] at l1
   rw [he] at l2
   have hlin : linOf N (k : Int) = l := hX.linOf
   have Hbp := hide (show bestP N cost B o d k = (decide ((s : Int) = (o : Int)) && !decide (cost k = noneI) && !decide (B e d < 0) && decide (cost k + B e d = B o d)) by
    unfold bestP; rw [hlin, hss, he]; rfl)
   have hcr := HC.out k hlt
   have hbr := HBR.out e d helt hd
   obtain ⟨bb', bo', bb2, bo2, bc2, hpb2, hrow2, hcell2⟩ := (HM.out.next HB.out) e helt
   injection hpb2 with hpb2; injection hpb2 with hpb3 hpb4; subst hpb3; subst hpb4
   have HCe := hide (hcell2 d hd)
   have HCk := hide ((HRow.out.next HB.out) k hlt)
   rw [hp1]
   have q1 : (0 : Int) ≤ (k : Int) := by omega
   have q2 : (k : Int) < (N.lins.length : Int) := by omega
   obtain ⟨w3, hw3⟩ : ∃ w3, wr.alloc (.cells #[.string l.name, .int .i64 (s : Int), .int .i64 (e : Int), .int .i64 l.at_, .int .i64 l.travel, .int .i64 l.load] 55) = w3 := ⟨_, rfl⟩
   have hb3 : Below wr.heap.size wr w3 := hw3 ▸ balloc (Below.refl _ _) _
   have kl : Blk w3 wr.heap.size #[.string l.name, .int .i64 (s : Int), .int .i64 (e : Int), .int .i64 l.at_, .int .i64 l.travel, .int .i64 l.load] 55 := by rw [← hw3]; exact Blk.new _ _ _
   have c0 : w3.cell? ⟨gc, k, none⟩ = some (.int .i64 (cost k)) := by have := cell_later hb3 HCk.out; rwa [Nat.zero_add] at this
   have m1 := kl.cell (k := 1) (v := .int .i64 (s : Int)) rfl
   have m2 := kl.cell (k := 2) (v := .int .i64 (e : Int)) rfl
   have n1 := cell_later hb3 hrow2
   have n2 := cell_later hb3 HCe.out
   have n3 := cell_later (bseq HB.out hb3) HR1.out
   have n4 := cell_later (bseq HB.out hb3) HC1.out
   have HB3 := hide (bseq HB.out hb3)
   have q3 : (0 : Int) ≤ (o : Int) := by omega
   have q4 : (o : Int) < (N.offs.length : Int) := by omega
   have q5 : (0 : Int) ≤ (d : Int) := by omega
   have q6 : (d : Int) < (N.offs.length : Int) := by omega
   have q7 : (0 : Int) ≤ (e : Int) := by omega
   have q8 : (e : Int) < (N.offs.length : Int) := by omega
   have hob := HBR.out o d ho hd
   clear hX hP he hss hlin hp1 hk kl hb3 HB hcell2 hrow2 HCe HCk HN2
   by_cases t1 : s = o
   ·have t1a : ((s : Int) == (o : Int)) = true := by simp; omega
    have t1b : ((s : Int) != (o : Int)) = false := by simp; omega
    by_cases t2 : cost k = noneI
    ·have HP2 := hide (find_none_succ HP.out (by rw [Hbp.out, decide_eq_true t2]; simp))
     have t2a : cost k = -1099511627776 := t2
     rw [t2a] at c0
     clear t2 t2a hcr hbr hob t1 Hbp HP
     go_wp2
     go_roundw
     case rel => exact ⟨k + 1, by omega, rfl, by go_num, HP2, HB3⟩
     case measure => simp [intOf]; omega
    ·have t2a : (cost k == (-1099511627776 : Int)) = false := by unfold noneI at t2; simpa using t2
     have t2c : ¬ cost k = -1099511627776 := t2
     by_cases t3 : B e d < 0
     ·have HP2 := hide (find_none_succ HP.out (by rw [Hbp.out, decide_eq_true t3]; simp))
      clear t2 hcr hbr hob t1 Hbp HP
      go_wp2
      go_roundw
      case rel => exact ⟨k + 1, by omega, rfl, by go_num, HP2, HB3⟩
      case measure => simp [intOf]; omega
     ·have hcr2 : 2 ≤ cost k ∧ cost k ≤ 100000 := by
       rcases hcr with h | h
       ·exact absurd h t2
       ·exact h
      have e1 : IntKind.i64.wrap (cost k + B e d) = cost k + B e d := IntWalk.i64_in _ (by omega)
      by_cases t4 : cost k + B e d = B o d
      ·have hp : bestP N cost B o d k = true := by
        rw [Hbp.out, decide_eq_true (show (s : Int) = (o : Int) by omega), decide_eq_false t2, decide_eq_false t3, decide_eq_true t4]; rfl
       have hF : bestF N cost B o d = (k : Int) := by
        unfold bestF; rw [find_range HP.out hlt hp]
       have HF := hide (fun n => HR.out (w3.drewN n) (bseq HB1.out (below_drewN' HB3.out n)))
       rw [hF] at HF
       have t4a : (cost k + B e d == B o d) = true := by simpa using t4
       clear t2 hcr hbr hob t1 Hbp HP hp hF hcr2 t4
       generalize cost k = ck at *
       generalize B e d = be at *
       generalize B o d = bx at *
       go_wp2
       go_quiet (fail)
       go_wp2
       exact HF.out _
      ·have HP2 := hide (find_none_succ HP.out (by rw [Hbp.out, decide_eq_false t4]; simp))
       have HB4 : Hid (∀ n, Below w1.heap.size w1 (w3.drewN n)) := hide (fun n => below_drewN' HB3.out n)
       have t4a : (cost k + B e d == B o d) = false := by simpa using t4
       clear t2 hcr hbr hob t1 Hbp HP hcr2
       generalize cost k = ck at *
       generalize B e d = be at *
       generalize B o d = bx at *
       go_wp2
       go_quiet (fail)
       go_wp2
       go_roundw
       case rel => exact ⟨k + 1, by omega, rfl, by go_num, HP2, hide (HB4.out _)⟩
       case measure => simp [intOf]; omega
   ·have HP2 := hide (find_none_succ HP.out (by rw [Hbp.out, decide_eq_false (show ¬ (s : Int) = (o : Int) by omega)]; rfl))
    have t1a : ((s : Int) == (o : Int)) = false := by simp; omega
    have t1b : ((s : Int) != (o : Int)) = true := by simp; omega
    have t1c : ¬ (s : Int) = (o : Int) := by omega
    clear hcr hbr hob t1 Hbp HP
    go_wp2
    go_roundw
    case rel => exact ⟨k + 1, by omega, rfl, by go_num, HP2, HB3⟩
    case measure => simp [intOf]; omega
  ·have hkn : k = N.lins.length := by omega
   have q1 : ¬ (k : Int) < (N.lins.length : Int) := by omega
   subst hkn
   have hF : bestF N cost B o d = -1 := by
    unfold bestF
    rw [List.find?_eq_none.2 (fun y hy => by rw [HP.out y (List.mem_range.1 hy)]; simp)]
   have HF := hide (HR.out _ (bseq HB1.out HB.out))
   rw [hF] at HF
   clear hF HB HP
   go_wp2
   exact HF.out
end
section
open Go.RowKit Go.Shelf
theorem costR_of {N : Net} (h : Snd N) {fr till : Int} (h86 : till ≤ fr + 86400) (h0 : 0 ≤ fr) : CostR N.lins.length (costF N fr till) := fun i hi => cost_range h hi h86 h0
theorem bndR_of {N : Net} (h : Snd N) {cost : Nat → Int} (hC : CostR N.lins.length cost) : BndR N.offs.length (boundM N cost) := fun i j hi hj => by
 have := star_fit (least_low hC _ (Nat.le_refl _)) h.noff (Nat.le_refl _) i j hi hj
 unfold boundM
 split
 ·omega
 ·next hne =>
  rcases this with h | h
  ·exact absurd h hne
  ·omega
set_option maxRecDepth 100000 in
set_option maxHeartbeats 2000000 in
theorem next1_c (N : Net) (gc gcb gb gbb gn : Nat) (cost : Nat → Int) (B : Nat → Nat → Int) (o d : Nat) (w : World) (R) (hN : NetAt w N) (hS : Snd N) (hc : RowAt w gc 0 N.lins.length cost) (hC : CostR N.lins.length cost) (hB : MatAt w (some ⟨gb, 0, none⟩) N.offs.length B) (hBR : BndR N.offs.length B)
  (k1 : Blk w gbb #[.slice (some ⟨gb, 0, none⟩) N.offs.length N.offs.length] 36) (k2 : Blk w gn N.cells 29) (k3 : Blk w gcb #[.slice (some ⟨gc, 0, none⟩) N.lins.length N.lins.length] 40)
  (ho : o < N.offs.length) (hd : d < N.offs.length) (hR : ∀ w', Below w.heap.size w w' → R (.returned (.int .i64 (nextM N cost B o d))) w') :
  Calls Tryz.prog 166 #[.int .i64 (o : Int), .int .i64 (d : Int), .pointer (some ⟨gbb, 0, none⟩), .pointer (some ⟨gn, 0, none⟩), .pointer (some ⟨gcb, 0, none⟩)] w R := by
 obtain ⟨bb, bo, bb1, bo1, bc1, hpb, hrow1, hcell1⟩ := hB o ho
 injection hpb with hpb; injection hpb with e1 e2; subst e1; subst e2
 have c0 := hcell1 d hd
 rw [Nat.zero_add] at hrow1
 have x1 := k1.cell (k := 0) (v := .slice (some ⟨gb, 0, none⟩) N.offs.length N.offs.length) rfl
 have x3 := k3.cell (k := 0) (v := .slice (some ⟨gc, 0, none⟩) N.lins.length N.lins.length) rfl
 obtain ⟨y0, y1, y2, y3, y4, y5⟩ := k2.net6
 have q3 : (0 : Int) ≤ (o : Int) := by omega
 have q4 : (o : Int) < (N.offs.length : Int) := by omega
 have q5 : (0 : Int) ≤ (d : Int) := by omega
 have q6 : (d : Int) < (N.offs.length : Int) := by omega
 have HR := hide hR
 have HN := hide hN; have HSn := hide hS; have Hc := hide hc; have HC := hide hC; have HB := hide hB; have HBR := hide hBR
 clear hR hN hS hc hC hB hBR hcell1 k1 k2 k3
 by_cases h1 : o = d
 ·have HF := hide (HR.out w (Below.refl _ _))
  simp only [nextM, h1, true_or, if_true] at HF
  have t1 : ((o : Int) == (d : Int)) = true := by simp; omega
  clear h1 HN HSn Hc HC HB HBR
  go_enter Tryz.func166, Tryz.ntmps166
  go_wp2
  exact HF.out
 ·have t1 : ((o : Int) == (d : Int)) = false := by simp; omega
  have t1c : ¬ (o : Int) = (d : Int) := by omega
  by_cases h2 : B o d < 0
  ·have HF := hide (HR.out w (Below.refl _ _))
   simp only [nextM, h2, or_true, if_true] at HF
   clear h1 HN HSn Hc HC HB HBR
   go_enter Tryz.func166, Tryz.ntmps166
   go_wp2
   exact HF.out
  ·have he : nextM N cost B o d = bestF N cost B o d := by unfold nextM; rw [if_neg]; intro h; rcases h with h | h; exact h1 h; exact h2 h
   rw [he] at HR
   clear h1 he
   go_enter Tryz.func166, Tryz.ntmps166
   go_wp2_with (go_at_call 167; refine Stop.out ?_)
   refine Stop.go (best_c N gc cost (some ⟨gb, 0, none⟩) N.offs.length B o d w _ HN.out HSn.out Hc.out HC.out HB.out HBR.out ho hd ?_)
   intro w2 hb
   have HF := hide (HR.out _ hb)
   clear hb y0 y1 y2 y3 y4 y5 x1 x3 c0 hrow1
   go_wp2
   exact HF.out
set_option maxRecDepth 100000 in
set_option maxHeartbeats 2000000 in
theorem next_c (N : Net) (fr till : Int) (w : World) (R) (hk : KwAt w) (hN : NetAt w N) (hS : soundB N = true) (h1 : 0 ≤ fr) (h2 : fr < till) (h3 : till ≤ 2000000) (h4 : till ≤ fr + 86400)
  (hR : ∀ w' g, Below w.heap.size w w' → MtO w.heap.size w' g N.offs.length (nextM N (costF N fr till) (boundM N (costF N fr till))) → R (.returned (.slice (some ⟨g, 0, none⟩) N.offs.length N.offs.length)) w') :
  Calls Tryz.prog 109 #[.agg N.cells, .int .i64 fr, .int .i64 till] w R := by
 have HR := hide hR; have HN := hide hN; have Hkw := hide hk; have HS := hide hS
 have hsnd := snd_of hS
 have HSn := hide hsnd
 have HC := hide (costR_of hsnd h4 h1)
 obtain ⟨w1, hw1, hb1, k1, hs1⟩ := net_box N w
 have HB1 := hide hb1; have HK1 := hide k1; have Hs1 := hide hs1
 obtain ⟨y0, y1, y2, y3, y4, y5⟩ := k1.net6
 have hno : N.offs.length ≤ 12 := hsnd.noff
 unfold Net.cells at hw1
 clear hR hN hS hk hb1 k1 hs1 hsnd
 unfold Net.cells
 go_enter Tryz.func109, Tryz.ntmps109
 go_wp2_with (go_at_call 65; refine Stop.out ?_)
 refine Stop.go (rUsable_c N fr till w1 _ (Hkw.out.next HB1.out) (HN.out.next HB1.out) HS.out h1 h2 h3 h4 ?_)
 intro w2 hb
 have HB2 := hide hb
 obtain ⟨z0, z1, z2, z3, z4, z5⟩ := (HK1.out.next hb).net6
 clear hb y0 y1 y2 y3 y4 y5 hw1
 go_wp2_with (go_at_call 67; refine Stop.out ?_)
 refine Stop.go (costs_c N fr till w2 _ (Hkw.out.next (bseq HB1.out HB2.out)) (HN.out.next (bseq HB1.out HB2.out)) HS.out h1 h2 h3 h4 ?_)
 intro w3 gc hb hrow
 obtain ⟨w4, hw4⟩ : ∃ w4, w3.alloc (.cells #[.slice (some ⟨gc, 0, none⟩) N.lins.length N.lins.length] 40) = w4 := ⟨_, rfl⟩
 have hb4 : Below w3.heap.size w3 w4 := hw4 ▸ balloc (Below.refl _ _) _
 have HK4 : Hid (Blk w4 w3.heap.size #[.slice (some ⟨gc, 0, none⟩) N.lins.length N.lins.length] 40) := hide (by rw [← hw4]; exact Blk.new _ _ _)
 have HB4 := hide (bseq HB2.out (bseq hb hb4)); have HRow := hide (hrow.next hb4)
 clear hb hb4 hrow HB2 z0 z1 z2 z3 z4 z5
 obtain ⟨z0, z1, z2, z3, z4, z5⟩ := (HK1.out.next HB4.out).net6
 have v0 := HK4.out.cell (k := 0) (v := .slice (some ⟨gc, 0, none⟩) N.lins.length N.lins.length) rfl
 go_wp2_with (go_at_call 66; refine Stop.out ?_)
 clear hw4
 refine Stop.go (bounds_c N gc (costF N fr till) w4 _ (HN.out.next (bseq HB1.out HB4.out)) HSn.out HRow.out HC.out ?_)
 intro w5 gb hb hM
 obtain ⟨w6, hw6⟩ : ∃ w6, w5.alloc (.cells #[.slice (some ⟨gb, 0, none⟩) N.offs.length N.offs.length] 36) = w6 := ⟨_, rfl⟩
 have hb6 : Below w5.heap.size w5 w6 := hw6 ▸ balloc (Below.refl _ _) _
 have HK6 : Hid (Blk w6 w5.heap.size #[.slice (some ⟨gb, 0, none⟩) N.offs.length N.offs.length] 36) := hide (by rw [← hw6]; exact Blk.new _ _ _)
 have HK5 := hide (HK4.out.next (bseq hb hb6))
 have HB6 := hide (bseq HB4.out (bseq hb hb6)); have HRow6 := hide (HRow.out.next (bseq hb hb6)); have HM6 := hide (MtO.mat (hM.next hb6))
 clear hb hb6 hM z0 z1 z2 z3 z4 z5 v0 HB4 HK4 HRow
 obtain ⟨z0, z1, z2, z3, z4, z5⟩ := (HK1.out.next HB6.out).net6
 go_wp2_with (go_at_call 134; refine Stop.out ?_)
 clear hw6
 refine Stop.go (table_c N 166 #[.pointer (some ⟨w5.heap.size, 0, none⟩), .pointer (some ⟨w.heap.size, 0, none⟩), .pointer (some ⟨w3.heap.size, 0, none⟩)] (nextM N (costF N fr till) (boundM N (costF N fr till))) w6 _ (by omega) (enters_of Tryz.func166 (by kernel_rfl) rfl) ?_ ?_)
 ·intro i j W hi hj hb R' hR'
  exact next1_c N gc w3.heap.size gb w5.heap.size w.heap.size (costF N fr till) (boundM N (costF N fr till)) i j W R' (HN.out.next (bseq HB1.out (bseq HB6.out hb))) HSn.out (HRow6.out.next hb) HC.out (HM6.out.next hb) (bndR_of HSn.out HC.out)
   (HK6.out.next hb) (HK1.out.next (bseq HB6.out hb)) (HK5.out.next hb) hi hj hR'
 intro w7 g7 hb hm
 have HF := hide (HR.out _ _ (bseq HB1.out (bseq HB6.out hb)) (hm.mono (by have := HB1.out.size; have := HB6.out.size; omega)))
 clear hb hm z0 z1 z2 z3 z4 z5
 go_wp2
 exact HF.out
end
section
open Go.RowKit Go.Shelf
attribute [local go_sem] Oper.semAt_some run_store_func
set_option maxRecDepth 100000 in
theorem cdays_c (fr till : Int) (w : World) (R) (hR : R (.returned (.bool (daysOk fr till))) w) : Calls Tryz.prog 108 #[.int .i64 fr, .int .i64 till] w R := by
 by_cases h1 : 0 ≤ fr
 ·by_cases h2 : fr < till
  ·by_cases h3 : till ≤ 600
   ·have e1 : IntKind.i64.wrap (till - fr) = till - fr := IntWalk.i64_in _ (by omega)
    by_cases h4 : till - fr ≤ 60
    ·have e : daysOk fr till = true := by unfold daysOk; simp [h1, h2, h3, h4]
     rw [e] at hR
     have HR := hide hR
     clear hR e
     go_enter Tryz.func108, Tryz.ntmps108
     go_wp2
     exact HR.out
    ·have e : daysOk fr till = false := by unfold daysOk; simp [h4]
     rw [e] at hR
     have HR := hide hR
     have h5 : 60 < till - fr := by omega
     clear hR e
     go_enter Tryz.func108, Tryz.ntmps108
     go_wp2
     exact HR.out
   ·have e : daysOk fr till = false := by unfold daysOk; simp [h3]
    rw [e] at hR
    have HR := hide hR
    have h5 : 600 < till := by omega
    clear hR e
    go_enter Tryz.func108, Tryz.ntmps108
    go_wp2
    exact HR.out
  ·have e : daysOk fr till = false := by unfold daysOk; simp [h2]
   rw [e] at hR
   have HR := hide hR
   have h5 : till ≤ fr := by omega
   clear hR e
   go_enter Tryz.func108, Tryz.ntmps108
   go_wp2
   exact HR.out
 ·have e : daysOk fr till = false := by unfold daysOk; simp [h1]
  rw [e] at hR
  have HR := hide hR
  have h5 : fr < 0 := by omega
  clear hR e
  go_enter Tryz.func108, Tryz.ntmps108
  go_wp2
  exact HR.out
set_option maxRecDepth 100000 in
theorem csound_c (N : Net) (w : World) (R) (hk : KwAt w) (hN : NetAt w N) (hR : ∀ w', Below w.heap.size w w' → R (.returned (.bool (soundB N))) w') : Calls Tryz.prog 61 #[.agg N.cells] w R := by
 obtain ⟨w1, hw1, hb1, k1, hs1⟩ := net_box N w
 have HR := hide hR; have HN := hide hN; have HK := hide hk; have HB1 := hide hb1
 obtain ⟨y0, y1, y2, y3, y4, y5⟩ := k1.net6
 unfold Net.cells at hw1
 clear hR hN hk hb1 k1 hs1
 unfold Net.cells
 go_enter Tryz.func61, Tryz.ntmps61
 go_wp2_with (go_at_call 115; refine Stop.out ?_)
 refine Stop.go (check_c N w1 _ (HK.out.next HB1.out) (HN.out.next HB1.out) ?_)
 intro w' p n cap hb h0 hn
 have HF := hide (HR.out _ (bseq HB1.out hb))
 clear hb y0 y1 y2 y3 y4 y5 hw1
 rcases zero_iff h0 with ⟨hs, rfl⟩ | ⟨hs, hpos⟩
 ·rw [hs] at HF
  clear h0 hs
  go_wp2
  exact HF.out
 ·rw [hs] at HF
  have q1 : ((n : Int) == (0 : Int)) = false := by simp; omega
  clear h0 hs
  go_wp2
  exact HF.out
set_option maxRecDepth 100000 in
set_option maxHeartbeats 1000000 in
theorem cCheck_c (N : Net) (P : Pln) (ct : List Value) (g : Nat) (w : World) (R) (hw : Blk w g (workC N P ct) 92) (hk : KwAt w) (hN : NetAt w N)
  (hR : ∀ w', Below w.heap.size w w' → R (.returned (.int .i64 (if (daysOk P.fr P.till && soundB N) = true then 0 else 1))) w') :
  Calls Tryz.prog 35 #[.pointer (some ⟨g, 0, none⟩)] w R := by
 have HR := hide hR; have HN := hide hN; have HK := hide hk
 obtain ⟨y0, y1, y2, y3, y4, y5⟩ := hw.workN
 obtain ⟨p0, p1, p2, p3⟩ := hw.workP
 have KB : Hid (∀ W', Below w.heap.size w W' → W'.cell? ⟨g, 0, none⟩ = some (.slice N.cp N.cals.length N.cc) ∧ W'.cell? ⟨g, 1, none⟩ = some (.slice N.np N.names.length N.nc) ∧ W'.cell? ⟨g, 2, none⟩ = some (.slice N.op N.oprs.length N.oc) ∧ W'.cell? ⟨g, 3, none⟩ = some (.slice N.fp N.offs.length N.fc) ∧ W'.cell? ⟨g, 4, none⟩ = some (.slice N.lp N.lins.length N.lc) ∧ W'.cell? ⟨g, 5, none⟩ = some (.slice N.kp N.clss.length N.kc) ∧ W'.cell? ⟨g, 6, none⟩ = some (.int .i64 P.fr) ∧ W'.cell? ⟨g, 7, none⟩ = some (.int .i64 P.till)) :=
  hide (fun W' hb => ⟨cell_later hb y0, cell_later hb y1, cell_later hb y2, cell_later hb y3, cell_later hb y4, cell_later hb y5, cell_later hb p0, cell_later hb p1⟩)
 clear hR hN hk hw y0 y1 y2 y3 y4 y5 p0 p1 p2 p3
 go_enter Tryz.func35, Tryz.ntmps35
 go_wp2
 cases hd : daysOk P.fr P.till with
 | true =>
  rw [hd] at HR
  have Hd := hide hd
  clear hd
  go_region_held3 (fun W' => W'.cell? ⟨g, 0, none⟩ = some (.slice N.cp N.cals.length N.cc) ∧ W'.cell? ⟨g, 1, none⟩ = some (.slice N.np N.names.length N.nc) ∧ W'.cell? ⟨g, 2, none⟩ = some (.slice N.op N.oprs.length N.oc) ∧ W'.cell? ⟨g, 3, none⟩ = some (.slice N.fp N.offs.length N.fc) ∧ W'.cell? ⟨g, 4, none⟩ = some (.slice N.lp N.lins.length N.lc) ∧ W'.cell? ⟨g, 5, none⟩ = some (.slice N.kp N.clss.length N.kc) ∧ W'.cell? ⟨g, 6, none⟩ = some (.int .i64 P.fr) ∧ W'.cell? ⟨g, 7, none⟩ = some (.int .i64 P.till))
   (first | exact KB.out _ (Below.refl _ _).drew | exact KB.out _ hbb)
   (first
   | (go_at_call 108
      refine cdays_c P.fr P.till _ _ ?_
      rw [Hd.out])
   | (go_at_call 61
      refine csound_c N _ _ (HK.out.next (Below.refl _ _).drew) (HN.out.next (Below.refl _ _).drew) (fun W' hb => ?_)
      have hbb : Below w.heap.size w W' := bseq (Below.refl _ _).drew hb))
  have HF := hide (HR.out _ hbb)
  clear hbb hb KB
  cases hs : soundB N with
  | true =>
   rw [hs] at HF
   go_wp2
   exact HF.out
  | false =>
   rw [hs] at HF
   go_wp2
   exact HF.out
 | false =>
  rw [hd] at HR
  have Hd := hide hd
  obtain ⟨y0, y1, y2, y3, y4, y5, p0, p1⟩ := KB.out _ (Below.refl _ _)
  clear hd
  go_quiet ((go_at_call 108; refine cdays_c P.fr P.till _ _ ⟨by rw [Hd.out], _, rfl⟩))
  go_wp2
  exact HR.out _ (below_drewN' (Below.refl _ _) _)
end
section
open Go.RowKit Go.Shelf
attribute [local go_sem] Oper.semAt_some run_store_func
def WkS (g : Nat) (N : Net) (fr till : Int) (W : World) : Prop :=
 W.cell? ⟨g, 0, none⟩ = some (.slice N.cp N.cals.length N.cc) ∧ W.cell? ⟨g, 1, none⟩ = some (.slice N.np N.names.length N.nc) ∧ W.cell? ⟨g, 2, none⟩ = some (.slice N.op N.oprs.length N.oc) ∧ W.cell? ⟨g, 3, none⟩ = some (.slice N.fp N.offs.length N.fc) ∧ W.cell? ⟨g, 4, none⟩ = some (.slice N.lp N.lins.length N.lc) ∧ W.cell? ⟨g, 5, none⟩ = some (.slice N.kp N.clss.length N.kc) ∧ W.cell? ⟨g, 6, none⟩ = some (.int .i64 fr) ∧ W.cell? ⟨g, 7, none⟩ = some (.int .i64 till)
theorem workC_S {W : World} {g : Nat} {N : Net} {P : Pln} {ct : List Value} (h : Blk W g (workC N P ct) 92) : WkS g N P.fr P.till W := by
 obtain ⟨y0, y1, y2, y3, y4, y5⟩ := h.workN
 obtain ⟨p0, p1, _, _⟩ := h.workP
 exact ⟨y0, y1, y2, y3, y4, y5, p0, p1⟩
theorem workC_set8 (N : Net) (P : Pln) (ct : List Value) (p : Option Addr) (n c : Nat) : (workC N P ct).setIfInBounds 8 (.slice p n c) = workC N { P with np := p, nn := n, nc := c } ct := rfl
theorem workC_set9 (N : Net) (P : Pln) (ct : List Value) (p : Option Addr) (n c : Nat) : (workC N P ct).setIfInBounds 9 (.slice p n c) = workC N { P with dp := p, dn := n, dc := c } ct := rfl
theorem workC_set10 (N : Net) (P : Pln) (u v x y : Value) : ((workC N P [u, v]).setIfInBounds 10 x).setIfInBounds 11 y = workC N P [x, y] := rfl
theorem WkS8 {W : World} {g : Nat} {N : Net} {P : Pln} {ct : List Value} (h : Blk W g (workC N P ct) 92) (p : Option Addr) (n c : Nat) : WkS g N P.fr P.till (W.setCell ⟨g, 8, none⟩ (.slice p n c)) := by
 have := h.set 8 (.slice p n c)
 rw [workC_set8] at this
 exact workC_S (P := { P with np := p, nn := n, nc := c }) this
theorem WkS9 {W : World} {g : Nat} {N : Net} {P : Pln} {ct : List Value} (h : Blk W g (workC N P ct) 92) (p : Option Addr) (n c : Nat) : WkS g N P.fr P.till (W.setCell ⟨g, 9, none⟩ (.slice p n c)) := by
 have := h.set 9 (.slice p n c)
 rw [workC_set9] at this
 exact workC_S (P := { P with dp := p, dn := n, dc := c }) this
set_option maxRecDepth 100000 in
set_option maxHeartbeats 1000000 in
theorem cRoute_c (N : Net) (P : Pln) (ct : List Value) (g : Nat) (w : World) (R) (hw : Blk w g (workC N P ct) 92) (hk : KwAt w) (hN : NetAt w N) (hS : soundB N = true) (hd : daysOk P.fr P.till = true)
  (hR : ∀ w2 gm, Below w.heap.size w w2 → MtO w.heap.size w2 gm N.offs.length (nextF' N P.fr P.till) → R (.returned (.int .i64 0)) (w2.setCell ⟨g, 8, none⟩ (.slice (some ⟨gm, 0, none⟩) N.offs.length N.offs.length))) :
  Calls Tryz.prog 36 #[.pointer (some ⟨g, 0, none⟩)] w R := by
 have HR := hide hR; have HN := hide hN; have HK := hide hk; have HS := hide hS; have HW := hide hw
 have hS0 := workC_S hw
 have hdd : 0 ≤ P.fr ∧ P.fr < P.till ∧ P.till ≤ 600 ∧ P.till - P.fr ≤ 60 := by
  unfold daysOk at hd; simp only [Bool.and_eq_true, decide_eq_true_eq] at hd; exact ⟨hd.1.1.1, hd.1.1.2, hd.1.2, hd.2⟩
 obtain ⟨d1, d2, d3, d4⟩ := hdd
 have KB : Hid (∀ W', Below w.heap.size w W' → WkS g N P.fr P.till W') := hide (fun W' hb => workC_S (hw.next hb))
 have e1 : IntKind.i64.wrap (1440 * P.fr) = 1440 * P.fr := IntWalk.i64_in _ (by omega)
 have e2 : IntKind.i64.wrap (1440 * P.till) = 1440 * P.till := IntWalk.i64_in _ (by omega)
 clear hR hN hk hw hS hd hS0
 go_enter Tryz.func36, Tryz.ntmps36
 go_wp2
 go_region_held3 (fun W' => W'.cell? ⟨g, 0, none⟩ = some (.slice N.cp N.cals.length N.cc) ∧ W'.cell? ⟨g, 1, none⟩ = some (.slice N.np N.names.length N.nc) ∧ W'.cell? ⟨g, 2, none⟩ = some (.slice N.op N.oprs.length N.oc) ∧ W'.cell? ⟨g, 3, none⟩ = some (.slice N.fp N.offs.length N.fc) ∧ W'.cell? ⟨g, 4, none⟩ = some (.slice N.lp N.lins.length N.lc) ∧ W'.cell? ⟨g, 5, none⟩ = some (.slice N.kp N.clss.length N.kc) ∧ W'.cell? ⟨g, 6, none⟩ = some (.int .i64 P.fr) ∧ W'.cell? ⟨g, 7, none⟩ = some (.int .i64 P.till))
  (first | exact KB.out _ (Below.refl _ _).drew | exact KB.out _ hbb | exact WkS8 HW2.out _ _ _)
  (first
  | (go_at_call 109
     refine next_c N (1440 * P.fr) (1440 * P.till) _ _ (HK.out.next (Below.refl _ _).drew) (HN.out.next (Below.refl _ _).drew) HS.out (by omega) (by omega) (by omega) (by omega) (fun W' gm hb hm => ?_)
     have hbb : Below w.heap.size w W' := bseq (Below.refl _ _).drew hb
     have HW2 := hide (HW.out.next hbb)
     have HM2 := hide hm
     have c8 := HW2.out.workP.2.2.1
     have f8 := HW2.out.free 8
     clear hm))
 have HF := hide (HR.out _ gm hbb HM2.out)
 clear hbb hb KB c8 f8 HW2 HM2
 go_wp2
 exact HF.out
set_option maxRecDepth 100000 in
set_option maxHeartbeats 1000000 in
theorem cPromise_c (N : Net) (P : Pln) (ct : List Value) (nx : Mat) (g : Nat) (w : World) (R) (hw : Blk w g (workC N P ct) 92) (hk : KwAt w) (hN : NetAt w N) (hS : soundB N = true) (hd : daysOk P.fr P.till = true) (hnn : P.nn = N.offs.length) (hM : MatAt w P.np N.offs.length nx) (hF : Formed N nx)
  (hR : ∀ w2 gd, Below w.heap.size w w2 → CubeB w2 N.clss.length N.offs.length (fun k o d => mostF N nx k o d P.fr P.till) gd → R (.returned (.int .i64 0)) (w2.setCell ⟨g, 9, none⟩ (.slice (some ⟨gd, 0, none⟩) N.clss.length N.clss.length))) :
  Calls Tryz.prog 38 #[.pointer (some ⟨g, 0, none⟩)] w R := by
 have HR := hide hR; have HN := hide hN; have HK := hide hk; have HS := hide hS; have HW := hide hw; have HM := hide hM; have HF := hide hF
 have hdd : 0 ≤ P.fr ∧ P.fr < P.till ∧ P.till ≤ 600 ∧ P.till - P.fr ≤ 60 := by
  unfold daysOk at hd; simp only [Bool.and_eq_true, decide_eq_true_eq] at hd; exact ⟨hd.1.1.1, hd.1.1.2, hd.1.2, hd.2⟩
 obtain ⟨d1, d2, d3, d4⟩ := hdd
 have KB : Hid (∀ W', Below w.heap.size w W' → W'.cell? ⟨g, 0, none⟩ = some (.slice N.cp N.cals.length N.cc) ∧ W'.cell? ⟨g, 1, none⟩ = some (.slice N.np N.names.length N.nc) ∧ W'.cell? ⟨g, 2, none⟩ = some (.slice N.op N.oprs.length N.oc) ∧ W'.cell? ⟨g, 3, none⟩ = some (.slice N.fp N.offs.length N.fc) ∧ W'.cell? ⟨g, 4, none⟩ = some (.slice N.lp N.lins.length N.lc) ∧ W'.cell? ⟨g, 5, none⟩ = some (.slice N.kp N.clss.length N.kc) ∧ W'.cell? ⟨g, 6, none⟩ = some (.int .i64 P.fr) ∧ W'.cell? ⟨g, 7, none⟩ = some (.int .i64 P.till) ∧ W'.cell? ⟨g, 8, none⟩ = some (.slice P.np N.offs.length P.nc)) := hide (fun W' hb => by
  obtain ⟨a1, a2, a3, a4, a5, a6, a7, a8⟩ := workC_S (hw.next hb)
  exact ⟨a1, a2, a3, a4, a5, a6, a7, a8, by have := (hw.next hb).workP.2.2.1; rwa [hnn] at this⟩)
 have KC : Hid (∀ (W' : World) v, Blk W' g (workC N P ct) 92 → (W'.setCell ⟨g, 9, none⟩ v).cell? ⟨g, 8, none⟩ = some (.slice P.np N.offs.length P.nc)) := hide (fun W' v h => by rw [← hnn]; exact (h.set 9 v).cell rfl)
 clear hR hN hk hw hS hd hM hF
 go_enter Tryz.func38, Tryz.ntmps38
 go_wp2
 go_region_held3 (fun W' => W'.cell? ⟨g, 0, none⟩ = some (.slice N.cp N.cals.length N.cc) ∧ W'.cell? ⟨g, 1, none⟩ = some (.slice N.np N.names.length N.nc) ∧ W'.cell? ⟨g, 2, none⟩ = some (.slice N.op N.oprs.length N.oc) ∧ W'.cell? ⟨g, 3, none⟩ = some (.slice N.fp N.offs.length N.fc) ∧ W'.cell? ⟨g, 4, none⟩ = some (.slice N.lp N.lins.length N.lc) ∧ W'.cell? ⟨g, 5, none⟩ = some (.slice N.kp N.clss.length N.kc) ∧ W'.cell? ⟨g, 6, none⟩ = some (.int .i64 P.fr) ∧ W'.cell? ⟨g, 7, none⟩ = some (.int .i64 P.till) ∧ W'.cell? ⟨g, 8, none⟩ = some (.slice P.np N.offs.length P.nc))
  (first | exact KB.out _ (Below.refl _ _).drew | exact KB.out _ hbb | exact ⟨HA.out.1, HA.out.2.1, HA.out.2.2.1, HA.out.2.2.2.1, HA.out.2.2.2.2.1, HA.out.2.2.2.2.2.1, HA.out.2.2.2.2.2.2.1, HA.out.2.2.2.2.2.2.2, KC.out _ _ HW2.out⟩)
  (first
  | (go_at_call 111
     refine pTable_c N P.np P.nc nx P.fr P.till _ _ (HK.out.next (Below.refl _ _).drew) (HN.out.next (Below.refl _ _).drew) HS.out (HM.out.next (Below.refl _ _).drew) HF.out d1 d2 d3 d4 (fun W' gd hb hm => ?_)
     have hbb : Below w.heap.size w W' := bseq (Below.refl _ _).drew hb
     have HW2 := hide (HW.out.next hbb)
     have HM2 := hide hm
     have HA := hide (WkS9 HW2.out (some ⟨gd, 0, none⟩) N.clss.length N.clss.length)
     have c8 := HW2.out.workP.2.2.2
     have f8 := HW2.out.free 9
     clear hm))
 have HF2 := hide (HR.out _ gd hbb HM2.out)
 clear hbb hb KB KC c8 f8 HW2 HM2 HA
 go_wp2
 exact HF2.out
end
section
open Go.RowKit Go.Shelf
attribute [local go_sem] Oper.semAt_some run_store_func
def WkT (g : Nat) (N : Net) (P : Pln) (W : World) : Prop :=
 W.cell? ⟨g, 0, none⟩ = some (.slice N.cp N.cals.length N.cc) ∧ W.cell? ⟨g, 1, none⟩ = some (.slice N.np N.names.length N.nc) ∧ W.cell? ⟨g, 2, none⟩ = some (.slice N.op N.oprs.length N.oc) ∧ W.cell? ⟨g, 3, none⟩ = some (.slice N.fp N.offs.length N.fc) ∧ W.cell? ⟨g, 4, none⟩ = some (.slice N.lp N.lins.length N.lc) ∧ W.cell? ⟨g, 5, none⟩ = some (.slice N.kp N.clss.length N.kc) ∧ W.cell? ⟨g, 6, none⟩ = some (.int .i64 P.fr) ∧ W.cell? ⟨g, 7, none⟩ = some (.int .i64 P.till) ∧ W.cell? ⟨g, 8, none⟩ = some (.slice P.np P.nn P.nc) ∧ W.cell? ⟨g, 9, none⟩ = some (.slice P.dp P.dn P.dc)
theorem workC_T {W : World} {g : Nat} {N : Net} {P : Pln} {ct : List Value} (h : Blk W g (workC N P ct) 92) : WkT g N P W := by
 obtain ⟨y0, y1, y2, y3, y4, y5⟩ := h.workN
 obtain ⟨p0, p1, p2, p3⟩ := h.workP
 exact ⟨y0, y1, y2, y3, y4, y5, p0, p1, p2, p3⟩
theorem WkT10 {W : World} {g : Nat} {N : Net} {P : Pln} {u v : Value} (h : Blk W g (workC N P [u, v]) 92) (x y : Value) : WkT g N P ((W.setCell ⟨g, 10, none⟩ x).setCell ⟨g, 11, none⟩ y) := by
 have := (h.set 10 x).set 11 y
 rw [workC_set10] at this
 exact workC_T this
set_option maxRecDepth 100000 in
set_option maxHeartbeats 1000000 in
theorem cCertify_c (N : Net) (P : Pln) (u v : Value) (nx : Mat) (C : Cube) (g : Nat) (w : World) (R) (hw : Blk w g (workC N P [u, v]) 92) (hk : KwAt w) (hN : NetAt w N) (hS : soundB N = true) (hM : MatAt w P.np N.offs.length nx) (hC : CubeAt w P.dp N.clss.length N.offs.length C) (hP : WrP N P nx C)
  (hok : ∀ w2 p cap, (numsF N nx C P.fr P.till).length ≤ 40000 → Below w.heap.size w w2 → w2.ownsRow w.heap.size 3 1 (.slice p (numsF N nx C P.fr P.till).length cap) (numsF N nx C P.fr P.till).length ((numsF N nx C P.fr P.till).map (Value.int .i64)) →
   R (.returned (.int .i64 0)) ((w2.setCell ⟨g, 10, none⟩ (.slice p (numsF N nx C P.fr P.till).length cap)).setCell ⟨g, 11, none⟩ (.int .i64 (sealF (numsF N nx C P.fr P.till)))))
  (her : ∀ w2, 40000 < (numsF N nx C P.fr P.till).length → Below w.heap.size w w2 → R (.returned (.int .i64 2)) ((w2.setCell ⟨g, 10, none⟩ (.slice none 0 0)).setCell ⟨g, 11, none⟩ (.int .i64 0))) :
  Calls Tryz.prog 39 #[.pointer (some ⟨g, 0, none⟩)] w R := by
 have HOk := hide hok; have HEr := hide her; have HN := hide hN; have HK := hide hk; have HS := hide hS; have HW := hide hw; have HM := hide hM; have HC := hide hC; have HP := hide hP
 have KB : Hid (∀ W', Below w.heap.size w W' → WkT g N P W') := hide (fun W' hb => workC_T (hw.next hb))
 obtain ⟨xs, hxs⟩ : ∃ xs, numsF N nx C P.fr P.till = xs := ⟨_, rfl⟩
 rw [hxs] at HOk HEr
 have Hxs := hide hxs
 clear hok her hN hk hS hw hM hC hP hxs
 by_cases hbig : xs.length ≤ 40000
 ·have Hbig := hide hbig
  clear hbig
  go_enter Tryz.func39, Tryz.ntmps39
  go_wp2
  go_region_held3 (fun W' => W'.cell? ⟨g, 0, none⟩ = some (.slice N.cp N.cals.length N.cc) ∧ W'.cell? ⟨g, 1, none⟩ = some (.slice N.np N.names.length N.nc) ∧ W'.cell? ⟨g, 2, none⟩ = some (.slice N.op N.oprs.length N.oc) ∧ W'.cell? ⟨g, 3, none⟩ = some (.slice N.fp N.offs.length N.fc) ∧ W'.cell? ⟨g, 4, none⟩ = some (.slice N.lp N.lins.length N.lc) ∧ W'.cell? ⟨g, 5, none⟩ = some (.slice N.kp N.clss.length N.kc) ∧ W'.cell? ⟨g, 6, none⟩ = some (.int .i64 P.fr) ∧ W'.cell? ⟨g, 7, none⟩ = some (.int .i64 P.till) ∧ W'.cell? ⟨g, 8, none⟩ = some (.slice P.np P.nn P.nc) ∧ W'.cell? ⟨g, 9, none⟩ = some (.slice P.dp P.dn P.dc))
   (first | exact KB.out _ (Below.refl _ _).drew | exact KB.out _ hbb | exact WkT10 HW2.out _ _)
   (first
   | (go_at_call 112
      refine wWrite_c N P nx C _ _ (HK.out.next (Below.refl _ _).drew) (HN.out.next (Below.refl _ _).drew) HS.out (HM.out.next (Below.refl _ _).drew) (HC.out.next (Below.refl _ _).drew) HP.out (fun W' p cap hl hb hrow => ?_) (fun W' hl hb => absurd (Hbig.out) (by rw [Hxs.out] at hl; omega))
      rw [Hxs.out]
      rw [Hxs.out] at hrow
      have hbb : Below w.heap.size w W' := bseq (Below.refl _ _).drew hb
      have HW2 := hide (HW.out.next hbb)
      have HRow := hide hrow
      have c10 := HW2.out.cell (k := 10) (v := u) rfl; have c11 := HW2.out.cell (k := 11) (v := v) rfl
      have f10 := HW2.out.free 10; have f11 := HW2.out.free 11
      clear hrow hl))
  have HF := hide (HOk.out _ p cap Hbig.out hbb HRow.out)
  clear hbb hb KB c10 c11 f10 f11 HW2 HRow
  go_wp2
  exact HF.out
 ·have Hbig := hide (show 40000 < xs.length by omega)
  clear hbig
  go_enter Tryz.func39, Tryz.ntmps39
  go_wp2
  go_region_held3 (fun W' => W'.cell? ⟨g, 0, none⟩ = some (.slice N.cp N.cals.length N.cc) ∧ W'.cell? ⟨g, 1, none⟩ = some (.slice N.np N.names.length N.nc) ∧ W'.cell? ⟨g, 2, none⟩ = some (.slice N.op N.oprs.length N.oc) ∧ W'.cell? ⟨g, 3, none⟩ = some (.slice N.fp N.offs.length N.fc) ∧ W'.cell? ⟨g, 4, none⟩ = some (.slice N.lp N.lins.length N.lc) ∧ W'.cell? ⟨g, 5, none⟩ = some (.slice N.kp N.clss.length N.kc) ∧ W'.cell? ⟨g, 6, none⟩ = some (.int .i64 P.fr) ∧ W'.cell? ⟨g, 7, none⟩ = some (.int .i64 P.till) ∧ W'.cell? ⟨g, 8, none⟩ = some (.slice P.np P.nn P.nc) ∧ W'.cell? ⟨g, 9, none⟩ = some (.slice P.dp P.dn P.dc))
   (first | exact KB.out _ (Below.refl _ _).drew | exact KB.out _ hbb | exact WkT10 HW2.out _ _)
   (first
   | (go_at_call 112
      refine wWrite_c N P nx C _ _ (HK.out.next (Below.refl _ _).drew) (HN.out.next (Below.refl _ _).drew) HS.out (HM.out.next (Below.refl _ _).drew) (HC.out.next (Below.refl _ _).drew) HP.out (fun W' p cap hl hb hrow => absurd (Hbig.out) (by rw [Hxs.out] at hl; omega)) (fun W' hl hb => ?_)
      have hbb : Below w.heap.size w W' := bseq (Below.refl _ _).drew hb
      have HW2 := hide (HW.out.next hbb)
      have c10 := HW2.out.cell (k := 10) (v := u) rfl; have c11 := HW2.out.cell (k := 11) (v := v) rfl
      have f10 := HW2.out.free 10; have f11 := HW2.out.free 11
      clear hl))
  have HF := hide (HEr.out _ Hbig.out hbb)
  clear hbb hb KB c10 c11 f10 f11 HW2
  go_wp2
  exact HF.out
end
end Go.Proofs.YtgfhcmidnbahjaaGreatDoor
