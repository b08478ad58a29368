/- Routing: bounds. Routing: the best line; Next; Bounds. Routing: Next, Bounds. -/
import Derived.Test.YtgfhcmidnbahjaaGreatDoorZ18
set_option linter.unusedVariables false
set_option linter.unusedSimpArgs false
namespace Go.Proofs.YtgfhcmidnbahjaaGreatDoor
open Go.RowKit Go.Shelf

set_option maxRecDepth 100000 in
theorem bnd1_c (i j : Int) (w : World) (R) (hR : R (.returned (.int .i64 noneI)) w) : Calls Tryz.prog 135 #[.int .i64 i, .int .i64 j] w R := by
  have HR := hide hR
  clear hR
  go_enter Tryz.func135, Tryz.ntmps135
  go_wp2
  exact HR.out
/-- Costs in range. -/
def CostR (m : Nat) (cost : Nat → Int) : Prop := ∀ i, i < m → cost i = noneI ∨ (2 ≤ cost i ∧ cost i ≤ 100000)
theorem least_low {N : Net} {cost : Nat → Int} (hC : CostR N.lins.length cost) : ∀ k, k ≤ N.lins.length → LowB N.offs.length 100000 (leastM N cost k)
  | 0, _ => fun i j _ _ => .inl rfl
  | k + 1, hk => fun i j hi hj => by
    have ih := least_low hC k (by omega)
    simp only [leastM]
    rcases hC k (by omega) with hc | hc
    · rw [if_pos hc]; exact ih i j hi hj
    · have hne : cost k ≠ noneI := by unfold noneI; omega
      rw [if_neg hne]
      unfold updM
      split
      · next h =>
        right
        have := ih i j hi hj
        rw [← h.1, ← h.2]
        rcases this with h2 | h2
        · rw [h2]; unfold noneI; omega
        · omega
      · exact ih i j hi hj
set_option maxRecDepth 100000 in
set_option maxHeartbeats 4000000 in
theorem bnd2_c (p : Option Addr) (n c ge gs i j : Nat) (M : Nat → Nat → Int) (w : World) (R) (hn : n ≤ 40) (hi : i < n) (hj : j < n) (hL : LowB n 1000000000 M) (he : Blk w ge #[.int .i64 0] 43) (hg : Blk w gs #[.slice p n c] 36) (h : MatAt w p n M)
    (hR : ∀ w', Below w.heap.size w w' → R (.returned (.int .i64 (if M i j = noneI then -1 else -(M i j)))) w') :
    Calls Tryz.prog 137 #[.int .i64 (i : Int), .int .i64 (j : Int), .pointer (some ⟨ge, 0, none⟩), .pointer (some ⟨gs, 0, none⟩)] w R := by
  obtain ⟨b, o, b', o', c', hp, hr, hc⟩ := h i hi
  have c0 := hc j hj
  have x0 := hg.cell (k := 0) (v := .slice p n c) rfl
  have x1 := he.cell (k := 0) (v := .int .i64 0) rfl
  rw [hp] at x0
  have hm := hL i j hi hj
  have q1 : (0 : Int) ≤ (i : Int) := by omega
  have q2 : (i : Int) < (n : Int) := by omega
  have q3 : (0 : Int) ≤ (j : Int) := by omega
  have q4 : (j : Int) < (n : Int) := by omega
  clear hc hp hg h hL he
  generalize M i j = m at *
  have HR := hide (hR w (Below.refl _ _))
  clear hR
  by_cases hmn : m = noneI
  · rw [if_pos hmn] at HR
    unfold noneI at hmn
    subst hmn
    clear hm
    go_enter Tryz.func137, Tryz.ntmps137
    go_wp2
    exact HR.out
  · rw [if_neg hmn] at HR
    have e0 : (m == (-1099511627776 : Int)) = false := by
      unfold noneI at hmn
      simpa using hmn
    have e1 : IntKind.i64.wrap (-m) = -m := IntWalk.i64_in _ (by omega)
    clear hm hmn
    go_enter Tryz.func137, Tryz.ntmps137
    go_wp2
    exact HR.out
set_option maxRecDepth 100000 in
set_option maxHeartbeats 4000000 in
theorem bounds_c (N : Net) (gc : Nat) (cost : Nat → Int) (w : World) (R) (hN : NetAt w N) (hS : Snd N) (hc : RowAt w gc 0 N.lins.length cost) (hC : CostR N.lins.length cost)
    (hR : ∀ w' g, Below w.heap.size w w' → MtO w.heap.size w' g N.offs.length (boundM N cost) → R (.returned (.slice (some ⟨g, 0, none⟩) N.offs.length N.offs.length)) w') :
    Calls Tryz.prog 66 #[.agg N.cells, .slice (some ⟨gc, 0, none⟩) N.lins.length N.lins.length] w R := by
  have HR := hide hR; have HN := hide hN; have HSnd := hide hS; have HC := hide hC
  obtain ⟨w1, hw1, hb1, k1, hs1⟩ := net_box N w
  have HB1 := hide hb1; have HK1 := hide k1; have Hs1 := hide hs1; have HRow := hide (hc.next hb1)
  obtain ⟨y0, y1, y2, y3, y4, y5⟩ := k1.net6
  have hno : N.offs.length ≤ 12 := hS.noff
  have hnl : N.lins.length ≤ 40 := hS.nlin
  unfold Net.cells at hw1
  clear hR hN hS hc hC hb1 k1 hs1
  unfold Net.cells
  go_enter Tryz.func66, Tryz.ntmps66
  go_wp2_with (go_at_call 134; refine Stop.out ?_)
  refine Stop.go (table_c N 135 #[] (fun _ _ => noneI) w1 _ (by omega) (enters_of Tryz.func135 (by kernel_rfl) rfl) ?_ ?_)
  · intro i j W hi hj hb R' hR'
    exact bnd1_c _ _ W R' (hR' W (Below.refl _ _))
  intro w2 g hb hM
  have HB2 := hide hb; have HM := hide hM
  have z4 := (HK1.out.next hb).net6.2.2.2.2.1
  have hg1 : w1.heap.size ≤ g := hM.1
  clear hb hM y0 y1 y2 y3 y4 y5 hw1
  go_wp2
  clear z4
  go_loopw [15] (fun si wr => ∃ k : Nat, k ≤ N.lins.length ∧ si = .int .i64 k ∧ Hid (MtO w1.heap.size wr g N.offs.length (leastM N cost k)) ∧ Hid (Below w1.heap.size w1 wr)) (fun si _ => N.lins.length - (intOf si).toNat)
  case atStart => exact ⟨0, Nat.zero_le _, rfl, HM, HB2⟩
  case round =>
    clear HM HB2
    obtain ⟨k, hk, rfl, HM, HB⟩ := hrel
    by_cases hlt : k < N.lins.length
    · obtain ⟨s, kk, l, o, c, hX, hs, hkk⟩ := HSnd.out.linX (i := k) hlt
      have HX := hide hX
      have HN2 := hide (HN.out.next (bseq HB1.out HB.out))
      obtain ⟨b1, o1, l', hp1, hl', _, l0, l1, l2, l3, l4, l5⟩ := HN2.out.lin_ (i := k) hlt
      rw [hX.lin] at hl'; injection hl' with hl'; subst hl'
      have hP := linP_of (HSnd.out.lin k hlt)
      rw [getD_some hX.lin] at hP
      obtain ⟨d, hd⟩ : ∃ d : Nat, l.dst = (d : Int) := ⟨l.dst.toNat, (Int.toNat_of_nonneg hP.dst.1).symm⟩
      have hdlt : d < N.offs.length := by have := hP.dst.2; omega
      have hss : l.src = (s : Int) := hX.src
      rw [hss] at l1
      rw [hd] at l2
      have hlin : linOf N (k : Int) = l := hX.linOf
      have Hst := hide (show leastM N cost (k + 1) = if cost k = noneI then leastM N cost k else updM (leastM N cost k) s d (max (leastM N cost k s d) (-cost k)) by
        rw [leastM, hlin, hss, hd]; rfl)
      have hlow := least_low HC.out k hk s d hs hdlt
      have hcr := HC.out k hlt
      have HCk := hide ((HRow.out.next HB.out) k hlt)
      have Hp1 := hide hp1
      rw [hp1]
      have q1 : (0 : Int) ≤ (k : Int) := by omega
      have q2 : (k : Int) < (N.lins.length : Int) := by omega
      obtain ⟨w3, hw3⟩ : ∃ w3, wr.alloc (.cells #[.string l.name, .int .i64 (s : Int), .int .i64 (d : Int), .int .i64 l.at_, .int .i64 l.travel, .int .i64 l.load] 55) = w3 := ⟨_, rfl⟩
      have hb3 : Below wr.heap.size wr w3 := hw3 ▸ balloc (Below.refl _ _) _
      have kl : Blk w3 wr.heap.size #[.string l.name, .int .i64 (s : Int), .int .i64 (d : Int), .int .i64 l.at_, .int .i64 l.travel, .int .i64 l.load] 55 := by rw [← hw3]; exact Blk.new _ _ _
      have c0 : w3.cell? ⟨gc, k, none⟩ = some (.int .i64 (cost k)) := by have := cell_later hb3 HCk.out; rwa [Nat.zero_add] at this
      have m1 := kl.cell (k := 1) (v := .int .i64 (s : Int)) rfl
      have m2 := kl.cell (k := 2) (v := .int .i64 (d : Int)) rfl
      have HM3 := hide (HM.out.next hb3)
      have HB3 := hide (bseq HB.out hb3)
      clear hX hP hd hss hlin hp1 hk kl hb3 HM HB
      by_cases hcn : cost k = noneI
      · have HM4 : Hid (MtO w1.heap.size w3 g N.offs.length (leastM N cost (k + 1))) := hide (by rw [Hst.out, if_pos hcn]; exact HM3.out)
        have hcn2 : cost k = -1099511627776 := hcn
        rw [hcn2] at c0
        clear HM3 hcn hcn2 hcr hlow
        go_wp2
        go_roundw
        case rel => exact ⟨k + 1, by omega, by go_num, HM4, HB3⟩
        case measure => simp [intOf]; omega
      · have hcr2 : 2 ≤ cost k ∧ cost k ≤ 100000 := by
          rcases hcr with h | h
          · exact absurd h hcn
          · exact h
        have hst2 := Hst.out
        rw [if_neg hcn] at hst2
        have Hst2 := hide hst2
        obtain ⟨rb, hrb, r0, r1, r2, hput⟩ := HM3.out.row hs hdlt
        have HM4 : Hid (MtO w1.heap.size (w3.drew.setCell ⟨rb, d, none⟩ (.int .i64 (max (leastM N cost k s d) (-cost k)))) g N.offs.length (leastM N cost (k + 1))) := hide (by
          have := hput (max (leastM N cost k s d) (-cost k))
          rw [hst2]
          exact this)
        have HB4 : Hid (Below w1.heap.size w1 (w3.drew.setCell ⟨rb, d, none⟩ (.int .i64 (max (leastM N cost k s d) (-cost k))))) := hide ((HB3.out.drew).setCell (p := ⟨rb, d, none⟩) hrb _)
        have e0 : (cost k == (-1099511627776 : Int)) = false := by simp; omega
        have e0' : (cost k != (-1099511627776 : Int)) = true := by simp; omega
        have e1 : IntKind.i64.wrap (-(cost k)) = -(cost k) := IntWalk.i64_in _ (by omega)
        have q3 : (0 : Int) ≤ (s : Int) := by omega
        have q4 : (s : Int) < (N.offs.length : Int) := by omega
        have q5 : (0 : Int) ≤ (d : Int) := by omega
        have q6 : (d : Int) < (N.offs.length : Int) := by omega
        clear hcr hcr2 hcn hst2 hput HM3 hlow Hst HCk
        generalize cost k = ck at *
        generalize leastM N cost k s d = lk at *
        go_wp2
        go_still_tail 23, (by kernel_rfl)
        have r1' : w3.drew.cell? ⟨rb, d, none⟩ = some (.int .i64 lk) := r1
        have r2' : w3.drew.frozen? ⟨rb, d, none⟩ = false := r2
        change wpList _ _ _ _ _ w3.drew
        clear r0 r1 r2 c0 m1 m2 e0 e0' e1 q1 q2 q3 q4 q5 q6 hw3 HB3
        generalize w3.drew = w4 at *
        go_wp2
        go_roundw
        case rel => exact ⟨k + 1, by omega, by go_num, HM4, HB4⟩
        case measure => simp [intOf]; omega
    · have hkn : k = N.lins.length := by omega
      have q1 : ¬ (k : Int) < (N.lins.length : Int) := by omega
      subst hkn
      have HL := hide (least_low HC.out _ (Nat.le_refl _))
      go_wp2_with (go_at_call 136; refine Stop.out ?_)
      refine Stop.go (star_c (some ⟨g, 0, none⟩) N.offs.length N.offs.length (leastM N cost N.lins.length) wr _ hno HM.out.mat HL.out ?_)
      intro w5 p5 hb5 hm5
      obtain ⟨w6, hw6⟩ : ∃ w6, (w5.alloc (.cells #[.slice p5 N.offs.length N.offs.length] 36)).alloc (.cells #[.int .i64 0] 43) = w6 := ⟨_, rfl⟩
      have hb6 : Below w5.heap.size w5 w6 := hw6 ▸ balloc (balloc (Below.refl _ _) _) _
      have d1 : Blk w6 w5.heap.size #[.slice p5 N.offs.length N.offs.length] 36 := by rw [← hw6]; exact Blk.alloc (Blk.new _ _ _) _
      have d2 : Blk w6 (w5.heap.size + 1) #[.int .i64 0] 43 := by rw [← hw6]; exact Blk.new_at (by simp)
      have c1 := d2.cell (k := 0) (v := .int .i64 0) rfl
      have f1 := d2.free 0
      obtain ⟨w7, hw7⟩ : ∃ w7, w6.setCell ⟨w5.heap.size + 1, 0, none⟩ (.int .i64 0) = w7 := ⟨_, rfl⟩
      have hb7 : Below w5.heap.size w5 w7 := hw7 ▸ hb6.setCell (p := ⟨w5.heap.size + 1, 0, none⟩) (Nat.le_succ _) _
      have d3 : Blk w7 w5.heap.size #[.slice p5 N.offs.length N.offs.length] 36 := by rw [← hw7]; exact d1.far (p := ⟨w5.heap.size + 1, 0, none⟩) (show w5.heap.size ≠ w5.heap.size + 1 by omega) _
      have d4 : Blk w7 (w5.heap.size + 1) #[.int .i64 0] 43 := by rw [← hw7]; exact d2.set 0 (.int .i64 0)
      have HB6 := hide (bseq HB.out (bseq hb5 hb7))
      have HM6 := hide (hm5.next hb7); have HD1 := hide d3; have HD2 := hide d4
      obtain ⟨y0, y1, y2, y3, y4, y5⟩ := (HK1.out.below HB6.out (by have := Hs1.out; omega)).net6
      clear hb5 hm5 hb6 d1 d2 d3 d4 hb7 HM HB q1
      go_wp2_with (go_at_call 134; refine Stop.out ?_)
      clear hw6 hw7 c1 f1
      refine Stop.go (table_c N 137 #[.pointer (some ⟨w5.heap.size + 1, 0, none⟩), .pointer (some ⟨w5.heap.size, 0, none⟩)] (boundM N cost) w7 _ (by omega) (enters_of Tryz.func137 (by kernel_rfl) rfl) ?_ ?_)
      · intro i j W hi hj hb R' hR'
        exact bnd2_c p5 N.offs.length N.offs.length (w5.heap.size + 1) w5.heap.size i j (starM (leastM N cost N.lins.length) N.offs.length) W R' (by omega) hi hj (star_fit HL.out hno (Nat.le_refl _)) (HD2.out.next hb) (HD1.out.next hb) (HM6.out.next hb) hR'
      intro w8 g8 hb8 hm8
      have HF := hide (HR.out _ _ (bseq HB1.out (bseq HB6.out hb8)) (hm8.mono (by have := HB1.out.size; have := HB6.out.size; omega)))
      clear hb8 hm8 y0 y1 y2 y3 y4 y5
      go_wp2
      exact HF.out
end Go.Proofs.YtgfhcmidnbahjaaGreatDoor

namespace Go.Proofs.YtgfhcmidnbahjaaGreatDoor
open Go.RowKit Go.Shelf

theorem find_none_succ {p : Nat → Bool} {k : Nat} (h : ∀ i, i < k → p i = false) (hk : p k = false) : ∀ i, i < k + 1 → p i = false := fun i hi => by
  by_cases e : i = k
  · rw [e]; exact hk
  · exact h i (by omega)
theorem find_range {p : Nat → Bool} {m k : Nat} (h : ∀ i, i < k → p i = false) (hk : k < m) (hp : p k = true) : (List.range m).find? p = some k := by
  have e : List.range m = List.range k ++ k :: (List.range (m - k - 1)).map (fun j => k + 1 + j) := by
    apply List.ext_getElem?
    intro x
    by_cases hx : x < k
    · rw [List.getElem?_append_left (by simpa using hx), List.getElem?_range hx, List.getElem?_range (by omega)]
    · rw [List.getElem?_append_right (by simpa using Nat.le_of_not_lt hx), List.length_range]
      by_cases hx2 : x = k
      · subst hx2; rw [Nat.sub_self, List.getElem?_range hk]; rfl
      · rw [show x - k = (x - k - 1) + 1 by omega, List.getElem?_cons_succ, List.getElem?_map]
        by_cases hx3 : x < m
        · rw [List.getElem?_range hx3, List.getElem?_range (by omega)]; simp; omega
        · rw [List.getElem?_eq_none (by simpa using Nat.le_of_not_lt hx3), List.getElem?_eq_none (by simp; omega)]; rfl
  rw [e]
  exact find_first (fun y hy => h y (List.mem_range.1 hy)) hp
/-- Bounds in range. -/
def BndR (n : Nat) (B : Nat → Nat → Int) : Prop := ∀ i j, i < n → j < n → -1 ≤ B i j ∧ B i j ≤ 1000000000
set_option maxRecDepth 100000 in
set_option maxHeartbeats 2000000 in
theorem best_c (N : Net) (gc : Nat) (cost : Nat → Int) (pb : Option Addr) (cb : Nat) (B : Nat → Nat → Int) (o d : Nat) (w : World) (R) (hN : NetAt w N) (hS : Snd N) (hc : RowAt w gc 0 N.lins.length cost) (hC : CostR N.lins.length cost) (hB : MatAt w pb N.offs.length B) (hBR : BndR N.offs.length B)
    (ho : o < N.offs.length) (hd : d < N.offs.length) (hR : ∀ w', Below w.heap.size w w' → R (.returned (.int .i64 (bestF N cost B o d))) w') :
    Calls Tryz.prog 167 #[.agg N.cells, .slice (some ⟨gc, 0, none⟩) N.lins.length N.lins.length, .slice pb N.offs.length cb, .int .i64 (o : Int), .int .i64 (d : Int)] w R := by
  have HR := hide hR; have HN := hide hN; have HSnd := hide hS; have HC := hide hC; have HBR := hide hBR
  obtain ⟨w1, hw1, hb1, k1, hs1⟩ := net_box N w
  have HB1 := hide hb1; have HK1 := hide k1; have Hs1 := hide hs1; have HRow := hide (hc.next hb1); have HM := hide (hB.next hb1)
  have y4 := k1.net6.2.2.2.2.1
  have hno : N.offs.length ≤ 12 := hS.noff
  have hnl : N.lins.length ≤ 40 := hS.nlin
  obtain ⟨bb, bo, bb1, bo1, bc1, hpb, hrow1, hcell1⟩ := hB.next hb1 o ho
  subst hpb
  have HR1 := hide hrow1; have HC1 := hide (hcell1 d hd)
  unfold Net.cells at hw1
  clear hR hN hS hc hC hb1 k1 hs1 hB hBR hrow1 hcell1
  unfold Net.cells
  go_enter Tryz.func167, Tryz.ntmps167
  go_wp2
  go_step3
  go_wp2
  go_step3
  go_wp2
  clear y4 hw1
  go_loopw [11, 17] (fun sf si wr => ∃ k : Nat, k ≤ N.lins.length ∧ sf = .int .i64 (-1) ∧ si = .int .i64 k ∧ Hid (∀ i, i < k → bestP N cost B o d i = false) ∧ Hid (Below w1.heap.size w1 wr)) (fun _ si _ => N.lins.length - (intOf si).toNat)
  case atStart => exact ⟨0, Nat.zero_le _, rfl, rfl, hide (fun i h => by omega), hide (Below.refl _ _)⟩
  case round =>
    obtain ⟨k, hk, rfl, rfl, HP, HB⟩ := hrel
    by_cases hlt : k < N.lins.length
    · obtain ⟨s, kk, l, of, c, hX, hs, hkk⟩ := HSnd.out.linX (i := k) hlt
      have HN2 := hide (HN.out.next (bseq HB1.out HB.out))
      obtain ⟨b1, o1, l', hp1, hl', _, l0, l1, l2, l3, l4, l5⟩ := HN2.out.lin_ (i := k) hlt
      rw [hX.lin] at hl'; injection hl' with hl'; subst hl'
      have hP := linP_of (HSnd.out.lin k hlt)
      rw [getD_some hX.lin] at hP
      obtain ⟨e, he⟩ : ∃ e : Nat, l.dst = (e : Int) := ⟨l.dst.toNat, (Int.toNat_of_nonneg hP.dst.1).symm⟩
      have helt : e < N.offs.length := by have := hP.dst.2; omega
      have hss : l.src = (s : Int) := hX.src
      rw [hss] at l1
      rw [he] at l2
      have hlin : linOf N (k : Int) = l := hX.linOf
      have Hbp := hide (show bestP N cost B o d k = (decide ((s : Int) = (o : Int)) && !decide (cost k = noneI) && !decide (B e d < 0) && decide (cost k + B e d = B o d)) by
        unfold bestP; rw [hlin, hss, he]; rfl)
      have hcr := HC.out k hlt
      have hbr := HBR.out e d helt hd
      obtain ⟨bb', bo', bb2, bo2, bc2, hpb2, hrow2, hcell2⟩ := (HM.out.next HB.out) e helt
      injection hpb2 with hpb2; injection hpb2 with hpb3 hpb4; subst hpb3; subst hpb4
      have HCe := hide (hcell2 d hd)
      have HCk := hide ((HRow.out.next HB.out) k hlt)
      rw [hp1]
      have q1 : (0 : Int) ≤ (k : Int) := by omega
      have q2 : (k : Int) < (N.lins.length : Int) := by omega
      obtain ⟨w3, hw3⟩ : ∃ w3, wr.alloc (.cells #[.string l.name, .int .i64 (s : Int), .int .i64 (e : Int), .int .i64 l.at_, .int .i64 l.travel, .int .i64 l.load] 55) = w3 := ⟨_, rfl⟩
      have hb3 : Below wr.heap.size wr w3 := hw3 ▸ balloc (Below.refl _ _) _
      have kl : Blk w3 wr.heap.size #[.string l.name, .int .i64 (s : Int), .int .i64 (e : Int), .int .i64 l.at_, .int .i64 l.travel, .int .i64 l.load] 55 := by rw [← hw3]; exact Blk.new _ _ _
      have c0 : w3.cell? ⟨gc, k, none⟩ = some (.int .i64 (cost k)) := by have := cell_later hb3 HCk.out; rwa [Nat.zero_add] at this
      have m1 := kl.cell (k := 1) (v := .int .i64 (s : Int)) rfl
      have m2 := kl.cell (k := 2) (v := .int .i64 (e : Int)) rfl
      have n1 := cell_later hb3 hrow2
      have n2 := cell_later hb3 HCe.out
      have n3 := cell_later (bseq HB.out hb3) HR1.out
      have n4 := cell_later (bseq HB.out hb3) HC1.out
      have HB3 := hide (bseq HB.out hb3)
      have q3 : (0 : Int) ≤ (o : Int) := by omega
      have q4 : (o : Int) < (N.offs.length : Int) := by omega
      have q5 : (0 : Int) ≤ (d : Int) := by omega
      have q6 : (d : Int) < (N.offs.length : Int) := by omega
      have q7 : (0 : Int) ≤ (e : Int) := by omega
      have q8 : (e : Int) < (N.offs.length : Int) := by omega
      have hob := HBR.out o d ho hd
      clear hX hP he hss hlin hp1 hk kl hb3 HB hcell2 hrow2 HCe HCk HN2
      by_cases t1 : s = o
      · have t1a : ((s : Int) == (o : Int)) = true := by simp; omega
        have t1b : ((s : Int) != (o : Int)) = false := by simp; omega
        by_cases t2 : cost k = noneI
        · have HP2 := hide (find_none_succ HP.out (by rw [Hbp.out, decide_eq_true t2]; simp))
          have t2a : cost k = -1099511627776 := t2
          rw [t2a] at c0
          clear t2 t2a hcr hbr hob t1 Hbp HP
          go_wp2
          go_roundw
          case rel => exact ⟨k + 1, by omega, rfl, by go_num, HP2, HB3⟩
          case measure => simp [intOf]; omega
        · have t2a : (cost k == (-1099511627776 : Int)) = false := by unfold noneI at t2; simpa using t2
          have t2c : ¬ cost k = -1099511627776 := t2
          by_cases t3 : B e d < 0
          · have HP2 := hide (find_none_succ HP.out (by rw [Hbp.out, decide_eq_true t3]; simp))
            clear t2 hcr hbr hob t1 Hbp HP
            go_wp2
            go_roundw
            case rel => exact ⟨k + 1, by omega, rfl, by go_num, HP2, HB3⟩
            case measure => simp [intOf]; omega
          · have hcr2 : 2 ≤ cost k ∧ cost k ≤ 100000 := by
              rcases hcr with h | h
              · exact absurd h t2
              · exact h
            have e1 : IntKind.i64.wrap (cost k + B e d) = cost k + B e d := IntWalk.i64_in _ (by omega)
            by_cases t4 : cost k + B e d = B o d
            · have hp : bestP N cost B o d k = true := by
                rw [Hbp.out, decide_eq_true (show (s : Int) = (o : Int) by omega), decide_eq_false t2, decide_eq_false t3, decide_eq_true t4]; rfl
              have hF : bestF N cost B o d = (k : Int) := by
                unfold bestF; rw [find_range HP.out hlt hp]
              have HF := hide (fun n => HR.out (w3.drewN n) (bseq HB1.out (below_drewN' HB3.out n)))
              rw [hF] at HF
              have t4a : (cost k + B e d == B o d) = true := by simpa using t4
              clear t2 hcr hbr hob t1 Hbp HP hp hF hcr2 t4
              generalize cost k = ck at *
              generalize B e d = be at *
              generalize B o d = bx at *
              go_wp2
              go_quiet (fail)
              go_wp2
              exact HF.out _
            · have HP2 := hide (find_none_succ HP.out (by rw [Hbp.out, decide_eq_false t4]; simp))
              have HB4 : Hid (∀ n, Below w1.heap.size w1 (w3.drewN n)) := hide (fun n => below_drewN' HB3.out n)
              have t4a : (cost k + B e d == B o d) = false := by simpa using t4
              clear t2 hcr hbr hob t1 Hbp HP hcr2
              generalize cost k = ck at *
              generalize B e d = be at *
              generalize B o d = bx at *
              go_wp2
              go_quiet (fail)
              go_wp2
              go_roundw
              case rel => exact ⟨k + 1, by omega, rfl, by go_num, HP2, hide (HB4.out _)⟩
              case measure => simp [intOf]; omega
      · have HP2 := hide (find_none_succ HP.out (by rw [Hbp.out, decide_eq_false (show ¬ (s : Int) = (o : Int) by omega)]; rfl))
        have t1a : ((s : Int) == (o : Int)) = false := by simp; omega
        have t1b : ((s : Int) != (o : Int)) = true := by simp; omega
        have t1c : ¬ (s : Int) = (o : Int) := by omega
        clear hcr hbr hob t1 Hbp HP
        go_wp2
        go_roundw
        case rel => exact ⟨k + 1, by omega, rfl, by go_num, HP2, HB3⟩
        case measure => simp [intOf]; omega
    · have hkn : k = N.lins.length := by omega
      have q1 : ¬ (k : Int) < (N.lins.length : Int) := by omega
      subst hkn
      have hF : bestF N cost B o d = -1 := by
        unfold bestF
        rw [List.find?_eq_none.2 (fun y hy => by rw [HP.out y (List.mem_range.1 hy)]; simp)]
      have HF := hide (HR.out _ (bseq HB1.out HB.out))
      rw [hF] at HF
      clear hF HB HP
      go_wp2
      exact HF.out
end Go.Proofs.YtgfhcmidnbahjaaGreatDoor

namespace Go.Proofs.YtgfhcmidnbahjaaGreatDoor
open Go.RowKit Go.Shelf

theorem costR_of {N : Net} (h : Snd N) {fr till : Int} (h86 : till ≤ fr + 86400) (h0 : 0 ≤ fr) : CostR N.lins.length (costF N fr till) := fun i hi => cost_range h hi h86 h0
theorem bndR_of {N : Net} (h : Snd N) {cost : Nat → Int} (hC : CostR N.lins.length cost) : BndR N.offs.length (boundM N cost) := fun i j hi hj => by
  have := star_fit (least_low hC _ (Nat.le_refl _)) h.noff (Nat.le_refl _) i j hi hj
  unfold boundM
  split
  · omega
  · next hne =>
    rcases this with h | h
    · exact absurd h hne
    · omega
set_option maxRecDepth 100000 in
set_option maxHeartbeats 2000000 in
theorem next1_c (N : Net) (gc gcb gb gbb gn : Nat) (cost : Nat → Int) (B : Nat → Nat → Int) (o d : Nat) (w : World) (R) (hN : NetAt w N) (hS : Snd N) (hc : RowAt w gc 0 N.lins.length cost) (hC : CostR N.lins.length cost) (hB : MatAt w (some ⟨gb, 0, none⟩) N.offs.length B) (hBR : BndR N.offs.length B)
    (k1 : Blk w gbb #[.slice (some ⟨gb, 0, none⟩) N.offs.length N.offs.length] 36) (k2 : Blk w gn N.cells 29) (k3 : Blk w gcb #[.slice (some ⟨gc, 0, none⟩) N.lins.length N.lins.length] 40)
    (ho : o < N.offs.length) (hd : d < N.offs.length) (hR : ∀ w', Below w.heap.size w w' → R (.returned (.int .i64 (nextM N cost B o d))) w') :
    Calls Tryz.prog 166 #[.int .i64 (o : Int), .int .i64 (d : Int), .pointer (some ⟨gbb, 0, none⟩), .pointer (some ⟨gn, 0, none⟩), .pointer (some ⟨gcb, 0, none⟩)] w R := by
  obtain ⟨bb, bo, bb1, bo1, bc1, hpb, hrow1, hcell1⟩ := hB o ho
  injection hpb with hpb; injection hpb with e1 e2; subst e1; subst e2
  have c0 := hcell1 d hd
  rw [Nat.zero_add] at hrow1
  have x1 := k1.cell (k := 0) (v := .slice (some ⟨gb, 0, none⟩) N.offs.length N.offs.length) rfl
  have x3 := k3.cell (k := 0) (v := .slice (some ⟨gc, 0, none⟩) N.lins.length N.lins.length) rfl
  obtain ⟨y0, y1, y2, y3, y4, y5⟩ := k2.net6
  have q3 : (0 : Int) ≤ (o : Int) := by omega
  have q4 : (o : Int) < (N.offs.length : Int) := by omega
  have q5 : (0 : Int) ≤ (d : Int) := by omega
  have q6 : (d : Int) < (N.offs.length : Int) := by omega
  have HR := hide hR
  have HN := hide hN; have HSn := hide hS; have Hc := hide hc; have HC := hide hC; have HB := hide hB; have HBR := hide hBR
  clear hR hN hS hc hC hB hBR hcell1 k1 k2 k3
  by_cases h1 : o = d
  · have HF := hide (HR.out w (Below.refl _ _))
    simp only [nextM, h1, true_or, if_true] at HF
    have t1 : ((o : Int) == (d : Int)) = true := by simp; omega
    clear h1 HN HSn Hc HC HB HBR
    go_enter Tryz.func166, Tryz.ntmps166
    go_wp2
    exact HF.out
  · have t1 : ((o : Int) == (d : Int)) = false := by simp; omega
    have t1c : ¬ (o : Int) = (d : Int) := by omega
    by_cases h2 : B o d < 0
    · have HF := hide (HR.out w (Below.refl _ _))
      simp only [nextM, h2, or_true, if_true] at HF
      clear h1 HN HSn Hc HC HB HBR
      go_enter Tryz.func166, Tryz.ntmps166
      go_wp2
      exact HF.out
    · have he : nextM N cost B o d = bestF N cost B o d := by unfold nextM; rw [if_neg]; intro h; rcases h with h | h; exact h1 h; exact h2 h
      rw [he] at HR
      clear h1 he
      go_enter Tryz.func166, Tryz.ntmps166
      go_wp2_with (go_at_call 167; refine Stop.out ?_)
      refine Stop.go (best_c N gc cost (some ⟨gb, 0, none⟩) N.offs.length B o d w _ HN.out HSn.out Hc.out HC.out HB.out HBR.out ho hd ?_)
      intro w2 hb
      have HF := hide (HR.out _ hb)
      clear hb y0 y1 y2 y3 y4 y5 x1 x3 c0 hrow1
      go_wp2
      exact HF.out
set_option maxRecDepth 100000 in
set_option maxHeartbeats 2000000 in
theorem next_c (N : Net) (fr till : Int) (w : World) (R) (hk : KwAt w) (hN : NetAt w N) (hS : soundB N = true) (h1 : 0 ≤ fr) (h2 : fr < till) (h3 : till ≤ 2000000) (h4 : till ≤ fr + 86400)
    (hR : ∀ w' g, Below w.heap.size w w' → MtO w.heap.size w' g N.offs.length (nextM N (costF N fr till) (boundM N (costF N fr till))) → R (.returned (.slice (some ⟨g, 0, none⟩) N.offs.length N.offs.length)) w') :
    Calls Tryz.prog 109 #[.agg N.cells, .int .i64 fr, .int .i64 till] w R := by
  have HR := hide hR; have HN := hide hN; have Hkw := hide hk; have HS := hide hS
  have hsnd := snd_of hS
  have HSn := hide hsnd
  have HC := hide (costR_of hsnd h4 h1)
  obtain ⟨w1, hw1, hb1, k1, hs1⟩ := net_box N w
  have HB1 := hide hb1; have HK1 := hide k1; have Hs1 := hide hs1
  obtain ⟨y0, y1, y2, y3, y4, y5⟩ := k1.net6
  have hno : N.offs.length ≤ 12 := hsnd.noff
  unfold Net.cells at hw1
  clear hR hN hS hk hb1 k1 hs1 hsnd
  unfold Net.cells
  go_enter Tryz.func109, Tryz.ntmps109
  go_wp2_with (go_at_call 65; refine Stop.out ?_)
  refine Stop.go (rUsable_c N fr till w1 _ (Hkw.out.next HB1.out) (HN.out.next HB1.out) HS.out h1 h2 h3 h4 ?_)
  intro w2 hb
  have HB2 := hide hb
  obtain ⟨z0, z1, z2, z3, z4, z5⟩ := (HK1.out.next hb).net6
  clear hb y0 y1 y2 y3 y4 y5 hw1
  go_wp2_with (go_at_call 67; refine Stop.out ?_)
  refine Stop.go (costs_c N fr till w2 _ (Hkw.out.next (bseq HB1.out HB2.out)) (HN.out.next (bseq HB1.out HB2.out)) HS.out h1 h2 h3 h4 ?_)
  intro w3 gc hb hrow
  obtain ⟨w4, hw4⟩ : ∃ w4, w3.alloc (.cells #[.slice (some ⟨gc, 0, none⟩) N.lins.length N.lins.length] 40) = w4 := ⟨_, rfl⟩
  have hb4 : Below w3.heap.size w3 w4 := hw4 ▸ balloc (Below.refl _ _) _
  have HK4 : Hid (Blk w4 w3.heap.size #[.slice (some ⟨gc, 0, none⟩) N.lins.length N.lins.length] 40) := hide (by rw [← hw4]; exact Blk.new _ _ _)
  have HB4 := hide (bseq HB2.out (bseq hb hb4)); have HRow := hide (hrow.next hb4)
  clear hb hb4 hrow HB2 z0 z1 z2 z3 z4 z5
  obtain ⟨z0, z1, z2, z3, z4, z5⟩ := (HK1.out.next HB4.out).net6
  have v0 := HK4.out.cell (k := 0) (v := .slice (some ⟨gc, 0, none⟩) N.lins.length N.lins.length) rfl
  go_wp2_with (go_at_call 66; refine Stop.out ?_)
  clear hw4
  refine Stop.go (bounds_c N gc (costF N fr till) w4 _ (HN.out.next (bseq HB1.out HB4.out)) HSn.out HRow.out HC.out ?_)
  intro w5 gb hb hM
  obtain ⟨w6, hw6⟩ : ∃ w6, w5.alloc (.cells #[.slice (some ⟨gb, 0, none⟩) N.offs.length N.offs.length] 36) = w6 := ⟨_, rfl⟩
  have hb6 : Below w5.heap.size w5 w6 := hw6 ▸ balloc (Below.refl _ _) _
  have HK6 : Hid (Blk w6 w5.heap.size #[.slice (some ⟨gb, 0, none⟩) N.offs.length N.offs.length] 36) := hide (by rw [← hw6]; exact Blk.new _ _ _)
  have HK5 := hide (HK4.out.next (bseq hb hb6))
  have HB6 := hide (bseq HB4.out (bseq hb hb6)); have HRow6 := hide (HRow.out.next (bseq hb hb6)); have HM6 := hide (MtO.mat (hM.next hb6))
  clear hb hb6 hM z0 z1 z2 z3 z4 z5 v0 HB4 HK4 HRow
  obtain ⟨z0, z1, z2, z3, z4, z5⟩ := (HK1.out.next HB6.out).net6
  go_wp2_with (go_at_call 134; refine Stop.out ?_)
  clear hw6
  refine Stop.go (table_c N 166 #[.pointer (some ⟨w5.heap.size, 0, none⟩), .pointer (some ⟨w.heap.size, 0, none⟩), .pointer (some ⟨w3.heap.size, 0, none⟩)] (nextM N (costF N fr till) (boundM N (costF N fr till))) w6 _ (by omega) (enters_of Tryz.func166 (by kernel_rfl) rfl) ?_ ?_)
  · intro i j W hi hj hb R' hR'
    exact next1_c N gc w3.heap.size gb w5.heap.size w.heap.size (costF N fr till) (boundM N (costF N fr till)) i j W R' (HN.out.next (bseq HB1.out (bseq HB6.out hb))) HSn.out (HRow6.out.next hb) HC.out (HM6.out.next hb) (bndR_of HSn.out HC.out)
      (HK6.out.next hb) (HK1.out.next (bseq HB6.out hb)) (HK5.out.next hb) hi hj hR'
  intro w7 g7 hb hm
  have HF := hide (HR.out _ _ (bseq HB1.out (bseq HB6.out hb)) (hm.mono (by have := HB1.out.size; have := HB6.out.size; omega)))
  clear hb hm z0 z1 z2 z3 z4 z5
  go_wp2
  exact HF.out
end Go.Proofs.YtgfhcmidnbahjaaGreatDoor
