/- Timetable: the first departure of a line from a time on. Timetable: how long one waits. Routing: usable, table, costs. -/
import Derived.Test.YtgfhcmidnbahjaaGreatDoorJ15
import Derived.Test.YtgfhcmidnbahjaaGreatDoorJ16
set_option linter.unusedVariables false
set_option linter.unusedSimpArgs false
namespace Go.Proofs.YtgfhcmidnbahjaaGreatDoor
section
open Go.RowKit Go.Shelf
attribute [local go_sem] Oper.semAt_some run_store_func
structure FsI (w : World) (N : Net) (c : Cal) (i : Nat) (t : Int) (s2 : Nat) (v3 v4 : Value) (W : World) : Prop where
 below : Below w.heap.size w W
 net : NetAt W N
 k0 : Blk W w.heap.size N.cells 29
 k1 : Blk W (w.heap.size + 1) #[.int .i64 i] 3
 k2 : Blk W (w.heap.size + 1 + 1) #[.int .i64 t] 3
 k3 : Blk W (w.heap.size + 1 + 1 + 1) #[v3] 3
 k4 : Blk W (w.heap.size + 1 + 1 + 1 + 1) #[v4] 4
 k8 : Blk W s2 c.cells.toArray 164
section
variable {w : World} {N : Net} {c : Cal} {i : Nat} {t : Int} {s2 : Nat} {v3 v4 : Value} {W W' : World}
theorem FsI.next (h : FsI w N c i t s2 v3 v4 W) (hb : Below W.heap.size W W') : FsI w N c i t s2 v3 v4 W' :=
 ⟨bseq h.below hb, h.net.next hb, h.k0.next hb, h.k1.next hb, h.k2.next hb, h.k3.next hb, h.k4.next hb, h.k8.next hb⟩
theorem FsI.own {row : Option Nat} {B : Nat} (k : FsI w N c i t s2 v3 v4 W) (hB : w.heap.size ≤ B) (hg : W.grownBy W' row) (hr : ∀ r, row = some r → B ≤ r ∧ ∃ o : Obj, W.heap[r]? = some o ∧ o.isCells = false) : FsI w N c i t s2 v3 v4 W' :=
 ⟨below_own k.below hB hg hr, k.net.keep (keeps_own hg hr), k.k0.own hg hr, k.k1.own hg hr, k.k2.own hg hr, k.k3.own hg hr, k.k4.own hg hr, k.k8.own hg hr⟩
theorem FsI.fin (h : FsI w N c i t s2 v3 v4 W) (hN : NetAt w N) (hs : w.heap.size + 1 + 1 + 1 + 1 < s2) (u3 u4 : Value) : FsI w N c i t s2 u3 u4 ((W.setCell ⟨w.heap.size + 1 + 1 + 1, 0, none⟩ u3).setCell ⟨w.heap.size + 1 + 1 + 1 + 1, 0, none⟩ u4) := by
 have hb := (h.below.setCell (p := ⟨w.heap.size + 1 + 1 + 1, 0, none⟩) (show w.heap.size ≤ w.heap.size + 1 + 1 + 1 by omega) u3).setCell (p := ⟨w.heap.size + 1 + 1 + 1 + 1, 0, none⟩) (show w.heap.size ≤ w.heap.size + 1 + 1 + 1 + 1 by omega) u4
 refine ⟨hb, hN.next hb, ?_, ?_, ?_, ?_, ?_, ?_⟩
 ·exact (h.k0.far (p := ⟨w.heap.size + 1 + 1 + 1, 0, none⟩) (show _ ≠ _ by simp only; omega) u3).far (p := ⟨w.heap.size + 1 + 1 + 1 + 1, 0, none⟩) (show _ ≠ _ by simp only; omega) u4
 ·exact (h.k1.far (p := ⟨w.heap.size + 1 + 1 + 1, 0, none⟩) (show _ ≠ _ by simp only; omega) u3).far (p := ⟨w.heap.size + 1 + 1 + 1 + 1, 0, none⟩) (show _ ≠ _ by simp only; omega) u4
 ·exact (h.k2.far (p := ⟨w.heap.size + 1 + 1 + 1, 0, none⟩) (show _ ≠ _ by simp only; omega) u3).far (p := ⟨w.heap.size + 1 + 1 + 1 + 1, 0, none⟩) (show _ ≠ _ by simp only; omega) u4
 ·exact (h.k3.set 0 u3).far (p := ⟨w.heap.size + 1 + 1 + 1 + 1, 0, none⟩) (show _ ≠ _ by simp only; omega) u4
 ·exact (h.k4.far (p := ⟨w.heap.size + 1 + 1 + 1, 0, none⟩) (show _ ≠ _ by simp only; omega) u3).set 0 u4
 ·exact (h.k8.far (p := ⟨w.heap.size + 1 + 1 + 1, 0, none⟩) (show _ ≠ _ by simp only; omega) u3).far (p := ⟨w.heap.size + 1 + 1 + 1 + 1, 0, none⟩) (show _ ≠ _ by simp only; omega) u4
end
theorem find_first {α : Type} {p : α → Bool} {x : α} {pre post : List α} (h : ∀ y ∈ pre, p y = false) (hx : p x = true) : (pre ++ x :: post).find? p = some x := by
 rw [List.find?_append, List.find?_eq_none.2 (fun y hy => by rw [h y hy]; simp), List.find?_cons_of_pos hx]; rfl
set_option maxRecDepth 100000 in
set_option maxHeartbeats 4000000 in
theorem first_c (N : Net) (i s k : Nat) (l : Lin) (o : Off) (c : Cal) (t : Int) (w : World) (R) (hN : NetAt w N) (hS : Snd N) (hX : LinX N i s k l o c) (h1 : 0 ≤ t) (h2 : t ≤ 100000000)
  (hs : ∀ x w', leaveF c l.at_ t = some x → Below w.heap.size w w' → R (.returned (.tuple #[.int .i64 x, .bool true])) w') (hn : ∀ w', leaveF c l.at_ t = none → Below w.heap.size w w' → R (.returned (.tuple #[.int .i64 0, .bool false])) w') :
  Calls Tryz.prog 198 #[.agg N.cells, .int .i64 (i : Int), .int .i64 t] w R := by
 have HS := hide hs; have HN := hide hn; have HN0 := hide hN; have HX := hide hX
 have hok : calOk c = true := hX.ok hS
 have hC : CalAt w c := hX.at_ hN
 have hat : 0 ≤ l.at_ ∧ l.at_ ≤ 1439 := by
  have hP := linP_of (hS.lin i (List.getElem?_eq_some_iff.1 hX.lin).1)
  rw [getD_some hX.lin] at hP
  exact hP.at_
 have hdy : -1000 ≤ dayOf c t ∧ dayOf c t ≤ 200000 := by
  have hz : -720 ≤ c.zone ∧ c.zone ≤ 840 := by
   unfold calOk at hok
   simp only [Bool.and_eq_true, decide_eq_true_eq] at hok
   exact ⟨hok.1.1.1.1, hok.1.1.1.2⟩
  unfold dayOf
  omega
 have HC := hide hC; have Hok := hide hok; have Hat := hide hat
 obtain ⟨w1, hw1⟩ : ∃ w1, ((((w.alloc (.cells N.cells 29)).alloc (.cells #[.int .i64 (i : Int)] 3)).alloc (.cells #[.int .i64 t] 3)).alloc (.cells #[.int .i64 0] 3)).alloc (.cells #[.bool false] 4) = w1 := ⟨_, rfl⟩
 have hb1 : Below w.heap.size w w1 := hw1 ▸ balloc (balloc (balloc (balloc (balloc (Below.refl _ _) _) _) _) _) _
 have d0 : Blk w1 w.heap.size N.cells 29 := by rw [← hw1]; repeat (first | exact Blk.new_at (by simp) | refine Blk.alloc ?_ _)
 have d1 : Blk w1 (w.heap.size + 1) #[.int .i64 (i : Int)] 3 := by rw [← hw1]; repeat (first | exact Blk.new_at (by simp) | refine Blk.alloc ?_ _)
 have d2 : Blk w1 (w.heap.size + 1 + 1) #[.int .i64 t] 3 := by rw [← hw1]; repeat (first | exact Blk.new_at (by simp) | refine Blk.alloc ?_ _)
 have d3 : Blk w1 (w.heap.size + 1 + 1 + 1) #[.int .i64 0] 3 := by rw [← hw1]; repeat (first | exact Blk.new_at (by simp) | refine Blk.alloc ?_ _)
 have d4 : Blk w1 (w.heap.size + 1 + 1 + 1 + 1) #[.bool false] 4 := by rw [← hw1]; exact Blk.new_at (by simp)
 have HD := hide (And.intro d0 (And.intro d1 (And.intro d2 (And.intro d3 (And.intro d4 hb1)))))
 obtain ⟨x0, x1, x2, x3, x4, x5⟩ := d0.net6
 have y1 := d1.cell (k := 0) (v := .int .i64 (i : Int)) rfl
 have hs1 := d4.lt
 unfold Net.cells at hw1
 clear hs hn hN hX hok hC hb1 d0 d1 d2 d3 d4 hat hS
 refine (callsIn_wide (n := 8)).1 ?_
 refine callsIn_of_wp_marks Tryz.func198 rfl trivial ?_ rfl
 simp only [Tryz.ntmps198, List.size_toArray, List.length_cons, List.length_nil, Nat.reduceAdd, Nat.reduceSub, Array.replicate_succ, Array.replicate_zero, List.push_toArray, List.append_toArray, List.nil_append, List.cons_append]
 refine wpIn_wide.2 ?_
 unfold Net.cells
 go_wp2
 go_step3
 go_wp2_with (go_at_call 252; refine Stop.out ?_)
 refine Stop.go (calendarOf_c N i s k l o c w1 _ (HN0.out.next HD.out.2.2.2.2.2) HX.out ?_)
 intro w2 hb2
 unfold Cal.cells
 have hs2 : w.heap.size + 1 + 1 + 1 + 1 < w2.heap.size := Nat.lt_of_lt_of_le hs1 hb2.size
 have hb3 : Below w1.heap.size w1 (w2.alloc (.cells c.cells.toArray 164)) := balloc hb2 _
 have HI3 := hide (show FsI w N c i t w2.heap.size (.int .i64 0) (.bool false) (w2.alloc (.cells c.cells.toArray 164)) from
  ⟨bseq HD.out.2.2.2.2.2 hb3, HN0.out.next (bseq HD.out.2.2.2.2.2 hb3), HD.out.1.next hb3, HD.out.2.1.next hb3, HD.out.2.2.1.next hb3, HD.out.2.2.2.1.next hb3, HD.out.2.2.2.2.1.next hb3, Blk.new _ _ _⟩)
 have z2 := (HD.out.2.2.1.next hb3).cell (k := 0) (v := .int .i64 t) rfl
 unfold Cal.cells at z2
 clear hb2 hb3 HD hw1 x0 x1 x2 x3 x4 x5 y1
 go_wp2_with (go_at_call 223; refine Stop.out ?_)
 refine Stop.go (local_c c t _ _ ((HX.out.at_ HI3.out.net)) Hok.out (by omega) (by omega) ?_)
 intro w4 hb4
 have HI4 := hide (HI3.out.next hb4)
 have c0 := HI4.out.k8.cell (k := 0) (v := .int .i64 c.zone) rfl; have c1 := HI4.out.k8.cell (k := 1) (v := .slice c.wp c.week.length c.wc) rfl; have c2 := HI4.out.k8.cell (k := 2) (v := .slice c.hp c.hol.length c.hc) rfl
 clear hb4 z2 HI3
 generalize w2.heap.size = s2 at *
 generalize hdd : dayOf c t = d0 at hdy ⊢
 have Hdd := hide hdd
 clear hdd
 have q1 : IntKind.i64.wrap (d0 + 60) = d0 + 60 := IntWalk.i64_in _ (by omega)
 go_wp2
 go_step3
 go_wp2_with (go_at_call 253; refine Stop.out ?_)
 refine Stop.go (workdays_c c d0 (d0 + 60) w4 _ (HX.out.at_ HI4.out.net) ?_)
 intro w5 hb5 hW5 hsz
 have HI5 := hide (HI4.out.next hb5); have HW := hide hW5
 clear hb5 hW5 c0 c1 c2 
 have hg3 : s2 < w4.heap.size := HI4.out.k8.lt
 have hg4 : w.heap.size ≤ w4.heap.size := HI4.out.below.size
 clear HI4
 go_wp2
 refine (wpIn_wide (n := 8)).1 ?_
 refine rangeFunc_G rfl (enters_of Tryz.func305 (by kernel_rfl) rfl) (workdays_it c d0 (d0 + 60) 61 w4.heap.size w5 HW.out Hok.out (by omega) (by omega) (by decide) (by omega)) (fun _ k => k = w.heap.size + 1 + 1 + 1 ∨ k = w.heap.size + 1 + 1 + 1 + 1) ?hK (fun _ => rfl)
  (fun pre W => (∀ d ∈ pre, decide (t ≤ timeOf c d l.at_) = false) ∧ FsI w N c i t s2 (.int .i64 0) (.bool false) W)
  (fun cd W => (cd = .ret ∧ ∃ x, leaveF c l.at_ t = some x ∧ FsI w N c i t s2 (.int .i64 x) (.bool true) W) ∨ (cd = .exit 0 ∧ leaveF c l.at_ t = none ∧ FsI w N c i t s2 (.int .i64 0) (.bool false) W)) ?hI ?hIb ?hTx ⟨by simp, HI5.out⟩ ?hround ?hdone ?hstop
 case hK =>
  intro k hk
  rcases hk with ⟨ha, hb⟩ | hb
  ·exact ⟨by omega, by omega⟩
  ·have := HC.out.lt hb
   have h3 := HI5.out.below.size
   exact ⟨by omega, by omega⟩
 case hI => exact fun s W W' row h hg hr => ⟨h.1, h.2.own HI5.out.below.size hg hr⟩
 case hIb =>
  intro s W W' row h hg hr k hk
  refine ⟨hk, ?_⟩
  have e1 := h.2.k3.lt; have e2 := h.2.k4.lt
  rcases hk with rfl | rfl <;> omega
 case hTx =>
  rintro cd s W W' row h hg hr
  rcases h with ⟨h, x, hx, ht⟩ | ⟨h, hx, ht⟩
  ·exact .inl ⟨h, x, hx, ht.own HI5.out.below.size hg hr⟩
  ·exact .inr ⟨h, hx, ht.own HI5.out.below.size hg hr⟩
 case hround =>
  intro ll pre x post hxs W hI K' hK'
  obtain ⟨hpre, hT⟩ := hI
  have HT := hide hT; have HK' := hide hK'; have Hpre := hide hpre
  have hxd : d0 ≤ x ∧ x < d0 + 61 := by
   have hm : x ∈ daysF c d0 61 := by rw [hxs]; simp
   unfold daysF at hm
   obtain ⟨j, hj, rfl⟩ := List.mem_map.1 (List.mem_filter.1 hm).1
   have := List.mem_range.1 hj
   omega
  have hno : decide (t ≤ timeOf c x l.at_) = true → leaveF c l.at_ t = if timeOf c x l.at_ < t + 86400 then some (timeOf c x l.at_) else none := fun h => by
   unfold leaveF
   rw [Hdd.out, hxs, find_first hpre h]
  have hnx : decide (t ≤ timeOf c x l.at_) = false → ∀ d ∈ pre ++ [x], decide (t ≤ timeOf c d l.at_) = false := fun h d hd => by
   rcases List.mem_append.1 hd with hd | hd
   ·exact hpre d hd
   ·rw [List.mem_singleton.1 hd]; exact h
  have Hno := hide hno; have Hnx := hide hnx
  clear hT hK' hxs hno hnx hpre
  gi_wp2
  refine HK'.out _ _ (KeepsFrom.refl _ _) (Kpb.refl _ _) ⟨Hpre.out, HT.out⟩ (fun W2 hB2 hI2 => ?_)
  have HI2 := hide hI2.2
  have HP2 := hide hI2.1
  obtain ⟨b1, o1, l', hp1, hl', _, _, _, _, l3, _⟩ := hI2.2.net.lin_ (i := i) (List.getElem?_eq_some_iff.1 HX.out.lin).1
  rw [HX.out.lin] at hl'; injection hl' with hl'; subst hl'
  have c0 := hI2.2.k8.cell (k := 0) (v := .int .i64 c.zone) rfl; have c1 := hI2.2.k8.cell (k := 1) (v := .slice c.wp c.week.length c.wc) rfl; have c2 := hI2.2.k8.cell (k := 2) (v := .slice c.hp c.hol.length c.hc) rfl
  have x4 := hI2.2.k0.cell (k := 4) (v := .slice N.lp N.lins.length N.lc) rfl
  rw [hp1] at x4
  have y0 := hI2.2.k1.cell (k := 0) (v := .int .i64 (i : Int)) rfl
  have r1 : (0 : Int) ≤ (i : Int) := by omega
  have r2 : (i : Int) < (N.lins.length : Int) := by have := (List.getElem?_eq_some_iff.1 HX.out.lin).1; omega
  clear hI2 HT hB2 hp1
  gi_wp2
  refine rnd_still_tail 8 (by kernel_rfl) (by kernel_rfl) (by intro _ _ h; first | exact h | cases h | (obtain ⟨h, _⟩ := h; cases h)) (by kernel_rfl) ?_
  simp only [List.take_succ_cons, List.take_zero, List.drop_succ_cons, List.drop_zero]
  repeat still_step
  try refine wpStill_nil ?_
  change wpList _ _ _ _ _ W2.drew
  have HI3 := hide (HI2.out.next (Below.refl _ _).drew)
  have HB3 := hide (show Below W2.heap.size W2 W2.drew from (Below.refl _ _).drew)
  clear c0 c1 c2 x4 y0 l3 r1 r2
  generalize W2.drew = W3 at *
  obtain ⟨ha1, ha2⟩ := Hat.out
  go_wp2_with (go_at_call 245; refine Stop.out ?_)
  refine Stop.go (time_c c x l.at_ _ _ (HX.out.at_ HI3.out.net) Hok.out (by omega) (by omega) ha1 ha2 ?_)
  intro W4 hb4
  have HI4 := hide (HI3.out.next hb4)
  have HBB := hide (bseq HB3.out hb4)
  have z2 := HI4.out.k2.cell (k := 0) (v := .int .i64 t) rfl
  clear hb4 HI3 HB3 ha1 ha2
  generalize timeOf c x l.at_ = leave at *
  by_cases hlt : t ≤ leave
  ·by_cases hbig : leave < t + 86400
   ·have hx : leaveF c l.at_ t = some leave := by rw [Hno.out (decide_eq_true hlt), if_pos hbig]
    have Hx := hide hx
    have z3 := HI4.out.k3.cell (k := 0) rfl; have f3 := HI4.out.k3.free 0
    have z4 := HI4.out.k4.cell (k := 0) rfl; have f4 := HI4.out.k4.free 0
    have t1 : ¬ leave < t := by omega
    have t2 : IntKind.i64.wrap (t + 86400) = t + 86400 := IntWalk.i64_in _ (by omega)
    have t3 : ¬ t + 86400 ≤ leave := by omega
    clear hx hlt hbig
    go_wp2
    gi_wp2
    exact ⟨(kfrom_below HBB.out).trans (((KeepsOthers.setCell _ _ _).trans (KeepsOthers.setCell _ _ _)).from _), .inl ⟨rfl, _, Hx.out, HI4.out.fin HN0.out hs2 _ _⟩⟩
   ·have hx : leaveF c l.at_ t = none := by rw [Hno.out (decide_eq_true hlt), if_neg hbig]
    have Hx := hide hx
    have t1 : ¬ leave < t := by omega
    have t2 : IntKind.i64.wrap (t + 86400) = t + 86400 := IntWalk.i64_in _ (by omega)
    have t3 : t + 86400 ≤ leave := by omega
    clear hx hlt hbig
    go_wp2
    gi_wp2
    exact ⟨kfrom_below HBB.out, .inr ⟨rfl, Hx.out, HI4.out⟩⟩
  ·have hx := Hnx.out (decide_eq_false hlt)
   have Hx := hide hx
   have t1 : leave < t := by omega
   clear hx hlt
   go_wp2
   gi_wp2
   exact ⟨kfrom_below HBB.out, kpb_below HBB.out (fun k h => h), Hx.out, HI4.out⟩
 case hdone =>
  rintro D W hD ⟨hxs, hT⟩ hd
  have HT := hide hT; have Hd := hide hd
  have hnx : leaveF c l.at_ t = none := by
   unfold leaveF
   rw [Hdd.out, List.find?_eq_none.2 (fun y hy => by rw [hxs y hy]; simp)]
  have Hnx := hide hnx
  have c1 := HT.out.k3.cell (k := 0) rfl; have c2 := HT.out.k4.cell (k := 0) rfl
  have f1 := HT.out.k3.free 0; have f2 := HT.out.k4.free 0
  have hDn1 : D ≠ w.heap.size + 1 + 1 + 1 := by omega
  have hDn2 : D ≠ w.heap.size + 1 + 1 + 1 + 1 := by omega
  have HT2 := hide (HT.out.fin HN0.out hs2 (.int .i64 0) (.bool false))
  have hd2 : ((W.setCell ⟨w.heap.size + 1 + 1 + 1, 0, none⟩ (.int .i64 0)).setCell ⟨w.heap.size + 1 + 1 + 1 + 1, 0, none⟩ (.bool false)).heap[D]? = some (.deferred (some [])) := by
   rw [Below.heap_setCell _ _ _ _ hDn2, Below.heap_setCell _ _ _ _ hDn1]; exact Hd.out
  have Hd2 := hide hd2
  clear hxs hT hd hnx hd2 hDn1 hDn2
  go_wp2
  refine ⟨by simp, .inl ⟨_, _, rfl, run_takeDeferred Hd2.out, ?_⟩⟩
  have hg := grownBy_putObj' ((W.setCell ⟨w.heap.size + 1 + 1 + 1, 0, none⟩ (.int .i64 0)).setCell ⟨w.heap.size + 1 + 1 + 1 + 1, 0, none⟩ (.bool false)) D (.deferred none)
  have hI2 := HT2.out.own (B := w5.heap.size) HI5.out.below.size hg (fun r e => by cases e; exact ⟨hD, _, Hd2.out, rfl⟩)
  have z3 := hI2.k3.cell (k := 0) rfl
  have z4 := hI2.k4.cell (k := 0) rfl
  refine ⟨.tuple #[.int .i64 0, .bool false], ?_, HN.out _ Hnx.out hI2.below⟩
  clear hg hI2
  simp [results, Tryz.results198, go_sem, z3, z4]
 case hstop =>
  rintro D cd W hD hTx hd
  rcases hTx with ⟨rfl, x, hnx, hT⟩ | ⟨rfl, hnx, hT⟩
  ·have HT := hide hT; have Hd := hide hd; have Hnx := hide hnx
   clear hT hd hnx
   refine wpIn_ret ?_
   try rw [Exit.noGoto_ret]
   refine ⟨by simp, .inl ⟨_, _, rfl, run_takeDeferred Hd.out, ?_⟩⟩
   have hg := grownBy_putObj' W D (.deferred none)
   have hI2 := HT.out.own (B := w5.heap.size) HI5.out.below.size hg (fun r e => by cases e; exact ⟨hD, _, Hd.out, rfl⟩)
   have z3 := hI2.k3.cell (k := 0) rfl
   have z4 := hI2.k4.cell (k := 0) rfl
   refine ⟨.tuple #[.int .i64 x, .bool true], ?_, HS.out _ _ Hnx.out hI2.below⟩
   clear hg hI2
   simp [results, Tryz.results198, go_sem, z3, z4]
  ·have HT := hide hT; have Hd := hide hd; have Hnx := hide hnx
   have c1 := HT.out.k3.cell (k := 0) rfl; have c2 := HT.out.k4.cell (k := 0) rfl
   have f1 := HT.out.k3.free 0; have f2 := HT.out.k4.free 0
   have hDn1 : D ≠ w.heap.size + 1 + 1 + 1 := by omega
   have hDn2 : D ≠ w.heap.size + 1 + 1 + 1 + 1 := by omega
   have HT2 := hide (HT.out.fin HN0.out hs2 (.int .i64 0) (.bool false))
   have hd2 : ((W.setCell ⟨w.heap.size + 1 + 1 + 1, 0, none⟩ (.int .i64 0)).setCell ⟨w.heap.size + 1 + 1 + 1 + 1, 0, none⟩ (.bool false)).heap[D]? = some (.deferred (some [])) := by
    rw [Below.heap_setCell _ _ _ _ hDn2, Below.heap_setCell _ _ _ _ hDn1]; exact Hd.out
   have Hd2 := hide hd2
   clear hT hd hnx hd2 hDn1 hDn2
   refine wpIn_exit ?_
   trace_state
   go_wp2
   refine ⟨by simp, .inl ⟨_, _, rfl, run_takeDeferred Hd2.out, ?_⟩⟩
   have hg := grownBy_putObj' ((W.setCell ⟨w.heap.size + 1 + 1 + 1, 0, none⟩ (.int .i64 0)).setCell ⟨w.heap.size + 1 + 1 + 1 + 1, 0, none⟩ (.bool false)) D (.deferred none)
   have hI2 := HT2.out.own (B := w5.heap.size) HI5.out.below.size hg (fun r e => by cases e; exact ⟨hD, _, Hd2.out, rfl⟩)
   have z3 := hI2.k3.cell (k := 0) rfl
   have z4 := hI2.k4.cell (k := 0) rfl
   refine ⟨.tuple #[.int .i64 0, .bool false], ?_, HN.out _ Hnx.out hI2.below⟩
   clear hg hI2
   simp [results, Tryz.results198, go_sem, z3, z4]
end
section
open Go.RowKit Go.Shelf
theorem leaveF_near {c : Cal} {m t x : Int} (h : leaveF c m t = some x) : t ≤ x ∧ x < t + 86400 := by
 unfold leaveF at h
 split at h
 ·next d hd =>
  have := List.find?_some hd
  split at h
  ·injection h with h
   have h2 := of_decide_eq_true this
   omega
  ·cases h
 ·cases h
theorem waitF_end {c : Cal} {a till : Int} {k : Nat} {t m : Int} (h : till ≤ t) : waitF c a till k t m = some m := by
 cases k with
 | zero => rfl
 | succ k => unfold waitF; rw [if_neg (by omega)]
theorem waitF_step {c : Cal} {a till : Int} {k : Nat} {t m l : Int} (h : t < till) (hl : leaveF c a t = some l) : waitF c a till (k + 1) t m = waitF c a till k (l + 1) (max m (l - t)) := by
 rw [waitF, if_pos h, hl]
theorem waitF_none {c : Cal} {a till : Int} {k : Nat} {t m : Int} (h : t < till) (hl : leaveF c a t = none) : waitF c a till (k + 1) t m = none := by
 rw [waitF, if_pos h, hl]
theorem IntsAt.two {w : World} {g : Nat} {x y : Int} {t : TypeId} (h : Blk w g #[.int .i64 x, .int .i64 y] t) : IntsAt .i64 w (some ⟨g, 0, none⟩) [x, y] := fun _ => ⟨g, 0, rfl, fun i v hv => by
 match i with
 | 0 => simp at hv; subst hv; exact h.cell rfl
 | 1 => simp at hv; subst hv; exact h.cell rfl
 | i + 2 => simp at hv⟩
set_option maxRecDepth 100000 in
set_option maxHeartbeats 4000000 in
theorem wait_c (N : Net) (i s k : Nat) (l : Lin) (o : Off) (c : Cal) (fr till : Int) (w : World) (R) (hk : KwAt w) (hN : NetAt w N) (hb : soundB N = true) (hX : LinX N i s k l o c) (h1 : 0 ≤ fr) (h2 : fr < till) (h3 : till ≤ 2000000) (h4 : till ≤ fr + 86400)
  (hs : ∀ m w', waitF c l.at_ till (till - fr).toNat fr 0 = some m → 0 ≤ m → m ≤ 86400 → Below w.heap.size w w' → R (.returned (.tuple #[.int .i64 m, .int .i64 0])) w') (hn : ∀ w', waitF c l.at_ till (till - fr).toNat fr 0 = none → Below w.heap.size w w' → R (.returned (.tuple #[.int .i64 0, .int .i64 20])) w') :
  Calls Tryz.prog 138 #[.agg N.cells, .int .i64 (i : Int), .int .i64 fr, .int .i64 till] w R := by
 have HS := hide hs; have HN := hide hn; have HN0 := hide hN; have HX := hide hX; have Hkw := hide hk; have Hb := hide hb
 have Hi := hide (List.getElem?_eq_some_iff.1 hX.lin).1
 obtain ⟨w1, hw1⟩ : ∃ w1, w.alloc (.cells N.cells 29) = w1 := ⟨_, rfl⟩
 have hb1 : Below w.heap.size w w1 := hw1 ▸ balloc (Below.refl _ _) _
 have d0 : Blk w1 w.heap.size N.cells 29 := by rw [← hw1]; exact Blk.new _ _ _
 obtain ⟨x0, x1, x2, x3, x4, x5⟩ := d0.net6
 have HB1 := hide hb1; have HD := hide d0
 unfold Net.cells at hw1
 clear hs hn hN hX hb1 d0 hk hb
 unfold Net.cells
 go_enter Tryz.func138, Tryz.ntmps138
 go_wp2_with (go_at_call 197; refine Stop.out ?_)
 refine Stop.go (ttUsable_c N i (some ⟨w1.heap.size, 0, none⟩) [fr, till] 2 _ _ (Hkw.out.next (balloc HB1.out _)) (HN0.out.next (balloc HB1.out _)) Hb.out Hi.out (IntsAt.two (t := 3) (Blk.new _ _ _)) (by simp) (by intro t ht; simp at ht; rcases ht with rfl | rfl <;> omega) ?_)
 intro w2 hb2
 have HB2 := hide (bseq (balloc HB1.out _) hb2)
 have HD2 := hide ((HD.out.next (balloc (Below.refl _ _) _)).next hb2)
 have t1 : ¬ till ≤ fr := by omega
 have t2 : IntKind.i64.wrap (fr + 86400) = fr + 86400 := IntWalk.i64_in _ (by omega)
 have t3 : ¬ fr + 86400 < till := by omega
 clear hb2 HB1 HD hw1 x0 x1 x2 x3 x4 x5
 go_wp2
 clear t1 t2 t3
 go_loopw [10, 11] (fun sm st wr => ∃ (m t : Int) (j : Nat), sm = .int .i64 m ∧ st = .int .i64 t ∧ 0 ≤ m ∧ m ≤ 86400 ∧ fr ≤ t ∧ t ≤ till + 86400 ∧ (till - t).toNat ≤ j ∧ Hid (waitF c l.at_ till (till - fr).toNat fr 0 = waitF c l.at_ till j t m) ∧ Hid (Below w.heap.size w wr) ∧ Hid (Blk wr w.heap.size N.cells 29)) (fun _ st _ => (till - intOf st).toNat)
 case atStart => exact ⟨0, fr, _, rfl, rfl, by omega, by omega, by omega, by omega, Nat.le_refl _, hide rfl, HB2, HD2⟩
 case round =>
  clear HB2 HD2
  obtain ⟨m, t, j, rfl, rfl, hm0, hm1, ht0, ht1, hj, HW, HB, HD⟩ := hrel
  by_cases hlt : t < till
  ·obtain ⟨j, rfl⟩ : ∃ j', j = j' + 1 := ⟨j - 1, by omega⟩
   obtain ⟨x0, x1, x2, x3, x4, x5⟩ := HD.out.net6
   go_wp2_with (go_at_call 198; refine Stop.out ?_)
   refine Stop.go (first_c N i s k l o c t _ _ (HN0.out.next HB.out) (snd_of Hb.out) HX.out (by omega) (by omega) ?_ ?_)
   ·intro x w3 hx hb3
    have hnr := leaveF_near hx
    have HE := hide (HW.out.trans (waitF_step hlt hx))
    have HB3 := hide (bseq HB.out hb3); have HD3 := hide (HD.out.next hb3)
    have t1 : IntKind.i64.wrap (x - t) = x - t := IntWalk.i64_in _ (by omega)
    have t2 : IntKind.i64.wrap (x + 1) = x + 1 := IntWalk.i64_in _ (by omega)
    clear hx hb3 HB HD x0 x1 x2 x3 x4 x5 HW
    go_wp2_with (go_at_call 199; refine Stop.out ?_)
    refine Stop.go (greater_c _ _ _ _ ?_)
    generalize hmx : max m (x - t) = mx at HE ⊢
    have hmx2 : 0 ≤ mx ∧ mx ≤ 86400 := by omega
    clear hmx
    go_wp2
    go_roundw
    case rel => exact ⟨mx, x + 1, j, rfl, rfl, by omega, by omega, by omega, by omega, by omega, HE, HB3, HD3⟩
    case measure => simp [intOf]; omega
   ·intro w3 hx hb3
    have HF := hide (HN.out w3 (HW.out.trans (waitF_none hlt hx)) (bseq HB.out hb3))
    clear hx hb3 HB HD x0 x1 x2 x3 x4 x5 HW
    go_wp2
    exact HF.out
  ·have HF := hide (HS.out m wr (HW.out.trans (waitF_end (by omega))) hm0 hm1 HB.out)
   clear HW HB HD
   go_wp2
   exact HF.out
end
section
open Go.RowKit Go.Shelf
theorem net_box (N : Net) (w : World) : ∃ w1, w.alloc (.cells N.cells 29) = w1 ∧ Below w.heap.size w w1 ∧ Blk w1 w.heap.size N.cells 29 ∧ w1.heap.size = w.heap.size + 1 :=
 ⟨_, rfl, balloc (Below.refl _ _) _, Blk.new _ _ _, by simp⟩
set_option maxRecDepth 100000 in
set_option maxHeartbeats 4000000 in
theorem rUsable_c (N : Net) (fr till : Int) (w : World) (R) (hk : KwAt w) (hN : NetAt w N) (hS : soundB N = true) (h1 : 0 ≤ fr) (h2 : fr < till) (h3 : till ≤ 2000000) (h4 : till ≤ fr + 86400) (hR : ∀ w', Below w.heap.size w w' → R (.returned (.bool true)) w') :
  Calls Tryz.prog 65 #[.agg N.cells, .int .i64 fr, .int .i64 till] w R := by
 have HR := hide hR; have Hkw := hide hk; have HN := hide hN; have HS := hide hS
 obtain ⟨w1, hw1, hb1, k1, _⟩ := net_box N w
 have HB1 := hide hb1
 obtain ⟨y0, y1, y2, y3, y4, y5⟩ := k1.net6
 have q1 : ¬ fr < 0 := by omega
 have q2 : ¬ till ≤ fr := by omega
 have q3 : ¬ 2000000 < till := by omega
 have q4 : IntKind.i64.wrap (till - fr) = till - fr := IntWalk.i64_in _ (by omega)
 have q5 : ¬ 86400 < till - fr := by omega
 unfold Net.cells at hw1
 clear hR hk hN hS hb1 k1 h1 h2 h3 h4
 unfold Net.cells
 go_enter Tryz.func65, Tryz.ntmps65
 go_wp2_with (go_at_call 115; refine Stop.out ?_)
 refine Stop.go (check_c N _ _ (Hkw.out.next HB1.out) (HN.out.next HB1.out) ?_)
 intro w2 p2 n2 c2 hb he _
 obtain rfl := he.2 HS.out
 have HF := hide (HR.out _ (bseq HB1.out hb))
 clear hb he y0 y1 y2 y3 y4 y5 hw1 q1 q2 q3 q4 q5
 go_wp2
 exact HF.out
set_option maxRecDepth 100000 in
set_option maxHeartbeats 4000000 in
theorem table_c (N : Net) (f : FuncId) (lb : Array Value) (M : Nat → Nat → Int) (w : World) (R) (hn : N.offs.length ≤ 40) (eg : ∀ args w, (callFunc f args).run Tryz.prog w = .ok (.enter f args) w)
  (ht : ∀ i j W, i < N.offs.length → j < N.offs.length → Below w.heap.size w W → ∀ R, (∀ W', Below W.heap.size W W' → R (.returned (.int .i64 (M i j))) W') → Calls Tryz.prog f (#[.int .i64 (i : Int), .int .i64 (j : Int)] ++ lb) W R)
  (hR : ∀ w' g, Below w.heap.size w w' → MtO w.heap.size w' g N.offs.length M → R (.returned (.slice (some ⟨g, 0, none⟩) N.offs.length N.offs.length)) w') :
  Calls Tryz.prog 134 #[.agg N.cells, .func (.func f) #[] lb] w R := by
 have HR := hide hR; have HT := hide ht
 obtain ⟨w1, hw1, hb1, k1, hs1⟩ := net_box N w
 have HB1 := hide hb1; have HK1 := hide k1; have Hs1 := hide hs1
 have y3 := k1.net6.2.2.2.1
 unfold Net.cells at hw1
 clear hR ht hb1 k1 hs1
 unfold Net.cells
 obtain ⟨n, hn'⟩ : ∃ n, N.offs.length = n := ⟨_, rfl⟩
 rw [hn'] at HR HT hn y3 hw1
 rw [hn']
 have Hn := hide hn'
 clear hn'
 obtain ⟨os, hos, hmk⟩ := mkRows w1 n (by omega)
 have H0 := hide (show BdI w1 M n 0 (w1.alloc (.cells os 40)) from BdI.zero w1 M n hos)
 clear hos
 go_enter Tryz.func134, Tryz.ntmps134
 go_wp2
 clear hmk y3 hw1
 go_loopw [14] (fun si wr => ∃ k : Nat, k ≤ n ∧ si = .int .i64 k ∧ Hid (BdI w1 M n k wr)) (fun si _ => n - (intOf si).toNat)
 case atStart => exact ⟨0, Nat.zero_le _, rfl, H0⟩
 case round =>
  clear H0
  obtain ⟨k, hk, rfl, HD⟩ := hrel
  by_cases hlt : k < n
  ·obtain ⟨cs, hcs, hmk⟩ := mkInts wr n (by omega)
   obtain ⟨⟨v0, c0⟩, f0⟩ := HD.out.cell hlt
   have c0' : (wr.alloc (.cells cs 3)).cell? ⟨w1.heap.size, k, none⟩ = some v0 := cell_later (balloc (Below.refl _ _) _) c0
   have f0' : (wr.alloc (.cells cs 3)).frozen? ⟨w1.heap.size, k, none⟩ = false := by
    obtain ⟨os, h1, h2, h3⟩ := HD.out.rows
    exact (h1.alloc _).free k
   have y3 := (HK1.out.below HD.out.below (by have := Hs1.out; omega)).net6.2.2.2.1
   rw [Hn.out] at y3
   have HR2 := hide (HD.out.row hlt hcs)
   have c3 := HR2.out.cell
   have q1 : (0 : Int) ≤ (k : Int) := by omega
   have q2 : (k : Int) < (n : Int) := by omega
   clear hcs HD c0 f0
   go_wp2
   clear hmk c0' f0' y3 c3
   generalize wr.heap.size = g at *
   go_loopw [29] (fun si wq => ∃ j : Nat, j ≤ n ∧ si = .int .i64 j ∧ Hid (BrI w1 M n k g j wq)) (fun si _ => n - (intOf si).toNat)
   case atStart => exact ⟨0, Nat.zero_le _, rfl, HR2⟩
   case round =>
    clear HR2
    obtain ⟨j, hj, rfl, HJ⟩ := hrel
    by_cases hlj : j < n
    ·have c0 := HJ.out.cell
     have q3 : (0 : Int) ≤ (j : Int) := by omega
     have q4 : (j : Int) < (n : Int) := by omega
     have KB : Hid (∀ W', Below wr.heap.size wr W' → W'.cell? ⟨w1.heap.size, k, none⟩ = some (.slice (some ⟨g, 0, none⟩) n n)) := hide (fun W' hb => (HJ.out.next hb).cell)
     go_wp2
     go_region_held3 (fun w' => w'.cell? ⟨w1.heap.size, k, none⟩ = some (.slice (some ⟨g, 0, none⟩) n n))
      (first | exact KB.out _ (Below.refl _ _).drew | exact KB.out _ hbb | exact (HJ2.out.put hlj).cell)
      (first
      | (refine HT.out k j _ hlt hlj (bseq HB1.out (bseq HJ.out.below (Below.refl _ _).drew)) _ (fun W' hb => ?_)
         have hbb : Below wr.heap.size wr W' := bseq (Below.refl _ _).drew hb
         have HJ2 := hide (HJ.out.next hbb)
         obtain ⟨⟨v1, c1⟩, f1⟩ := HJ2.out.here hlj))
     have HJ3 := hide (HJ2.out.put hlj)
     clear HJ2 hb hbb c0 f1 c1 q3 q4 HJ KB
     go_wp2
     go_roundw
     case rel => exact ⟨j + 1, by omega, by go_num, HJ3⟩
     case measure => simp [intOf]; omega
    ·have q3 : ¬ (j : Int) < (n : Int) := by omega
     obtain rfl : j = n := by omega
     have HD2 := hide HJ.out.done
     clear HJ
     go_wp2
     go_roundw
     case rel => exact ⟨k + 1, by omega, by go_num, HD2⟩
     case measure => simp [intOf]; omega
  ·have q1 : ¬ (k : Int) < (n : Int) := by omega
   obtain rfl : k = n := by omega
   have HF := hide (HR.out _ _ (bseq HB1.out HD.out.below) (HD.out.own.mono HB1.out.size))
   clear HD
   go_wp2
   exact HF.out
end
end Go.Proofs.YtgfhcmidnbahjaaGreatDoor
