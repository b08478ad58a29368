/- Timetable: usable; the working days between two days as an iterator. Promise: the first time of a minute; when an item is ready. Maxplus: matrices in memory; elements; fold. Maxplus: Valid, cyclic. -/
import Derived.Test.YtgfhcmidnbahjaaGreatDoorJ14
import Derived.Test.YtgfhcmidnbahjaaGreatDoorJ12
import Derived.Test.YtgfhcmidnbahjaaGreatDoorJ13
set_option linter.unusedVariables false
set_option linter.unusedSimpArgs false
namespace Go.Proofs.YtgfhcmidnbahjaaGreatDoor
section
open Go.RowKit Go.Shelf
attribute [local go_sem] run_store_func
theorem Blk.net6 {W : World} {g : Nat} {N : Net} {t : TypeId} (h : Blk W g N.cells t) : W.cell? ⟨g, 0, none⟩ = some (.slice N.cp N.cals.length N.cc) ∧ W.cell? ⟨g, 1, none⟩ = some (.slice N.np N.names.length N.nc) ∧
  W.cell? ⟨g, 2, none⟩ = some (.slice N.op N.oprs.length N.oc) ∧ W.cell? ⟨g, 3, none⟩ = some (.slice N.fp N.offs.length N.fc) ∧ W.cell? ⟨g, 4, none⟩ = some (.slice N.lp N.lins.length N.lc) ∧ W.cell? ⟨g, 5, none⟩ = some (.slice N.kp N.clss.length N.kc) :=
 ⟨h.cell rfl, h.cell rfl, h.cell rfl, h.cell rfl, h.cell rfl, h.cell rfl⟩
set_option maxRecDepth 100000 in
set_option maxHeartbeats 4000000 in
theorem ttUsable_c (N : Net) (i : Nat) (p : Option Addr) (ts : List Int) (cap : Nat) (w : World) (R) (hk : KwAt w) (hN : NetAt w N) (hS : soundB N = true) (hi : i < N.lins.length)
  (hT : IntsAt .i64 w p ts) (hl : ts.length ≤ 4) (hts : ∀ t ∈ ts, 0 ≤ t ∧ t ≤ 2000000) (hR : ∀ w', Below w.heap.size w w' → R (.returned (.bool true)) w') :
  Calls Tryz.prog 197 #[.agg N.cells, .int .i64 (i : Int), .slice p ts.length cap] w R := by
 have HR := hide hR; have Hkw := hide hk; have HN := hide hN; have HS := hide hS; have HTs := hide hts
 obtain ⟨w1, hw1⟩ : ∃ w1, w.alloc (.cells N.cells 29) = w1 := ⟨_, rfl⟩
 have hb1 : Below w.heap.size w w1 := hw1 ▸ balloc (Below.refl _ _) _
 have k1 : Blk w1 w.heap.size N.cells 29 := by rw [← hw1]; exact Blk.new _ _ _
 have HB1 := hide hb1; have HK1 := hide k1
 have HT := hide (hT.keep (Keeps.of_below hb1))
 have x4 := k1.cell (k := 4) (v := .slice N.lp N.lins.length N.lc) rfl
 have q1 : ¬ (i : Int) < 0 := by omega
 have q2 : ¬ (N.lins.length : Int) ≤ (i : Int) := by omega
 have hlen := hN.len.2.2.1
 obtain ⟨n, hn⟩ : ∃ n, ts.length = n := ⟨_, rfl⟩
 generalize (i : Int) = ii at *
 clear hi
 have Hn := hide hn
 rw [hn] at hl ⊢
 clear hR hk hN hS hts hT hb1 k1 hn
 go_enter Tryz.func197, Tryz.ntmps197
 go_wp2
 clear x4 hw1 q1 q2
 go_loopw [20] (fun sv wr => ∃ k : Nat, k ≤ n ∧ sv = .int .i64 k ∧ wr = w1) (fun sv _ => n - (intOf sv).toNat)
 case atStart => exact ⟨0, Nat.zero_le _, rfl, rfl⟩
 case round =>
  obtain ⟨k, hk, rfl, rfl⟩ := hrel
  by_cases hlt : k < n
  ·obtain ⟨b, o, x, hp, hx, c0⟩ := HT.out.at_ (i := k) (by rw [Hn.out]; omega)
   have hx2 := HTs.out x (List.mem_of_getElem? hx)
   have t1 := hx2.1; have t2 := hx2.2
   have t3 : (0 : Int) ≤ (k : Int) := by omega
   have t4 : (k : Int) < (n : Int) := by omega
   subst hp
   clear hx2 hx
   go_wp2
   go_roundw
   case rel => exact ⟨k + 1, by omega, by go_num, by trivial⟩
   case measure => simp [intOf]; omega
  ·have hltI : ¬ (k : Int) < (n : Int) := by omega
   obtain ⟨y0, y1, y2, y3, y4, y5⟩ := HK1.out.net6
   have hw0 : ∀ (wq : World) (p' : Option Addr) (n' cap' : Nat), Below wr.heap.size wr wq → (n' = 0 ↔ soundB N = true) → n' ≤ 100 → n' = 0 ∧ R (.returned (.bool true)) wq := fun wq p' n' cap' hb he _ => ⟨he.2 HS.out, HR.out _ (bseq HB1.out hb)⟩
   have HF := hide hw0
   clear hw0
   go_wp2_with (go_at_call 115; refine Stop.out ?_)
   refine Stop.go (check_c N _ _ (Hkw.out.next HB1.out) (HN.out.next HB1.out) ?_)
   intro w2 p2 n2 c2 hb he h100
   obtain ⟨rfl, hF⟩ := HF.out _ p2 n2 c2 hb he h100
   have HF2 := hide hF
   clear hb he h100 hF y0 y1 y2 y3 y4 y5
   go_wp2
   exact HF2.out
structure WdI (c : Cal) (a b : Int) (g : Nat) (W : World) : Prop where
 cal : Blk W g c.cells.toArray 164
 lo : Blk W (g + 1) #[.int .i64 a] 3
 hi : Blk W (g + 2) #[.int .i64 b] 3
 data : CalAt W c
theorem WdI.next {c : Cal} {a b : Int} {g : Nat} {W W' : World} (h : WdI c a b g W) (hb : Below W.heap.size W W') : WdI c a b g W' := ⟨h.cal.next hb, h.lo.next hb, h.hi.next hb, h.data.keep (Keeps.of_below hb)⟩
def WdK (c : Cal) (g : Nat) (k : Nat) : Prop := (g ≤ k ∧ k ≤ g + 2) ∨ CalBlk c k
theorem WdI.kpb {bad : World → Nat → Prop} {c : Cal} {a b : Int} {g : Nat} {W W' : World} (h : WdI c a b g W) (hk : Kpb bad W W') (hb : ∀ k, WdK c g k → ¬ bad W k) : WdI c a b g W' :=
 ⟨h.cal.kpb hk (hb _ (.inl ⟨by omega, by omega⟩)), h.lo.kpb hk (hb _ (.inl ⟨by omega, by omega⟩)), h.hi.kpb hk (hb _ (.inl ⟨by omega, by omega⟩)), h.data.kpb hk (fun k h => hb k (.inr h))⟩
theorem WdI.lt {c : Cal} {a b : Int} {g : Nat} {W : World} (h : WdI c a b g W) {k : Nat} (hk : WdK c g k) : k < W.heap.size := by
 rcases hk with ⟨h1, h2⟩ | hk
 ·have := h.hi.lt; omega
 ·exact h.data.lt hk
set_option maxRecDepth 100000 in
set_option maxHeartbeats 4000000 in
theorem workdays_c (c : Cal) (a b : Int) (w : World) (R) (hC : CalAt w c)
  (hR : ∀ w', Below w.heap.size w w' → WdI c a b w.heap.size w' → w'.heap.size = w.heap.size + 3 → R (.returned (.func (.func 305) #[] #[.pointer (some ⟨w.heap.size + 1, 0, none⟩), .pointer (some ⟨w.heap.size + 2, 0, none⟩), .pointer (some ⟨w.heap.size, 0, none⟩)])) w') :
  Calls Tryz.prog 253 #[.agg c.cells.toArray, .int .i64 a, .int .i64 b] w R := by
 obtain ⟨w1, hw1⟩ : ∃ w1, ((w.alloc (.cells c.cells.toArray 164)).alloc (.cells #[.int .i64 a] 3)).alloc (.cells #[.int .i64 b] 3) = w1 := ⟨_, rfl⟩
 have hb1 : Below w.heap.size w w1 := hw1 ▸ balloc (balloc (balloc (Below.refl _ _) _) _) _
 have k0 : Blk w1 w.heap.size c.cells.toArray 164 := by rw [← hw1]; repeat (first | exact Blk.new_at (by simp) | refine Blk.alloc ?_ _)
 have k1 : Blk w1 (w.heap.size + 1) #[.int .i64 a] 3 := by rw [← hw1]; exact Blk.alloc (Blk.new_at (by simp)) _
 have k2 : Blk w1 (w.heap.size + 2) #[.int .i64 b] 3 := by rw [← hw1]; exact Blk.new_at (by simp)
 have hs1 : w1.heap.size = w.heap.size + 3 := by rw [← hw1]; simp
 have HF := hide (hR w1 hb1 ⟨k0, k1, k2, hC.keep (Keeps.of_below hb1)⟩ hs1)
 unfold Cal.cells at hw1 ⊢
 clear hR hC hb1 k0 k1 k2 hs1
 go_enter Tryz.func253, Tryz.ntmps253
 go_wp2
 exact HF.out
set_option maxRecDepth 100000 in
set_option maxHeartbeats 4000000 in
theorem workdays_it (c : Cal) (a b : Int) (n g : Nat) (w : World) (hI : WdI c a b g w) (hok : calOk c = true) (h1 : -900000 ≤ a) (h2 : a ≤ 900000) (h3 : n ≤ 3000) (hn : b + 1 = a + (n : Int)) :
  IterAt Tryz.prog 305 #[.pointer (some ⟨g + 1, 0, none⟩), .pointer (some ⟨g + 2, 0, none⟩), .pointer (some ⟨g, 0, none⟩)] (fun d : Int => #[.int .i64 d]) (daysF c a n) (WdK c g) w := by
 intro l J T Pn bad W hbW hJs hK hY h0
 have HJs := hide hJs; have HY := hide hY; have HJ0 := hide h0; have HK := hide hK; have Hok := hide hok
 have HI := hide (hI.next hbW)
 have x1 := HI.out.lo.cell (k := 0) (v := .int .i64 a) rfl
 clear hJs hY h0 hK hok hI hbW
 refine (callsIn_wide (n := 8)).1 ?_
 refine callsIn_of_wp Tryz.func305 rfl trivial ?_ rfl
 simp only [Tryz.ntmps305, List.size_toArray, List.length_cons, List.length_nil, Nat.reduceAdd, Nat.reduceSub, Array.replicate_succ, Array.replicate_zero, List.push_toArray, List.append_toArray, List.nil_append, List.cons_append]
 refine wpIn_wide.2 ?_
 go_wp2
 refine (wpIn_wide (n := 8)).1 ?_
 clear x1
 gi_loopw [5] (fun sv wq => ∃ i : Nat, i ≤ n ∧ sv = .int .i64 (a + i) ∧ Hid (J (daysF c a i) wq) ∧ Hid (WdI c a b g wq) ∧ Hid (∀ k, WdK c g k → ¬ bad wq k)) (fun sv _ => n - (intOf sv - a).toNat)
 case atStart => exact ⟨0, Nat.zero_le _, by simp, HJ0, HI, HK⟩
 case round =>
  clear HI HK HJ0
  obtain ⟨i, hi, rfl, HJ, HI, HK⟩ := hrel
  have x2 := HI.out.hi.cell (k := 0) (v := .int .i64 b) rfl
  have y0 := HI.out.cal.cell (k := 0) (v := .int .i64 c.zone) rfl; have y1 := HI.out.cal.cell (k := 1) (v := .slice c.wp c.week.length c.wc) rfl; have y2 := HI.out.cal.cell (k := 2) (v := .slice c.hp c.hol.length c.hc) rfl
  by_cases hlt : i < n
  ·have q1 : a + (i : Int) ≤ b := by omega
   have q2 : -900000 ≤ a + (i : Int) := by omega
   have q3 : a + (i : Int) ≤ 903000 := by omega
   have HE : Hid ((a + (i : Int)) + 1 = a + ((i + 1 : Nat) : Int)) := hide (by omega)
   have HS := hide (daysF_split c a hlt)
   have Hyes := hide (daysF_yes c a i); have Hno := hide (daysF_no c a i)
   obtain ⟨d, hd⟩ : ∃ d, a + (i : Int) = d := ⟨_, rfl⟩
   have Hd := hide hd
   rw [hd] at q1 q2 q3 HE HS Hyes Hno
   rw [hd]
   clear hd hn
   cases hwb : workB c d with
   | false =>
    have HJ2 : Hid (∀ wq, Below wr.heap.size wr wq → J (daysF c a (i + 1)) wq) := hide (fun wq hb => by rw [Hno.out hwb]; exact (HJs.out _ _ _ HJ.out hb).1)
    gi_wp2_with (gi_at_call 306; refine Stop.out ?_)
    refine Stop.go ⟨trivial, callsIn_wide.2 (work_c c d _ _ HI.out.data Hok.out (by omega) (by omega) ?_)⟩
    rw [hwb]
    intro W1 hb
    have HJ3 := hide (HJ2.out W1 hb); have HI3 := hide (HI.out.next hb)
    have HK3 : Hid (∀ k, WdK c g k → ¬ bad W1 k) := hide (fun k hk e => HK.out k hk ((HJs.out _ _ _ HJ.out hb).2 k e).1)
    clear hb x2 y0 y1 y2 HJ2 q1 hwb
    gi_wp2
    all_goals
     try refine ⟨(fun f e => by cases e), ?_⟩
     try apply_assumption
     try gi_wp2
    all_goals
     go_roundw
     case rel => exact ⟨i + 1, by omega, by rw [← HE.out], HJ3, HI3, HK3⟩
     case measure => have := Hd.out; simp [intOf]; omega
   | true =>
    gi_wp2_with (gi_at_call 306; refine Stop.out ?_)
    refine Stop.go ⟨trivial, callsIn_wide.2 (work_c c d _ _ HI.out.data Hok.out (by omega) (by omega) ?_)⟩
    rw [hwb]
    intro W1 hb
    have HJ3 := hide ((HJs.out _ _ _ HJ.out hb).1); have HI3 := hide (HI.out.next hb)
    have HK3 : Hid (∀ k, WdK c g k → ¬ bad W1 k) := hide (fun k hk e => HK.out k hk ((HJs.out _ _ _ HJ.out hb).2 k e).1)
    obtain ⟨fn, tmps, assign, body, hy, hRd⟩ := HY.out (daysF c a i) d _ (by rw [HS.out, if_pos hwb]; rfl) W1 HJ3.out
    have HRd := hide hRd
    have Hy9 := hide (Hyes.out hwb)
    clear hb x2 y0 y1 y2 q1 hwb hRd
    gi_wp2
    refine HRd.out.mono ?_
    intro e W3 h3
    cases e with
    | outgrown => exact h3.elim
    | panicked ch => exact ⟨rfl, h3⟩
    | returned v =>
     rcases h3 with ⟨rfl, hj, hk⟩ | ⟨rfl, hT⟩
     ·have HJ4 : Hid (J (daysF c a (i + 1)) W3) := hide (by rw [Hy9.out]; exact hj)
      have HI4 := hide (HI3.out.kpb hk HK3.out)
      have HK4 : Hid (∀ k, WdK c g k → ¬ bad W3 k) := hide (fun k hk' => (hk.2 k (HI3.out.lt hk') (HK3.out k hk')).2)
      clear hj hk
      gi_wp2
      go_roundw
      case rel => exact ⟨i + 1, by omega, by rw [← HE.out], HJ4, HI4, HK4⟩
      case measure => have := Hd.out; simp [intOf]; omega
     ·have HT := hide hT
      clear hT
      gi_wp2
      refine bodyPost_ret (results_none Tryz.results305 _ _ _) rfl ?_
      exact .inr HT.out
  ·have q1 : ¬ a + (i : Int) ≤ b := by omega
   obtain rfl : i = n := by omega
   gi_wp2
   exact bodyPost_end (results_none Tryz.results305 _ _ _) rfl (.inl HJ.out)
end
section
open Go.RowKit Go.Shelf
theorem dayOf_range {c : Cal} (hok : calOk c = true) {t : Int} (h1 : 0 ≤ t) (h2 : t ≤ 100000000) : -1 ≤ dayOf c t ∧ dayOf c t ≤ 100000 := by
 have hz := (calP_of hok).zone
 unfold dayOf
 omega
theorem nextF_near {c : Cal} {d x : Int} (h : nextF c d = some x) : d ≤ x ∧ x < d + 60 := by
 unfold nextF at h
 have hm := List.mem_of_mem_head? h
 unfold daysF at hm
 obtain ⟨j, hj, rfl⟩ := List.mem_map.1 (List.mem_filter.1 hm).1
 have := List.mem_range.1 hj
 omega
set_option maxRecDepth 100000 in
set_option maxHeartbeats 2000000 in
theorem pFirst_c (c : Cal) (m t : Int) (w : World) (R) (hC : CalAt w c) (hok : calOk c = true) (h1 : 0 ≤ m) (h2 : m ≤ 1439) (h3 : 0 ≤ t) (h4 : t ≤ 100000000)
  (hs : ∀ x w', firstF c m t = some x → Below w.heap.size w w' → R (.returned (.tuple #[.int .i64 x, .int .i64 0])) w') (hn : ∀ w', firstF c m t = none → Below w.heap.size w w' → R (.returned (.tuple #[.int .i64 0, .int .i64 20])) w') :
  Calls Tryz.prog 186 #[.agg c.cells.toArray, .int .i64 m, .int .i64 t] w R := by
 have HS := hide hs; have HN := hide hn; have HC := hide hC; have Hok := hide hok
 obtain ⟨w1, hw1, hb1, k0⟩ := cal_box c w
 have HB1 := hide hb1; have HK0 := hide k0
 have x0 := k0.cell (k := 0) (v := .int .i64 c.zone) rfl; have x1 := k0.cell (k := 1) (v := .slice c.wp c.week.length c.wc) rfl; have x2 := k0.cell (k := 2) (v := .slice c.hp c.hol.length c.hc) rfl
 have hdr := dayOf_range hok h3 h4
 have hff : firstF c m t = (nextF c (if m < minOf c t then dayOf c t + 1 else dayOf c t)).map fun d => timeOf c d m := rfl
 have Hff := hide hff
 unfold Cal.cells at hw1 ⊢
 clear hs hn hC hok hb1 k0 hff
 go_enter Tryz.func186, Tryz.ntmps186
 go_wp2_with (go_at_call 223; refine Stop.out ?_)
 refine Stop.go (local_c c t _ _ (HC.out.keep (Keeps.of_below HB1.out)) Hok.out (by omega) (by omega) ?_)
 intro w2 hb
 have HB2 := hide (bseq HB1.out hb)
 have k2 := HK0.out.next hb
 have HK2 := hide k2
 clear hb x0 x1 x2 hw1
 have x0 := k2.cell (k := 0) (v := .int .i64 c.zone) rfl; have x1 := k2.cell (k := 1) (v := .slice c.wp c.week.length c.wc) rfl; have x2 := k2.cell (k := 2) (v := .slice c.hp c.hol.length c.hc) rfl
 clear k2
 generalize dayOf c t = d at *
 generalize minOf c t = mm at *
 have key : ∀ (dd : Int) (w3 : World), -1 ≤ dd → dd ≤ 100001 → Below w.heap.size w w3 → firstF c m t = (nextF c dd).map (fun d => timeOf c d m) → True := fun _ _ _ _ _ _ => trivial
 clear key
 by_cases hlt : m < mm
 ·have hF := Hff.out
  rw [if_pos hlt] at hF
  have HF := hide hF
  have e1 : IntKind.i64.wrap (d + 1) = d + 1 := IntWalk.i64_in _ (by omega)
  clear hF
  go_wp2_with (go_at_call 244; refine Stop.out ?_)
  refine Stop.go (calNext_c c (d + 1) _ _ (HC.out.keep (Keeps.of_below HB2.out)) Hok.out (by omega) (by omega) ?_ ?_)
  ·intro x w3 hx hb
   have hnr := nextF_near hx
   have HB3 := hide (bseq HB2.out hb)
   have HX : Hid (firstF c m t = some (timeOf c x m)) := hide (by rw [HF.out, hx]; rfl)
   have k3 := HK2.out.next hb
   clear hb x0 x1 x2 hx
   have x0 := k3.cell (k := 0) (v := .int .i64 c.zone) rfl; have x1 := k3.cell (k := 1) (v := .slice c.wp c.week.length c.wc) rfl; have x2 := k3.cell (k := 2) (v := .slice c.hp c.hol.length c.hc) rfl
   clear k3
   go_wp2_with (go_at_call 245; refine Stop.out ?_)
   refine Stop.go (time_c c x m _ _ (HC.out.keep (Keeps.of_below HB3.out)) Hok.out (by omega) (by omega) h1 h2 ?_)
   intro w4 hb
   have HG := hide (HS.out _ w4 HX.out (bseq HB3.out hb))
   clear hb x0 x1 x2
   go_wp2
   exact HG.out
  ·intro w3 hx hb
   have HG := hide (HN.out w3 (by rw [HF.out, hx]; rfl) (bseq HB2.out hb))
   clear hb x0 x1 x2 hx
   go_wp2
   exact HG.out
 ·have hF := Hff.out
  rw [if_neg hlt] at hF
  have HF := hide hF
  clear hF
  go_wp2_with (go_at_call 244; refine Stop.out ?_)
  refine Stop.go (calNext_c c d _ _ (HC.out.keep (Keeps.of_below HB2.out)) Hok.out (by omega) (by omega) ?_ ?_)
  ·intro x w3 hx hb
   have hnr := nextF_near hx
   have HB3 := hide (bseq HB2.out hb)
   have HX : Hid (firstF c m t = some (timeOf c x m)) := hide (by rw [HF.out, hx]; rfl)
   have k3 := HK2.out.next hb
   clear hb x0 x1 x2 hx
   have x0 := k3.cell (k := 0) (v := .int .i64 c.zone) rfl; have x1 := k3.cell (k := 1) (v := .slice c.wp c.week.length c.wc) rfl; have x2 := k3.cell (k := 2) (v := .slice c.hp c.hol.length c.hc) rfl
   clear k3
   go_wp2_with (go_at_call 245; refine Stop.out ?_)
   refine Stop.go (time_c c x m _ _ (HC.out.keep (Keeps.of_below HB3.out)) Hok.out (by omega) (by omega) h1 h2 ?_)
   intro w4 hb
   have HG := hide (HS.out _ w4 HX.out (bseq HB3.out hb))
   clear hb x0 x1 x2
   go_wp2
   exact HG.out
  ·intro w3 hx hb
   have HG := hide (HN.out w3 (by rw [HF.out, hx]; rfl) (bseq HB2.out hb))
   clear hb x0 x1 x2 hx
   go_wp2
   exact HG.out
end
section
open Go.RowKit Go.Shelf
def MatAt (w : World) (p : Option Addr) (n : Nat) (M : Nat → Nat → Int) : Prop :=
 ∀ i, i < n → ∃ b o b' o' c', p = some ⟨b, o, none⟩ ∧ w.cell? ⟨b, o + i, none⟩ = some (.slice (some ⟨b', o', none⟩) n c') ∧ ∀ j, j < n → w.cell? ⟨b', o' + j, none⟩ = some (.int .i64 (M i j))
theorem MatAt.keep {w w' : World} {p : Option Addr} {n : Nat} {M : Nat → Nat → Int} (hk : Keeps w w') (h : MatAt w p n M) : MatAt w' p n M := fun i hi => by
 obtain ⟨b, o, b', o', c', hp, hr, hc⟩ := h i hi
 exact ⟨b, o, b', o', c', hp, hk _ _ hr, fun j hj => hk _ _ (hc j hj)⟩
theorem MatAt.next {w w' : World} {p : Option Addr} {n : Nat} {M : Nat → Nat → Int} (h : MatAt w p n M) (hb : Below w.heap.size w w') : MatAt w' p n M := h.keep (Keeps.of_below hb)
theorem MatAt.congr {w : World} {p : Option Addr} {n : Nat} {M M' : Nat → Nat → Int} (h : MatAt w p n M) (he : ∀ i j, i < n → j < n → M i j = M' i j) : MatAt w p n M' := fun i hi => by
 obtain ⟨b, o, b', o', c', hp, hr, hc⟩ := h i hi
 exact ⟨b, o, b', o', c', hp, hr, fun j hj => by rw [← he i j hi hj]; exact hc j hj⟩
theorem infinite_c (x : Int) (w : World) (R) (hR : R (.returned (.bool (infB x))) w) : Calls Tryz.prog 248 #[.int .i64 x] w R := by
 unfold infB at hR
 have HR := hide hR
 clear hR
 go_enter Tryz.func248, Tryz.ntmps248
 go_wp2
 exact HR.out
def elemB (x : Int) : Bool := infB x || (decide (-1000000000 ≤ x) && decide (x ≤ 1000000000))
set_option maxRecDepth 100000 in
theorem plus_c (x y : Int) (w : World) (R) (hR : R (.returned (.int .i64 (plusI x y))) w) : Calls Tryz.prog 193 #[.int .i64 x, .int .i64 y] w R := by
 unfold plusI at hR
 have HR := hide hR
 clear hR
 go_enter Tryz.func193, Tryz.ntmps193
 cases hx : infB x with
 | false =>
  rw [hx] at HR
  go_wp2_with (go_at_call 248; refine Stop.out ?_)
  refine Stop.go (infinite_c _ _ _ ?_)
  rw [hx]
  clear hx
  go_wp2
  exact HR.out
 | true =>
  rw [hx] at HR
  go_wp2_with (go_at_call 248; refine Stop.out ?_)
  refine Stop.go (infinite_c _ _ _ ?_)
  rw [hx]
  clear hx
  cases hy : infB y with
  | false =>
   rw [hy] at HR
   go_wp2_with (go_at_call 248; refine Stop.out ?_)
   refine Stop.go (infinite_c _ _ _ ?_)
   rw [hy]
   clear hy
   go_wp2
   exact HR.out
  | true =>
   rw [hy] at HR
   go_wp2_with (go_at_call 248; refine Stop.out ?_)
   refine Stop.go (infinite_c _ _ _ ?_)
   rw [hy]
   clear hy
   go_wp2
   exact HR.out
set_option maxRecDepth 100000 in
theorem times_c (x y : Int) (w : World) (R) (hr : -4000000000000000000 ≤ x ∧ x ≤ 4000000000000000000 ∧ -4000000000000000000 ≤ y ∧ y ≤ 4000000000000000000) (hR : R (.returned (.int .i64 (timesI x y))) w) : Calls Tryz.prog 196 #[.int .i64 x, .int .i64 y] w R := by
 unfold timesI at hR
 have HR := hide hR
 clear hR
 have hw : IntKind.i64.wrap (x + y) = x + y := IntWalk.i64_in _ (by omega)
 go_enter Tryz.func196, Tryz.ntmps196
 cases hx : infB x with
 | true =>
  rw [hx] at HR
  go_wp2_with (go_at_call 248; refine Stop.out ?_)
  refine Stop.go (infinite_c _ _ _ ?_)
  rw [hx]
  clear hx
  go_wp2
  exact HR.out
 | false =>
  rw [hx] at HR
  go_wp2_with (go_at_call 248; refine Stop.out ?_)
  refine Stop.go (infinite_c _ _ _ ?_)
  rw [hx]
  clear hx
  cases hy : infB y with
  | false =>
   rw [hy] at HR
   go_wp2_with (go_at_call 248; refine Stop.out ?_)
   refine Stop.go (infinite_c _ _ _ ?_)
   rw [hy]
   clear hy
   go_wp2
   exact HR.out
  | true =>
   rw [hy] at HR
   go_wp2_with (go_at_call 248; refine Stop.out ?_)
   refine Stop.go (infinite_c _ _ _ ?_)
   rw [hy]
   clear hy
   go_wp2
   exact HR.out
theorem anyTo_succ (f : Nat → Bool) (k : Nat) : ((List.range (k + 1)).any f) = ((List.range k).any f || f k) := by
 rw [List.range_succ, List.any_append]; simp
set_option maxRecDepth 100000 in
set_option maxHeartbeats 4000000 in
theorem fold_c (n : Nat) (f : FuncId) (lb : Array Value) (t : Nat → Bool) (w : World) (R) (hn : n ≤ 1000) (eg : ∀ args w, (callFunc f args).run Tryz.prog w = .ok (.enter f args) w)
  (ht : ∀ k W, k < n → Dr w W → ∀ R, (∀ W', Dr W W' → R (.returned (.bool (t k))) W') → Calls Tryz.prog f (#[.int .i64 (k : Int)] ++ lb) W R)
  (hR : ∀ w', Dr w w' → R (.returned (.bool ((List.range n).any t))) w') :
  Calls Tryz.prog 249 #[.int .i64 (n : Int), .bool false, .func (.func 250) #[] #[], .func (.func f) #[] lb] w R := by
 have HR := hide hR; have HT := hide ht
 clear hR ht
 go_enter Tryz.func249, Tryz.ntmps249
 go_wp2
 go_loopw [9, 13] (fun sb si wr => ∃ k : Nat, k ≤ n ∧ sb = .bool ((List.range k).any t) ∧ si = .int .i64 k ∧ Hid (Dr w wr)) (fun _ si _ => n - (intOf si).toNat)
 case atStart => exact ⟨0, Nat.zero_le _, rfl, rfl, hide (Dr.refl _)⟩
 case round =>
  obtain ⟨k, hk, rfl, rfl, HD⟩ := hrel
  by_cases hlt : k < n
  ·have hs := anyTo_succ t k
   have Hs := hide hs
   clear hs
   generalize (List.range k).any t = acc at *
   have hlt' : (k : Int) < (n : Int) := by omega
   go_wp2
   refine HT.out k wr hlt HD.out _ (fun W' hd => ?_)
   have HD2 := hide (HD.out.trans hd)
   clear hd HD hlt'
   generalize t k = tk at *
   cases acc with
   | true =>
    have hs : (List.range (k + 1)).any t = true := Hs.out
    have Hs2 := hide hs
    clear hs Hs
    go_wp2
    go_roundw
    case rel => exact ⟨k + 1, by omega, by rw [Hs2.out]; rfl, by go_num, HD2⟩
    case measure => simp [intOf]; omega
   | false =>
    have hs : (List.range (k + 1)).any t = tk := by rw [Hs.out, Bool.false_or]
    have Hs2 := hide hs
    clear hs Hs
    go_wp2
    go_roundw
    case rel => exact ⟨k + 1, by omega, by rw [Hs2.out]; rfl, by go_num, HD2⟩
    case measure => simp [intOf]; omega
  ·have hlt' : ¬ (k : Int) < (n : Int) := by omega
   obtain rfl : k = n := by omega
   have HF := hide (HR.out wr HD.out)
   clear HD
   generalize (List.range k).any t = acc at *
   go_wp2
   exact HF.out
end
section
open Go.RowKit Go.Shelf
set_option maxRecDepth 100000 in
theorem element_c (x : Int) (w : World) (R) (hx : elemB x = true) (hR : R (.returned (.bool true)) w) : Calls Tryz.prog 304 #[.int .i64 x] w R := by
 have HR := hide hR
 clear hR
 unfold elemB at hx
 go_enter Tryz.func304, Tryz.ntmps304
 go_wp2_with (go_at_call 248; refine Stop.out ?_)
 refine Stop.go (infinite_c _ _ _ ?_)
 cases hi : infB x with
 | true =>
  clear hx hi
  go_wp2
  exact HR.out
 | false =>
  rw [hi] at hx
  simp only [Bool.false_or, Bool.and_eq_true, decide_eq_true_eq] at hx
  obtain ⟨h1, h2⟩ := hx
  clear hi
  go_wp2
  exact HR.out
theorem und_mat : Tryz.prog.underlying 40 = some (.slice 3) := by kernel_rfl
def RowAt (w : World) (b o n : Nat) (f : Nat → Int) : Prop := ∀ j, j < n → w.cell? ⟨b, o + j, none⟩ = some (.int .i64 (f j))
theorem RowAt.next {w w' : World} {b o n : Nat} {f : Nat → Int} (h : RowAt w b o n f) (hb : Below w.heap.size w w') : RowAt w' b o n f := fun j hj => cell_later hb (h j hj)
set_option maxRecDepth 100000 in
set_option maxHeartbeats 4000000 in
theorem wrong_c (b o n c : Nat) (f : Nat → Int) (w : World) (R) (hn : n ≤ 40) (h : RowAt w b o n f) (he : ∀ j, j < n → elemB (f j) = true) (hR : ∀ w', Below w.heap.size w w' → R (.returned (.bool false)) w') :
  Calls Tryz.prog 247 #[.slice (some ⟨b, o, none⟩) n c] w R := by
 have HE := hide he
 obtain ⟨w1, hw1⟩ : ∃ w1, w.alloc (.cells #[.slice (some ⟨b, o, none⟩) n c] 40) = w1 := ⟨_, rfl⟩
 have hb1 : Below w.heap.size w w1 := hw1 ▸ balloc (Below.refl _ _) _
 have d0 : Blk w1 w.heap.size #[.slice (some ⟨b, o, none⟩) n c] 40 := by rw [← hw1]; exact Blk.new _ _ _
 have x0 := d0.cell (k := 0) (v := .slice (some ⟨b, o, none⟩) n c) rfl
 have HB1 := hide hb1; have HD := hide d0; have HRw := hide (h.next hb1); have HR := hide hR
 clear hR h he hb1 d0
 go_enter Tryz.func247, Tryz.ntmps247
 go_wp2_with (go_at_call 249; refine Stop.out ?_)
 refine Stop.go (fold_c n 303 #[.pointer (some ⟨w.heap.size, 0, none⟩)] (fun _ => false) w1 _ (by omega) (enters_of Tryz.func303 (by kernel_rfl) rfl) ?_ ?_)
 ·intro k W hk hd R' hR'
  have x0 := (HD.out.next hd.below).cell (k := 0) (v := .slice (some ⟨b, o, none⟩) n c) rfl
  have c0 := (HRw.out.next hd.below) k hk
  have HR' := hide (hR' W (Dr.refl _))
  have q1 : (0 : Int) ≤ (k : Int) := by omega
  have q2 : (k : Int) < (n : Int) := by omega
  clear hd hR' hw1
  simp only [List.append_toArray, List.cons_append, List.nil_append, List.push_toArray]
  go_enter Tryz.func303, Tryz.ntmps303
  go_wp2_with (go_at_call 304; refine Stop.out ?_)
  refine Stop.go (element_c _ _ _ (HE.out k hk) ?_)
  clear x0 c0
  go_wp2
  exact HR'.out
 ·intro w2 hd
  rw [show (List.range n).any (fun _ => false) = false by simp]
  have HF := hide (HR.out _ (bseq HB1.out hd.below))
  clear hd x0 hw1
  go_wp2
  exact HF.out
set_option maxRecDepth 100000 in
set_option maxHeartbeats 4000000 in
theorem mxValid_c (p : Option Addr) (n c : Nat) (M : Nat → Nat → Int) (w : World) (R) (hn : n ≤ 40) (h : MatAt w p n M) (he : ∀ i j, i < n → j < n → elemB (M i j) = true) (hR : ∀ w', Below w.heap.size w w' → R (.returned (.bool true)) w') :
  Calls Tryz.prog 190 #[.slice p n c] w R := by
 have HE := hide he; have HR := hide hR; have HM := hide h
 clear hR h he
 have q0 : ¬ (40 : Int) < (n : Int) := by omega
 go_enter Tryz.func190, Tryz.ntmps190
 go_wp2
 clear q0
 go_loopw [10] (fun si wr => ∃ k : Nat, k ≤ n ∧ si = .int .i64 k ∧ Hid (Below w.heap.size w wr)) (fun si _ => n - (intOf si).toNat)
 case atStart => exact ⟨0, Nat.zero_le _, rfl, hide (Below.refl _ _)⟩
 case round =>
  obtain ⟨k, hk, rfl, HB⟩ := hrel
  by_cases hlt : k < n
  ·obtain ⟨b, o, b', o', c', rfl, hr, hc⟩ := (HM.out.next HB.out) k hlt
   have HC := hide hc
   have q1 : (0 : Int) ≤ (k : Int) := by omega
   have q2 : (k : Int) < (n : Int) := by omega
   clear hc
   go_wp2_with (go_at_call 247; refine Stop.out ?_)
   refine Stop.go (wrong_c b' o' n c' (fun j => M k j) _ _ (by omega) HC.out (fun j hj => HE.out k j hlt hj) ?_)
   intro w2 hb
   have HB2 := hide (bseq HB.out hb)
   clear hb HB HC hr
   go_wp2
   go_roundw
   case rel => exact ⟨k + 1, by omega, by go_num, HB2⟩
   case measure => simp [intOf]; omega
  ·have q1 : ¬ (k : Int) < (n : Int) := by omega
   have HF := hide (HR.out _ HB.out)
   clear HB
   go_wp2
   exact HF.out
set_option maxRecDepth 100000 in
set_option maxHeartbeats 4000000 in
theorem cyclic_c (p : Option Addr) (n c : Nat) (M : Nat → Nat → Int) (w : World) (R) (hn : n ≤ 40) (h : MatAt w p n M) (he : ∀ i, i < n → M i i ≤ 0) (hR : ∀ w', Below w.heap.size w w' → R (.returned (.bool false)) w') :
  Calls Tryz.prog 194 #[.slice p n c] w R := by
 have HE := hide he
 obtain ⟨w1, hw1⟩ : ∃ w1, w.alloc (.cells #[.slice p n c] 36) = w1 := ⟨_, rfl⟩
 have hb1 : Below w.heap.size w w1 := hw1 ▸ balloc (Below.refl _ _) _
 have d0 : Blk w1 w.heap.size #[.slice p n c] 36 := by rw [← hw1]; exact Blk.new _ _ _
 have x0 := d0.cell (k := 0) (v := .slice p n c) rfl
 have HB1 := hide hb1; have HD := hide d0; have HM := hide (h.next hb1); have HR := hide hR
 clear hR h he hb1 d0
 go_enter Tryz.func194, Tryz.ntmps194
 go_wp2_with (go_at_call 249; refine Stop.out ?_)
 refine Stop.go (fold_c n 251 #[.pointer (some ⟨w.heap.size, 0, none⟩)] (fun _ => false) w1 _ (by omega) (enters_of Tryz.func251 (by kernel_rfl) rfl) ?_ ?_)
 ·intro k W hk hd R' hR'
  obtain ⟨b, o, b', o', c', hp, hr, hc⟩ := (HM.out.next hd.below) k hk
  have c0 := hc k hk
  have x0 := (HD.out.next hd.below).cell (k := 0) (v := .slice p n c) rfl
  rw [hp] at x0
  have HR' := hide (fun d => hR' (W.drewN d) ⟨d, rfl⟩)
  have hne : ¬ (0 < M k k) := by have := HE.out k hk; omega
  have q1 : (0 : Int) ≤ (k : Int) := by omega
  have q2 : (k : Int) < (n : Int) := by omega
  clear hd hR' hw1 hc hp
  generalize M k k = mk at *
  simp only [List.append_toArray, List.cons_append, List.nil_append, List.push_toArray]
  go_enter Tryz.func251, Tryz.ntmps251
  go_wp2
  exact HR'.out 0
 ·intro w2 hd
  rw [show (List.range n).any (fun _ => false) = false by simp]
  have HF := hide (HR.out _ (bseq HB1.out hd.below))
  clear hd x0 hw1
  go_wp2
  exact HF.out
end
end Go.Proofs.YtgfhcmidnbahjaaGreatDoor
