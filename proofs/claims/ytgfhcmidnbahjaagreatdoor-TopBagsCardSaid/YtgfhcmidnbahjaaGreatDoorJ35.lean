/- Transition: does a plan lead? Transition: the demand that the new plan leads on. Transition: Safe, where the new plan leads everywhere. Boxes: has, Valid. Boxes: has, given, what is outside, locked. -/
import Derived.Test.YtgfhcmidnbahjaaGreatDoorJ34
import Derived.Test.YtgfhcmidnbahjaaGreatDoorJ4
import Derived.Test.YtgfhcmidnbahjaaGreatDoorJ31
set_option linter.unusedVariables false
set_option linter.unusedSimpArgs false
namespace Go.Proofs.YtgfhcmidnbahjaaGreatDoor
section
open Go.RowKit Go.Shelf
attribute [local go_sem] Oper.semAt_some run_store_func
def leadsF (N : Net) (nx : Mat) (o d : Nat) : Bool := decide (d ∈ passF N nx d 19 o)
set_option maxRecDepth 100000 in
set_option maxHeartbeats 1000000 in
theorem leads_c (N : Net) (P : Pln) (nx : Mat) (gn gp o d : Nat) (w : World) (R) (hB : PaB w N P nx gn gp) (ho : o < N.offs.length) (hd : d < N.offs.length)
  (hR : ∀ w', Below w.heap.size w w' → R (.returned (.bool (leadsF N nx o d))) w') :
  Calls Tryz.prog 46 #[.pointer (some ⟨gn, 0, none⟩), .pointer (some ⟨gp, 0, none⟩), .int .i64 (o : Int), .int .i64 (d : Int)] w R := by
 have HR := hide hR; have HB := hide hB
 obtain ⟨w1, hw1⟩ : ∃ w1, (w.alloc (.cells #[.int .i64 (d : Int)] 3)).alloc (.cells #[.bool false] 4) = w1 := ⟨_, rfl⟩
 have hb1 : Below w.heap.size w w1 := hw1 ▸ balloc (balloc (Below.refl _ _) _) _
 have k1 : Blk w1 w.heap.size #[.int .i64 (d : Int)] 3 := by rw [← hw1]; exact Blk.alloc (Blk.new _ _ _) _
 have k2 : Blk w1 (w.heap.size + 1) #[.bool false] 4 := by rw [← hw1]; exact Blk.new_at (by simp)
 have HI := hide (show TwI w w.heap.size (w.heap.size + 1) (.int .i64 (d : Int)) (.bool false) 3 4 w1 from ⟨hb1, k1, k2⟩)
 have x0 := k1.cell (k := 0) (v := .int .i64 (d : Int)) rfl
 have hmf : ∀ (fn : Fn) (first cap : Array Value) (w : World), (Instr.makeFunc fn first cap).run Tryz.prog w = .ok (.func fn first cap) w := fun _ _ _ _ => rfl
 clear hR hB hb1 k1 k2
 refine (callsIn_wide (n := 8)).1 ?_
 refine callsIn_of_wp_marks Tryz.func46 rfl trivial ?_ rfl
 simp only [Tryz.ntmps46, List.size_toArray, List.length_cons, List.length_nil, Nat.reduceAdd, Nat.reduceSub, Array.replicate_succ, Array.replicate_zero, List.push_toArray, List.append_toArray, List.nil_append, List.cons_append]
 refine wpIn_wide.2 ?_
 go_wp2_with (go_at_call 119; refine Stop.out ?_)
 clear hw1
 refine Stop.go (passed_c w gn gp o d w1 _ (fun k hk => HI.out.below.block k hk) HI.out.below.size ?_)
 intro w2 hb hPI hsz
 have HI2 := hide (HI.out.next hb)
 have HPI := hide hPI
 have hg1 : w.heap.size + 1 < w1.heap.size := HI.out.b2.lt
 clear hb hPI x0
 generalize w1.heap.size = g at *
 go_wp2
 refine (wpIn_wide (n := 8)).1 ?_
 refine rangeFunc_G rfl (enters_of Tryz.func185 (by kernel_rfl) rfl) (passed_it w N P nx gn gp o d g w2 HB.out HPI.out (by omega) ho hd) (fun _ k => k = w.heap.size + 1) ?hK (fun _ => rfl)
  (fun pre W => d ∉ pre ∧ TwI w w.heap.size (w.heap.size + 1) (.int .i64 (d : Int)) (.bool false) 3 4 W)
  (fun cd W => cd = .ret ∧ leadsF N nx o d = true ∧ TwI w w.heap.size (w.heap.size + 1) (.int .i64 (d : Int)) (.bool true) 3 4 W) ?hI ?hIb ?hTx ⟨by simp, HI2.out⟩ ?hround ?hdone ?hstop
 case hK =>
  intro k hk
  rcases hk with hk | ⟨ha, hb⟩
  ·have := HI2.out.below.size
   exact ⟨by omega, by omega⟩
  ·exact ⟨by omega, by omega⟩
 case hI => exact fun s W W' row h hg hr => ⟨h.1, h.2.own HI2.out.below.size hg hr⟩
 case hIb =>
  intro s W W' row h hg hr k hk
  refine ⟨hk, ?_⟩
  have e2 := h.2.b2.lt
  have hk' : k = w.heap.size + 1 := hk
  omega
 case hTx => exact fun cd s W W' row h hg hr => ⟨h.1, h.2.1, h.2.2.own HI2.out.below.size hg hr⟩
 case hround =>
  intro l pre x post hxs W hI K' hK'
  obtain ⟨hpre, hT⟩ := hI
  have HT := hide hT; have HK' := hide hK'; have Hpre := hide hpre; have Hxs := hide hxs
  clear hT hK' hxs hpre
  gi_wp2
  refine HK'.out _ _ (KeepsFrom.refl _ _) (Kpb.refl _ _) ⟨Hpre.out, HT.out⟩ (fun W2 hB2 hI2 => ?_)
  have HT2 := hide hI2.2
  have c1 := HT2.out.b1.cell (k := 0) rfl; have c2 := HT2.out.b2.cell (k := 0) rfl
  have f2 := HT2.out.b2.free 0
  clear hB2 hI2
  by_cases hxd : x = d
  ·subst hxd
   have HL : Hid (leadsF N nx o x = true) := hide (by unfold leadsF; rw [Hxs.out]; simp)
   gi_wp2
   exact ⟨(KeepsOthers.setCell _ _ _).from _, rfl, HL.out, HT2.out.set2 (by omega) (by omega) _⟩
  ·have r1 : ¬ ((x : Int) = (d : Int)) := by omega
   gi_wp2
   exact ⟨KeepsFrom.refl _ _, Kpb.refl _ _, by rw [List.mem_append, List.mem_singleton]; exact fun e => by rcases e with e | e; exact Hpre.out e; exact hxd e.symm, HT2.out⟩
 case hdone =>
  rintro D W hD ⟨hxs, hT⟩ hdd
  have HT := hide hT; have Hd := hide hdd
  have HL : Hid (leadsF N nx o d = false) := hide (by unfold leadsF; simpa using hxs)
  have c2 := HT.out.b2.cell (k := 0) rfl
  have f2 := HT.out.b2.free 0
  have hDn : D ≠ w.heap.size + 1 := fun e => by have h7 : W.heap[w.heap.size + 1]? = _ := HT.out.b2; rw [← e, Hd.out] at h7; cases h7
  have HT2 := hide (HT.out.set2 (by omega) (by omega) (.bool false))
  have hd2 : (W.setCell ⟨w.heap.size + 1, 0, none⟩ (.bool false)).heap[D]? = some (.deferred (some [])) := by
   rw [Below.heap_setCell _ _ _ _ hDn]; exact Hd.out
  have Hd2 := hide hd2
  clear hxs hT hdd hd2 hDn
  go_wp2
  refine ⟨by simp, .inl ⟨_, _, rfl, run_takeDeferred Hd2.out, ?_⟩⟩
  have hg := grownBy_putObj' (W.setCell ⟨w.heap.size + 1, 0, none⟩ (.bool false)) D (.deferred none)
  have hI2 := HT2.out.own (B := w2.heap.size) HI2.out.below.size hg (fun r e => by cases e; exact ⟨hD, _, Hd2.out, rfl⟩)
  have z4 := hI2.b2.cell (k := 0) rfl
  have hf := HR.out _ hI2.below
  rw [HL.out] at hf
  refine ⟨.bool false, ?_, hf⟩
  clear hg hI2 hf
  simp [results, Tryz.results46, go_sem, z4]
 case hstop =>
  rintro D cd W hD ⟨rfl, hl, hT⟩ hdd
  have HT := hide hT; have Hd := hide hdd; have Hl := hide hl
  clear hT hdd hl
  refine wpIn_ret ?_
  try rw [Exit.noGoto_ret]
  refine ⟨by simp, .inl ⟨_, _, rfl, run_takeDeferred Hd.out, ?_⟩⟩
  have hg := grownBy_putObj' W D (.deferred none)
  have hI2 := HT.out.own (B := w2.heap.size) HI2.out.below.size hg (fun r e => by cases e; exact ⟨hD, _, Hd.out, rfl⟩)
  have z4 := hI2.b2.cell (k := 0) rfl
  have hf := HR.out _ hI2.below
  rw [Hl.out] at hf
  refine ⟨.bool true, ?_, hf⟩
  clear hg hI2 hf
  simp [results, Tryz.results46, go_sem, z4]
end
section
open Go.RowKit Go.Shelf
attribute [local go_sem] Oper.semAt_some run_store_func
structure DsI (w : World) (gm gq d : Nat) (W : World) : Prop where
 below : Below w.heap.size w W
 b0 : Blk W w.heap.size #[.pointer (some ⟨gm, 0, none⟩)] 102
 b1 : Blk W (w.heap.size + 1) #[.pointer (some ⟨gq, 0, none⟩)] 104
 b2 : Blk W (w.heap.size + 1 + 1) #[.int .i64 (d : Int)] 3
theorem DsI.next {w : World} {gm gq d : Nat} {W W' : World} (h : DsI w gm gq d W) (hb : Below W.heap.size W W') : DsI w gm gq d W' := ⟨bseq h.below hb, h.b0.next hb, h.b1.next hb, h.b2.next hb⟩
theorem DsI.own {w : World} {gm gq d : Nat} {W W' : World} {row : Option Nat} {B : Nat} (h : DsI w gm gq d W) (hB : w.heap.size ≤ B) (hg : W.grownBy W' row) (hr : ∀ r, row = some r → B ≤ r ∧ ∃ o : Obj, W.heap[r]? = some o ∧ o.isCells = false) : DsI w gm gq d W' :=
 ⟨below_own h.below hB hg hr, h.b0.own hg hr, h.b1.own hg hr, h.b2.own hg hr⟩
set_option maxRecDepth 100000 in
set_option maxHeartbeats 1000000 in
theorem demandSafe_c (N M : Net) (P Q : Pln) (nx ny : Mat) (gn gp gm gq o d : Nat) (w : World) (R) (hB : PaB w N P nx gn gp) (hC : PaB w M Q ny gm gq) (hof : M.offs.length = N.offs.length) (ho : o < N.offs.length) (hd : d < N.offs.length)
  (hl : ∀ x, x < N.offs.length → leadsF M ny x d = true) (hR : ∀ v w', Below w.heap.size w w' → R (.returned v) w') :
  Calls Tryz.prog 47 #[.pointer (some ⟨gn, 0, none⟩), .pointer (some ⟨gp, 0, none⟩), .pointer (some ⟨gm, 0, none⟩), .pointer (some ⟨gq, 0, none⟩), .int .i64 (o : Int), .int .i64 (d : Int)] w R := by
 have HR := hide hR; have HB := hide hB; have HC := hide hC; have Hl := hide hl; have Hof := hide hof
 obtain ⟨w1, hw1⟩ : ∃ w1, ((w.alloc (.cells #[.pointer (some ⟨gm, 0, none⟩)] 102)).alloc (.cells #[.pointer (some ⟨gq, 0, none⟩)] 104)).alloc (.cells #[.int .i64 (d : Int)] 3) = w1 := ⟨_, rfl⟩
 have hb1 : Below w.heap.size w w1 := hw1 ▸ balloc (balloc (balloc (Below.refl _ _) _) _) _
 have hI : DsI w gm gq d w1 := by
  refine ⟨hb1, ?_, ?_, ?_⟩ <;> rw [← hw1] <;> repeat (first | exact Blk.new_at (by simp) | refine Blk.alloc ?_ _)
 have HI := hide hI
 have x2 := hI.b2.cell (k := 0) (v := .int .i64 (d : Int)) rfl
 have hmf : ∀ (fn : Fn) (first cap : Array Value) (w : World), (Instr.makeFunc fn first cap).run Tryz.prog w = .ok (.func fn first cap) w := fun _ _ _ _ => rfl
 clear hR hB hC hl hb1 hI hof
 refine (callsIn_wide (n := 8)).1 ?_
 refine callsIn_of_wp_marks Tryz.func47 rfl trivial ?_ rfl
 simp only [Tryz.ntmps47, List.size_toArray, List.length_cons, List.length_nil, Nat.reduceAdd, Nat.reduceSub, Array.replicate_succ, Array.replicate_zero, List.push_toArray, List.append_toArray, List.nil_append, List.cons_append]
 refine wpIn_wide.2 ?_
 go_wp2_with (go_at_call 119; refine Stop.out ?_)
 clear hw1
 refine Stop.go (passed_c w gn gp o d w1 _ (fun k hk => HI.out.below.block k hk) HI.out.below.size ?_)
 intro w2 hb hPI hsz
 have HI2 := hide (HI.out.next hb)
 have HPI := hide hPI
 have hg1 : w.heap.size + 1 + 1 < w1.heap.size := HI.out.b2.lt
 clear hb hPI x2
 generalize w1.heap.size = g at *
 go_wp2
 refine (wpIn_wide (n := 8)).1 ?_
 refine rangeFunc_G rfl (enters_of Tryz.func185 (by kernel_rfl) rfl) (passed_it w N P nx gn gp o d g w2 HB.out HPI.out (by omega) ho hd) (fun _ _ => False) ?hK (fun _ => rfl)
  (fun pre W => DsI w gm gq d W) (fun _ _ => False) ?hI ?hIb ?hTx HI2.out ?hround ?hdone ?hstop
 case hK =>
  intro k hk
  rcases hk with hk | ⟨ha, hb⟩
  ·have := HI2.out.below.size
   exact ⟨by omega, fun e => e⟩
  ·exact ⟨by omega, fun e => e⟩
 case hI => exact fun s W W' row h hg hr => h.own HI2.out.below.size hg hr
 case hIb => exact fun s W W' row h hg hr k hk => hk.elim
 case hTx => exact fun cd s W W' row h hg hr => h.elim
 case hround =>
  intro l pre x post hxs W hI K' hK'
  have HT := hide hI; have HK' := hide hK'
  have hxn : x < N.offs.length := passF_lt HB.out.snd HB.out.formed hd 19 o ho x (by rw [hxs]; simp)
  clear hI hK' hxs
  gi_wp2
  refine HK'.out _ _ (KeepsFrom.refl _ _) (Kpb.refl _ _) HT.out (fun W2 hB2 hI2 => ?_)
  have HT2 := hide hI2
  have c0 := HT2.out.b0.cell (k := 0) rfl; have c1 := HT2.out.b1.cell (k := 0) rfl; have c2 := HT2.out.b2.cell (k := 0) rfl
  clear hB2 hI2
  gi_wp2_with (gi_at_call 46; refine Stop.out ?_)
  refine Stop.go ⟨trivial, CallsIn.inRound _ (callsIn_wide.2 (leads_c M Q ny gm gq x d _ _ (HC.out.next HT2.out.below) (by rw [Hof.out]; exact hxn) (by rw [Hof.out]; exact hd) ?_))⟩
  rw [Hl.out x hxn]
  intro W3 hb
  have HT3 := hide (HT2.out.next hb)
  have HB3 := hide hb
  clear hb c0 c1 c2
  gi_wp2
  exact ⟨kfrom_below HB3.out, kpb_below HB3.out (fun k h => h), HT3.out⟩
 case hdone =>
  rintro D W hD hT hdd
  have HT := hide hT; have Hd := hide hdd
  clear hT hdd
  go_wp2
  refine ⟨by simp, .inl ⟨_, _, rfl, run_takeDeferred Hd.out, ?_⟩⟩
  have hg := grownBy_putObj' W D (.deferred none)
  have hI2 := HT.out.own (B := w2.heap.size) HI2.out.below.size hg (fun r e => by cases e; exact ⟨hD, _, Hd.out, rfl⟩)
  refine ⟨.tuple #[], ?_, HR.out _ _ hI2.below⟩
  clear hg hI2
  simp [results, Tryz.results47, go_sem]
 case hstop => exact fun D c W hD h hd => h.elim
end
section
open Go.RowKit Go.Shelf
attribute [local go_sem] Oper.semAt_some run_store_func
structure SfI (w : World) (N M : Net) (P Q : Pln) (W : World) : Prop where
 below : Below w.heap.size w W
 n : Blk W w.heap.size N.cells 29
 p : Blk W (w.heap.size + 1) P.cells.toArray 39
 m : Blk W (w.heap.size + 1 + 1) M.cells 29
 q : Blk W (w.heap.size + 1 + 1 + 1) Q.cells.toArray 39
 er : Blk W (w.heap.size + 1 + 1 + 1 + 1) #[.int .i64 0] 43
theorem SfI.next {w : World} {N M : Net} {P Q : Pln} {W W' : World} (h : SfI w N M P Q W) (hb : Below W.heap.size W W') : SfI w N M P Q W' :=
 ⟨bseq h.below hb, h.n.next hb, h.p.next hb, h.m.next hb, h.q.next hb, h.er.next hb⟩
theorem SfI.pa {w : World} {N M : Net} {P Q : Pln} {W : World} {nx ny : Mat} (h : SfI w N M P Q W) (hP : CaP w N M P Q nx ny) : PaB W N P nx w.heap.size (w.heap.size + 1) :=
 ⟨h.n, h.p, hP.n.next h.below, snd_of hP.sn, hP.mn.next h.below, hP.fn, hP.pn⟩
theorem SfI.pb {w : World} {N M : Net} {P Q : Pln} {W : World} {nx ny : Mat} (h : SfI w N M P Q W) (hP : CaP w N M P Q nx ny) : PaB W M Q ny (w.heap.size + 1 + 1) (w.heap.size + 1 + 1 + 1) :=
 ⟨h.m, h.q, hP.m.next h.below, snd_of hP.sm, hP.mm.next h.below, hP.fm, hP.qn⟩
set_option maxRecDepth 100000 in
set_option maxHeartbeats 2000000 in
theorem safe_c (N M : Net) (P Q : Pln) (nx ny : Mat) (time : Int) (w : World) (R) (hP : CaP w N M P Q nx ny) (h1 : 0 ≤ time) (h2 : time ≤ 1000000)
  (hl : ∀ x d, x < N.offs.length → d < N.offs.length → leadsF M ny x d = true)
  (hR : ∀ w', Below w.heap.size w w' → R (.returned (.int .i64 0)) w') :
  Calls Tryz.prog 11 #[.agg N.cells, .agg P.cells.toArray, .agg M.cells, .agg Q.cells.toArray, .int .i64 time] w R := by
 have HR := hide hR; have HP := hide hP; have Hl := hide hl
 have hmf : ∀ (fn : Fn) (first cap : Array Value) (w : World), (Instr.makeFunc fn first cap).run Tryz.prog w = .ok (.func fn first cap) w := fun _ _ _ _ => rfl
 obtain ⟨w1, hw1⟩ : ∃ w1, ((((w.alloc (.cells N.cells 29)).alloc (.cells P.cells.toArray 39)).alloc (.cells M.cells 29)).alloc (.cells Q.cells.toArray 39)).alloc (.cells #[.int .i64 0] 43) = w1 := ⟨_, rfl⟩
 have hI : SfI w N M P Q w1 := by
  refine ⟨hw1 ▸ balloc (balloc (balloc (balloc (balloc (Below.refl _ _) _) _) _) _) _, ?_, ?_, ?_, ?_, ?_⟩ <;> rw [← hw1]
  ·exact Blk.alloc (Blk.alloc (Blk.alloc (Blk.alloc (Blk.new_at rfl) _) _) _) _
  ·exact Blk.alloc (Blk.alloc (Blk.alloc (Blk.new_at (by simp)) _) _) _
  ·exact Blk.alloc (Blk.alloc (Blk.new_at (by simp)) _) _
  ·exact Blk.alloc (Blk.new_at (by simp)) _
  ·exact Blk.new_at (by simp)
 have HI := hide hI
 have hn20 : N.offs.length ≤ 1000 := by have := (snd_of hP.sn).noff; omega
 unfold Net.cells Pln.cells at hw1
 clear hR hP hI hl
 unfold Net.cells Pln.cells
 refine calls_of_wpAt Tryz.func11 rfl (wpAt_of_wp ?_)
 simp only [Tryz.ntmps11, List.size_toArray, List.length_cons, List.length_nil, Nat.reduceAdd, Nat.reduceSub, Array.replicate_succ, Array.replicate_zero, List.push_toArray, List.append_toArray, List.nil_append, List.cons_append]
 go_wp2_with (go_at_call 43; refine Stop.out ?_)
 clear hw1
 refine Stop.go (inTime_yes time h1 h2 _ _ ?_)
 go_wp2_with (go_at_call 44; refine Stop.out ?_)
 refine Stop.go (alike_c N M w.heap.size (w.heap.size + 1 + 1) w1 _ HI.out.n HI.out.m (HP.out.next HI.out.below).n HP.out.fp HP.out.offs (by omega) ?_)
 intro w3 hb
 have HI3 := hide (HI.out.next hb)
 clear hb HI
 go_wp2_with (go_at_call 45; refine Stop.out ?_)
 refine Stop.go (tUsable_c N P nx w.heap.size (w.heap.size + 1) w3 _ (HP.out.next HI3.out.below).kw HI3.out.n HI3.out.p (HP.out.next HI3.out.below).n HP.out.sn (HP.out.next HI3.out.below).mn HP.out.fn HP.out.pn ?_)
 intro w4 hb
 have HI4 := hide (HI3.out.next hb)
 clear hb HI3
 go_wp2_with (go_at_call 45; refine Stop.out ?_)
 refine Stop.go (tUsable_c M Q ny (w.heap.size + 1 + 1) (w.heap.size + 1 + 1 + 1) w4 _ (HP.out.next HI4.out.below).kw HI4.out.m HI4.out.q (HP.out.next HI4.out.below).m HP.out.sm (HP.out.next HI4.out.below).mm HP.out.fm HP.out.qn ?_)
 intro w5 hb
 have HI5 := hide (HI4.out.next hb)
 clear hb HI4
 go_wp2_with (go_at_call 42; refine Stop.out ?_)
 refine Stop.go (tdemand_ok _ _ (fun v5 => ?_))
 obtain ⟨y0, y1, y2, y3, y4, y5⟩ := HI5.out.n.net6
 go_wp2
 clear y0 y1 y2 y3 y4 y5
 go_loopw [29] (fun sv wq => ∃ i : Nat, i ≤ N.offs.length ∧ sv = .int .i64 (i : Int) ∧ Hid (SfI w N M P Q wq)) (fun sv _ => N.offs.length - (intOf sv).toNat)
 case atStart => exact ⟨0, by omega, rfl, HI5⟩
 case round =>
  clear HI5
  obtain ⟨o, ho, rfl, HI⟩ := hrel
  by_cases hlt : o < N.offs.length
  ·have q1 : (o : Int) < (N.offs.length : Int) := by omega
   obtain ⟨y0, y1, y2, y3, y4, y5⟩ := HI.out.n.net6
   have Ho := hide hlt
   go_wp2
   clear y0 y1 y2 y3 y4 y5
   have HI0 := HI
   clear HI
   go_loopw [35] (fun sv wq => ∃ i : Nat, i ≤ N.offs.length ∧ sv = .int .i64 (i : Int) ∧ Hid (SfI w N M P Q wq)) (fun sv _ => N.offs.length - (intOf sv).toNat)
   case atStart => exact ⟨0, by omega, rfl, HI0⟩
   case round =>
    clear HI0
    obtain ⟨d, hd, rfl, HI⟩ := hrel
    by_cases hlt2 : d < N.offs.length
    ·have q2 : (d : Int) < (N.offs.length : Int) := by omega
     have Hd := hide hlt2
     go_wp2_with (go_at_call 46; refine Stop.out ?_)
     refine Stop.go (leads_c N P nx w.heap.size (w.heap.size + 1) o d _ _ (HI.out.pa HP.out) Ho.out Hd.out ?_)
     intro w6 hb
     have HI6 := hide (HI.out.next hb)
     clear hb HI
     cases hle : leadsF N nx o d with
     | true =>
      clear hle
      go_wp2_with (go_at_call 47; refine Stop.out ?_)
      refine Stop.go (demandSafe_c N M P Q nx ny w.heap.size (w.heap.size + 1) (w.heap.size + 1 + 1) (w.heap.size + 1 + 1 + 1) o d w6 _ (HI6.out.pa HP.out) (HI6.out.pb HP.out) (by rw [HP.out.offs]) Ho.out Hd.out (fun x hx => Hl.out x d hx Hd.out) ?_)
      intro v7 w7 hb
      have HI7 := hide (HI6.out.next hb)
      clear hb HI6
      go_wp2
      go_roundw
      case rel => exact ⟨d + 1, Hd.out, by go_num, HI7⟩
      case measure => have := Hd.out; simp [intOf]; omega
     | false =>
      clear hle
      go_wp2
      go_roundw
      case rel => exact ⟨d + 1, Hd.out, by go_num, HI6⟩
      case measure => have := Hd.out; simp [intOf]; omega
    ·have q2 : ¬ (d : Int) < (N.offs.length : Int) := by omega
     go_wp2
     go_roundw
     case rel => exact ⟨o + 1, Ho.out, by go_num, HI⟩
     case measure => have := Ho.out; simp [intOf]; omega
  ·have q1 : ¬ (o : Int) < (N.offs.length : Int) := by omega
   have c1 := HI.out.er.cell (k := 0) (v := .int .i64 0) rfl
   have f1 := HI.out.er.free 0
   have HI8 : Hid (SfI w N M P Q (wr.setCell ⟨w.heap.size + 1 + 1 + 1 + 1, 0, none⟩ (.int .i64 0))) := hide
    ⟨HI.out.below.setCell (p := ⟨w.heap.size + 1 + 1 + 1 + 1, 0, none⟩) (show w.heap.size ≤ w.heap.size + 1 + 1 + 1 + 1 by omega) _, HI.out.n.far (p := ⟨w.heap.size + 1 + 1 + 1 + 1, 0, none⟩) (show w.heap.size ≠ w.heap.size + 1 + 1 + 1 + 1 by omega) _, HI.out.p.far (p := ⟨w.heap.size + 1 + 1 + 1 + 1, 0, none⟩) (show w.heap.size + 1 ≠ w.heap.size + 1 + 1 + 1 + 1 by omega) _,
     HI.out.m.far (p := ⟨w.heap.size + 1 + 1 + 1 + 1, 0, none⟩) (show w.heap.size + 1 + 1 ≠ w.heap.size + 1 + 1 + 1 + 1 by omega) _, HI.out.q.far (p := ⟨w.heap.size + 1 + 1 + 1 + 1, 0, none⟩) (show w.heap.size + 1 + 1 + 1 ≠ w.heap.size + 1 + 1 + 1 + 1 by omega) _, HI.out.er.set 0 (.int .i64 0)⟩
   go_wp2
   refine ⟨by simp, .inr ⟨(fun h => by simp [Fence.wide] at h), _, _, 40, #[.pointer (some ⟨w.heap.size + 1 + 1 + 1 + 1, 0, none⟩)], rfl, (by simp [invoke, go_sem]), (fun _ _ => trivial), (safe_calm _ _ _).mono ?_⟩⟩
   rintro e' u' w' ⟨rfl, rfl, rfl⟩
   have z1 := HI8.out.er.cell (k := 0) (v := .int .i64 0) rfl
   refine ⟨.int .i64 0, ?_, HR.out _ HI8.out.below⟩
   clear c1 f1
   simp [results, Tryz.results11, go_sem, z1]
end
section
open Go.RowKit Go.Shelf
attribute [local go_sem] Oper.semAt_some run_store_func
structure Bx where
 label : ByteArray
 kind : Int
 parent : Int
 place : Int
 closed : Bool
deriving Inhabited, DecidableEq
def Bx.cells (b : Bx) : List Value := [.string b.label, .int .i64 b.kind, .int .i64 b.parent, .int .i64 b.place, .bool b.closed]
theorem bx_len (b : Bx) : b.cells.length = 5 := rfl
structure BxsP (l : List Bx) : Prop where
 len : l.length ≤ 200
 lab : ∀ b ∈ l, 1 ≤ b.label.size ∧ b.label.size ≤ 20
 one : (l.map Bx.label).Nodup
 kind : ∀ b ∈ l, 0 ≤ b.kind ∧ b.kind ≤ 3
 place : ∀ b ∈ l, 0 ≤ b.place ∧ b.place < 12
 par : ∀ b ∈ l, -1 ≤ b.parent ∧ b.parent < l.length
 item : ∀ b ∈ l, b.closed = true → b.kind ≠ 0
 nest : ∀ b ∈ l, 0 ≤ b.parent → ∃ p, l[b.parent.toNat]? = some p ∧ b.kind < p.kind ∧ p.place = b.place
theorem find2_none {κ : Type} [DecidableEq κ] {L : List (κ × Value)} {x : κ} (h : ∀ e ∈ L, x = e.1 → False) : find2 L x = none := by
 induction L with
 | nil => rfl
 | cons e L ih =>
  obtain ⟨k, v⟩ := e
  rw [find2, if_neg (fun e => h _ (List.mem_cons_self ..) e)]
  exact ih fun e he => h e (List.mem_cons_of_mem _ he)
set_option maxRecDepth 100000 in
set_option maxHeartbeats 2000000 in
theorem nValid_c (l : List Bx) (p : Option Addr) (c : Nat) (w : World) (R) (hL : BxsP l) (hE : EncAt 5 Bx.cells w p l) (hR : ∀ w', Below w.heap.size w w' → R (.returned (.bool true)) w') : Calls Tryz.prog 145 #[.slice p l.length c] w R := by
 have HR := hide hR; have HL := hide hL; have HE := hide hE
 have hl := hL.len
 have hmm := @run_makeMap Tryz.prog
 have h0 : ¬ ((200 : Int) < (l.length : Int)) := by omega
 clear hR hL hE
 go_enter Tryz.func145, Tryz.ntmps145
 go_wp2
 go_loopw [12] (fun sv wq => ∃ i : Nat, i ≤ l.length ∧ sv = .int .i64 (i : Int) ∧ Hid (Below w.heap.size w wq) ∧ Hid (MpAt (fun s => .string s) wq w.heap.size ((l.take i).map (fun b => (b.label, Value.bool true))))) (fun sv _ => l.length - (intOf sv).toNat)
 case atStart => exact ⟨0, by omega, rfl, hide (balloc (Below.refl _ _) _), hide (MpAt.new _)⟩
 case round =>
  clear hmm
  obtain ⟨i, hi, rfl, HB, HM⟩ := hrel
  by_cases hlt : i < l.length
  ·obtain ⟨b, bo, x, hp, hx, hcell⟩ := (HE.out.keep (Keeps.of_below HB.out)).at_ hlt
   have m0 : wr.cell? ⟨b, bo + i * 5, none⟩ = some (.string x.label) := hcell 0 _ rfl; have m1 := hcell 1 _ rfl; have m2 := hcell 2 _ rfl; have m3 := hcell 3 _ rfl; have m4 := hcell 4 _ rfl
   have q1 : (0 : Int) ≤ (i : Int) := by omega
   have q2 : (i : Int) < (l.length : Int) := by omega
   obtain ⟨L, hLd⟩ : ∃ L, (l.take i).map (fun b => (b.label, Value.bool true)) = L := ⟨_, rfl⟩
   have hf : find2 L x.label = none := by
    rw [← hLd]
    refine find2_none fun e he h => ?_
    obtain ⟨y, hy, rfl⟩ := List.mem_map.1 he
    have h9 := HL.out.one
    have e9 : l = l.take i ++ x :: l.drop (i + 1) := by
     conv => lhs; rw [← List.take_append_drop i l]
     rw [List.drop_eq_getElem_cons hlt]
     rw [List.getElem?_eq_getElem hlt] at hx
     injection hx with hx; rw [hx]
    rw [e9, List.map_append, List.map_cons] at h9
    have h8 := (List.nodup_append.1 h9).2.2 y.label (List.mem_map_of_mem hy) x.label (by simp)
    exact h8 h.symm
   have hxm := List.mem_of_getElem? hx
   obtain ⟨lb1, lb2⟩ := HL.out.lab x hxm
   obtain ⟨kd1, kd2⟩ := HL.out.kind x hxm
   obtain ⟨pl1, pl2⟩ := HL.out.place x hxm
   obtain ⟨pa1, pa2⟩ := HL.out.par x hxm
   have r1 : ¬ ((x.label.size : Int) < 1) := by omega
   have r2 : ¬ (20 < (x.label.size : Int)) := by omega
   have r3 : ¬ (x.kind < 0) := by omega
   have r4 : ¬ (3 < x.kind) := by omega
   have r5 : ¬ (x.place < 0) := by omega
   have r6 : ¬ (12 ≤ x.place) := by omega
   have r7 : ¬ (x.parent < -1) := by omega
   have r8 : ¬ ((l.length : Int) ≤ x.parent) := by omega
   obtain ⟨w1, hw1⟩ : ∃ w1, wr.alloc (.cells #[.string x.label, .int .i64 x.kind, .int .i64 x.parent, .int .i64 x.place, .bool x.closed] 69) = w1 := ⟨_, rfl⟩
   have hb1 : Below wr.heap.size wr w1 := hw1 ▸ balloc (Below.refl _ _) _
   have k1 : Blk w1 wr.heap.size #[.string x.label, .int .i64 x.kind, .int .i64 x.parent, .int .i64 x.place, .bool x.closed] 69 := hw1 ▸ Blk.new _ _ _
   rw [hLd] at HM
   have hM1 := HM.out.next hb1
   have hlk := hM1.lookup mlawL x.label false
   rw [hf] at hlk
   simp only [Bool.false_eq_true, if_false, Option.getD_none] at hlk
   obtain ⟨w2, hu, hm2, hg2, hs2⟩ := hM1.update mlawL x.label (.bool true)
   rw [putL_new hf] at hm2
   have hne : wr.heap.size ≠ w.heap.size := by have := HM.out.lt; omega
   have k2 : Blk w2 wr.heap.size #[.string x.label, .int .i64 x.kind, .int .i64 x.parent, .int .i64 x.place, .bool x.closed] 69 := k1.grown hg2 (fun e => by injection e with e; exact hne e)
   have HB2 := hide ((bseq HB.out hb1).grown hg2 (bseq HB.out hb1).size (fun k e => by injection e with e; omega))
   have HM2 : Hid (MpAt (fun s => .string s) w2 w.heap.size ((l.take (i + 1)).map (fun b => (b.label, Value.bool true)))) := hide (by
    rw [List.take_add_one, hx, List.map_append, hLd]; exact hm2)
   have HK2 := hide k2
   have n0 := k1.cell (k := 0) (v := .string x.label) rfl; have n1 := k1.cell (k := 1) (v := .int .i64 x.kind) rfl; have n2 := k1.cell (k := 2) (v := .int .i64 x.parent) rfl; have n3 := k1.cell (k := 3) (v := .int .i64 x.place) rfl; have n4 := k1.cell (k := 4) (v := .bool x.closed) rfl
   have o0 := k2.cell (k := 0) (v := .string x.label) rfl; have o1 := k2.cell (k := 1) (v := .int .i64 x.kind) rfl; have o2 := k2.cell (k := 2) (v := .int .i64 x.parent) rfl; have o3 := k2.cell (k := 3) (v := .int .i64 x.place) rfl; have o4 := k2.cell (k := 4) (v := .bool x.closed) rfl
   have HX := hide hx; have Hlt := hide hlt; have HXm := hide hxm
   rw [hp]
   clear hcell hb1 k1 k2 hLd hf hM1 hm2 hg2 hs2 hne hx HM
   have hit : x.closed = true → ¬ (x.kind = 0) := HL.out.item x hxm
   have Hit := hide hit
   clear hxm hit
   obtain ⟨cl, hcl⟩ : ∃ cl, x.closed = cl := ⟨_, rfl⟩
   rw [hcl] at n4 o4 m4 hw1 Hit
   clear hcl
   go_wp2
   all_goals try (exfalso; exact Hit.out (by assumption) (by simpa using (by assumption : (x.kind == 0) = true)))
   all_goals clear n0 n1 n2 n3 n4 o0 o4 m0 m1 m2 m3 m4 hlk hu hw1
   all_goals
    by_cases hp0 : 0 ≤ x.parent
    ·obtain ⟨px, hpx, hkk, hpl⟩ := HL.out.nest x HXm.out hp0
     obtain ⟨pi, hpi⟩ : ∃ pi : Nat, x.parent = (pi : Int) := ⟨x.parent.toNat, by omega⟩
     rw [hpi, show ((pi : Int)).toNat = pi by omega] at hpx
     obtain ⟨b', bo', px', hp', hx', hcell⟩ := (HE.out.keep (Keeps.of_below HB2.out)).at_ (i := pi) (List.getElem?_eq_some_iff.1 hpx).1
     rw [hpx] at hx'; injection hx' with hx'; subst hx'
     rw [hp] at hp'; injection hp' with hp'; injection hp' with e1 e2; subst e1; subst e2
     have v1 := hcell 1 _ rfl; have v3 := hcell 3 _ rfl
     rw [hpi] at o2 hp0
     have s1 : ¬ (px.kind ≤ x.kind) := by omega
     have s2 : (pi : Int) < (l.length : Int) := by omega
     have s3 : (px.place != x.place) = false := by rw [hpl]; simp
     clear hcell hpx hpi
     go_quiet (fail)
     go_wp2
     go_roundw
     case rel => exact ⟨i + 1, Hlt.out, by go_num, hide (below_drewN' HB2.out nq), hide (HM2.out.next (below_drewN' (Below.refl _ _) nq))⟩
     case measure => have := Hlt.out; simp [intOf]; omega
    ·have s1 : ¬ ((0 : Int) ≤ x.parent) := hp0
     go_quiet (fail)
     go_wp2
     go_roundw
     case rel => exact ⟨i + 1, Hlt.out, by go_num, hide (below_drewN' HB2.out nq), hide (HM2.out.next (below_drewN' (Below.refl _ _) nq))⟩
     case measure => have := Hlt.out; simp [intOf]; omega
  ·have q2 : ¬ ((i : Int) < (l.length : Int)) := by omega
   go_wp2
   exact HR.out _ HB.out
end
section
open Go.RowKit Go.Shelf
attribute [local go_sem] Oper.semAt_some run_store_func
set_option maxRecDepth 100000 in
set_option maxHeartbeats 2000000 in
theorem nHas_c (l : List Bx) (xs : List Int) (p p2 : Option Addr) (c c2 : Nat) (w : World) (R) (hL : BxsP l) (hE : EncAt 5 Bx.cells w p l) (hX : IntsAt .i64 w p2 xs) (hx : ∀ x ∈ xs, 0 ≤ x ∧ x < l.length) (hn : xs.length ≤ 100) (hR : ∀ w', Below w.heap.size w w' → R (.returned (.bool true)) w') :
  Calls Tryz.prog 88 #[.slice p l.length c, .slice p2 xs.length c2] w R := by
 have HR := hide hR; have HL := hide hL; have HE := hide hE; have HX := hide hX; have Hx := hide hx
 clear hR hL hE hX hx
 go_enter Tryz.func88, Tryz.ntmps88
 go_wp2
 go_loopw [9] (fun sv wq => (∃ i : Nat, i ≤ xs.length ∧ sv = .int .i64 (i : Int)) ∧ wq = w) (fun sv _ => xs.length - (intOf sv).toNat)
 case atStart => exact ⟨⟨0, by omega, rfl⟩, rfl⟩
 case round =>
  obtain ⟨⟨i, hi, rfl⟩, rfl⟩ := hrel
  by_cases hlt : i < xs.length
  ·obtain ⟨b, o, hp, hc⟩ := HX.out (by omega)
   have hxi : xs[i]? = some xs[i] := List.getElem?_eq_getElem hlt
   have m0 := hc i _ hxi
   obtain ⟨x1, x2⟩ := Hx.out _ (List.getElem_mem hlt)
   generalize xs[i] = x at *
   have q1 : (0 : Int) ≤ (i : Int) := by omega
   have q2 : (i : Int) < (xs.length : Int) := by omega
   have r1 : ¬ (x < 0) := by omega
   have r2 : ¬ ((l.length : Int) ≤ x) := by omega
   have Hlt := hide hlt
   rw [hp]
   clear hc hxi
   go_wp2
   go_roundw
   case rel => exact ⟨⟨i + 1, Hlt.out, by go_num⟩, by first | rfl | trivial⟩
   case measure => have := Hlt.out; simp [intOf]; omega
  ·have q2 : ¬ ((i : Int) < (xs.length : Int)) := by omega
   go_wp2_with (go_at_call 145; refine Stop.out ?_)
   refine Stop.go (nValid_c l p c _ _ HL.out HE.out ?_)
   intro w2 hb
   have HF := hide (HR.out w2 hb)
   clear hb
   go_wp2
   exact HF.out
end
end Go.Proofs.YtgfhcmidnbahjaaGreatDoor
