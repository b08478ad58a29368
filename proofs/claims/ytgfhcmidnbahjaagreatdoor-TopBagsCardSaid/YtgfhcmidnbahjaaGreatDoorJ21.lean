/- Promise: the days that a table promises. Promise: rows, at three types (printed by genHC.py). -/
import Derived.Test.YtgfhcmidnbahjaaGreatDoorJ20
import Derived.Test.YtgfhcmidnbahjaaGreatDoorJ13
import Derived.Test.YtgfhcmidnbahjaaGreatDoorJ16
set_option linter.unusedVariables false
set_option linter.unusedSimpArgs false
namespace Go.Proofs.YtgfhcmidnbahjaaGreatDoor
section
open Go.RowKit Go.Shelf
attribute [local go_sem] Oper.semAt_some run_store_func
structure MoI (w : World) (gn : Nat) (np : Option Addr) (n nc k o d : Nat) (v : Value) (W : World) : Prop where
 below : Below w.heap.size w W
 b0 : Blk W w.heap.size #[.pointer (some ⟨gn, 0, none⟩)] 102
 b1 : Blk W (w.heap.size + 1) #[.slice np n nc] 36
 b2 : Blk W (w.heap.size + 1 + 1) #[.int .i64 (k : Int)] 3
 b3 : Blk W (w.heap.size + 1 + 1 + 1) #[.int .i64 (o : Int)] 3
 b4 : Blk W (w.heap.size + 1 + 1 + 1 + 1) #[.int .i64 (d : Int)] 3
 gr : Blk W (w.heap.size + 1 + 1 + 1 + 1 + 1) #[v] 3
section
variable {w : World} {gn : Nat} {np : Option Addr} {n nc k o d : Nat} {v : Value} {W W' : World}
theorem MoI.next (h : MoI w gn np n nc k o d v W) (hb : Below W.heap.size W W') : MoI w gn np n nc k o d v W' := ⟨bseq h.below hb, h.b0.next hb, h.b1.next hb, h.b2.next hb, h.b3.next hb, h.b4.next hb, h.gr.next hb⟩
theorem MoI.own {row : Option Nat} {B : Nat} (h : MoI w gn np n nc k o d v W) (hB : w.heap.size ≤ B) (hg : W.grownBy W' row) (hr : ∀ r, row = some r → B ≤ r ∧ ∃ o : Obj, W.heap[r]? = some o ∧ o.isCells = false) : MoI w gn np n nc k o d v W' :=
 ⟨below_own h.below hB hg hr, h.b0.own hg hr, h.b1.own hg hr, h.b2.own hg hr, h.b3.own hg hr, h.b4.own hg hr, h.gr.own hg hr⟩
theorem MoI.set (h : MoI w gn np n nc k o d v W) (u : Value) : MoI w gn np n nc k o d u (W.setCell ⟨w.heap.size + 1 + 1 + 1 + 1 + 1, 0, none⟩ u) :=
 ⟨h.below.setCell (p := ⟨w.heap.size + 1 + 1 + 1 + 1 + 1, 0, none⟩) (show w.heap.size ≤ w.heap.size + 1 + 1 + 1 + 1 + 1 by omega) _, h.b0.far (p := ⟨w.heap.size + 1 + 1 + 1 + 1 + 1, 0, none⟩) (show w.heap.size ≠ w.heap.size + 1 + 1 + 1 + 1 + 1 by omega) _, h.b1.far (p := ⟨w.heap.size + 1 + 1 + 1 + 1 + 1, 0, none⟩) (show w.heap.size + 1 ≠ w.heap.size + 1 + 1 + 1 + 1 + 1 by omega) _,
  h.b2.far (p := ⟨w.heap.size + 1 + 1 + 1 + 1 + 1, 0, none⟩) (show w.heap.size + 1 + 1 ≠ w.heap.size + 1 + 1 + 1 + 1 + 1 by omega) _, h.b3.far (p := ⟨w.heap.size + 1 + 1 + 1 + 1 + 1, 0, none⟩) (show w.heap.size + 1 + 1 + 1 ≠ w.heap.size + 1 + 1 + 1 + 1 + 1 by omega) _, h.b4.far (p := ⟨w.heap.size + 1 + 1 + 1 + 1 + 1, 0, none⟩) (show w.heap.size + 1 + 1 + 1 + 1 ≠ w.heap.size + 1 + 1 + 1 + 1 + 1 by omega) _, h.gr.set 0 u⟩
def MoS (B gn : Nat) (np : Option Addr) (n nc k o d : Nat) (W : World) : Prop :=
 W.cell? ⟨B, 0, none⟩ = some (.pointer (some ⟨gn, 0, none⟩)) ∧ W.cell? ⟨B + 1, 0, none⟩ = some (.slice np n nc) ∧ W.cell? ⟨B + 1 + 1, 0, none⟩ = some (.int .i64 (k : Int)) ∧
 W.cell? ⟨B + 1 + 1 + 1, 0, none⟩ = some (.int .i64 (o : Int)) ∧ W.cell? ⟨B + 1 + 1 + 1 + 1, 0, none⟩ = some (.int .i64 (d : Int))
theorem MoI.cells (h : MoI w gn np n nc k o d v W) : MoS w.heap.size gn np n nc k o d W := ⟨h.b0.cell rfl, h.b1.cell rfl, h.b2.cell rfl, h.b3.cell rfl, h.b4.cell rfl⟩
end
theorem mostL_app (f : Int → Except Int Int) : ∀ (l1 l2 : List Int) (m : Int), mostL f (l1 ++ l2) m = (mostL f l1 m).bind fun m => mostL f l2 m
 | [], l2, m => rfl
 | c :: l1, l2, m => by
  rw [List.cons_append, mostL, mostL]
  cases f c with
  | error e => rfl
  | ok x => exact mostL_app f l1 l2 _
theorem cutsF_range {c : Cal} {cut till : Int} (hm : 0 ≤ cut ∧ cut ≤ 1439) : ∀ (f : Nat) (t : Int), ∀ x ∈ cutsF c cut till f t, t ≤ x ∧ x < till := by
 intro f
 induction f with
 | zero => intro t x hx; simp [cutsF] at hx
 | succ f ih =>
  intro t x hx
  rw [cutsF] at hx
  split at hx
  ·cases hx
  ·rename_i y hy
   have := firstF_some hm hy
   split at hx
   ·cases hx
   ·rcases List.mem_cons.1 hx with rfl | hx
    ·omega
    ·have := ih _ x hx; omega
theorem cutsOf_range {N : Net} (hs : Snd N) {k o : Nat} {fr till : Int} (hk : k < N.clss.length) (ho : o < N.offs.length) (h0 : 0 ≤ fr) (h1 : till ≤ 2000000) : ∀ x ∈ cutsOf N k o fr till, 0 ≤ x ∧ x ≤ 2000000 := fun x hx => by
 have := cutsF_range (hs.clsP (k := k) (by omega) (by omega)).cut _ _ x hx
 omega
set_option maxRecDepth 100000 in
set_option maxHeartbeats 1000000 in
theorem most_c (N : Net) (gn : Nat) (np : Option Addr) (nc : Nat) (nx : Nat → Nat → Int) (k o d : Nat) (fr till : Int) (w : World) (R) (hg : Blk w gn N.cells 29) (hN : NetAt w N) (hS : Snd N) (hM : MatAt w np N.offs.length nx) (hF : Formed N nx)
  (hk : k < N.clss.length) (ho : o < N.offs.length) (hd : d < N.offs.length) (h1 : 0 ≤ fr) (h2 : fr < till) (h3 : till ≤ 600)
  (hR : ∀ w', Below w.heap.size w w' → R (.returned (.int .i64 (mostF N nx k o d fr till))) w') :
  Calls Tryz.prog 175 #[.pointer (some ⟨gn, 0, none⟩), .slice np N.offs.length nc, .int .i64 (k : Int), .int .i64 (o : Int), .int .i64 (d : Int), .int .i64 fr, .int .i64 till] w R := by
 have HR := hide hR; have HSn := hide hS; have HF := hide hF; have HG := hide hg; have HN := hide hN; have HM := hide hM
 obtain ⟨w1, hw1⟩ : ∃ w1, (((((w.alloc (.cells #[.pointer (some ⟨gn, 0, none⟩)] 102)).alloc (.cells #[.slice np N.offs.length nc] 36)).alloc (.cells #[.int .i64 (k : Int)] 3)).alloc (.cells #[.int .i64 (o : Int)] 3)).alloc (.cells #[.int .i64 (d : Int)] 3)).alloc (.cells #[.int .i64 0] 3) = w1 := ⟨_, rfl⟩
 have hb1 : Below w.heap.size w w1 := hw1 ▸ balloc (balloc (balloc (balloc (balloc (balloc (Below.refl _ _) _) _) _) _) _) _
 have hI : MoI w gn np N.offs.length nc k o d (.int .i64 0) w1 := by
  refine ⟨hb1, ?_, ?_, ?_, ?_, ?_, ?_⟩ <;> rw [← hw1] <;> repeat (first | exact Blk.new_at (by simp) | refine Blk.alloc ?_ _)
 have HI0 := hide hI
 have hmf : ∀ (fn : Fn) (first cap : Array Value) (w : World), (Instr.makeFunc fn first cap).run Tryz.prog w = .ok (.func fn first cap) w := fun _ _ _ _ => rfl
 have e1 : IntKind.i64.wrap (1440 * fr) = 1440 * fr := IntWalk.i64_in _ (by omega)
 have e2 : IntKind.i64.wrap (1440 * till) = 1440 * till := IntWalk.i64_in _ (by omega)
 clear hR hS hF hg hN hM hb1 hI
 refine calls_of_wpAt Tryz.func175 rfl ?_
 simp only [Tryz.ntmps175, List.size_toArray, List.length_cons, List.length_nil, Nat.reduceAdd, Nat.reduceSub, Array.replicate_succ, Array.replicate_zero, List.push_toArray, List.append_toArray, List.nil_append, List.cons_append]
 refine wpAt_seq (wpAt_of_wp ?_)
 go_wp2
 refine wpAt_seq (wpAt_of_wp ?_)
 go_wp2
 have HI1 := hide (HI0.out.set (.int .i64 (-1)))
 have c5 := HI0.out.gr.cell (k := 0) rfl
 have f5 := HI0.out.gr.free 0
 clear hw1
 refine wpAt_seq (wpAt_of_wp ?_)
 go_wp2
 generalize (w1.setCell ⟨w.heap.size + 1 + 1 + 1 + 1 + 1, 0, none⟩ (.int .i64 (-1))) = w2 at *
 have x0 := HI1.out.b0.cell (k := 0) rfl; have x2 := HI1.out.b2.cell (k := 0) rfl; have x3 := HI1.out.b3.cell (k := 0) rfl
 clear c5 f5 HI0
 refine wpAt_seq (wpAt_seq (wpAt_of_wp ?_))
 go_wp2_with (go_at_call 212; refine Stop.out ?_)
 refine Stop.go (cutoffs_c N gn k o (1440 * fr) (1440 * till) w2 _ (HG.out.next HI1.out.below) (HN.out.next HI1.out.below) ?_)
 intro w3 hb hC hs3
 have HI3 := hide (HI1.out.next hb)
 have HC := hide hC
 have hg3 : w.heap.size + 1 + 1 + 1 + 1 + 1 < w2.heap.size := HI1.out.gr.lt
 clear hb hC x0 x2 x3
 go_wp2
 refine wpAt_block ?_
 have hxs : ∀ x ∈ cutsOf N k o (1440 * fr) (1440 * till), 0 ≤ x ∧ x ≤ 2000000 := cutsOf_range HSn.out hk ho (by omega) (by omega)
 have HX := hide hxs
 clear hxs
 refine rangeFunc_P Tryz.func175 rfl (enters_of Tryz.func274 (by kernel_rfl) rfl) (cutoffs_it N gn k o (1440 * fr) (1440 * till) w2.heap.size w3 HC.out HSn.out hk ho (by omega) (by omega) (by omega)) (fun _ j => j = w.heap.size + 1 + 1 + 1 + 1 + 1) ?hK (fun _ => rfl)
  (fun pre W => ∃ m : Int, mostL (needF N nx k o d) pre (-1) = some m ∧ MoI w gn np N.offs.length nc k o d (.int .i64 m) W)
  (fun _ _ => False)
  (fun ch W => (∃ e : Int, ch = [{ v := .iface 43 (.int .i64 e), recovered := false }]) ∧ mostF N nx k o d fr till = -1 ∧ ∃ v, MoI w gn np N.offs.length nc k o d v W) ?hI ?hIb ?hTx ⟨-1, rfl, HI3.out⟩ ?hround ?hdone ?hstop ?hpanic
 case hK =>
  intro j hj
  refine ⟨HC.out.lt hj, ?_⟩
  rcases hj with ⟨ha, hb⟩ | rfl | e
  ·exact fun e => absurd (show j = w.heap.size + 1 + 1 + 1 + 1 + 1 from e) (by omega)
  ·have := HG.out.lt
   exact fun e => absurd (show j = w.heap.size + 1 + 1 + 1 + 1 + 1 from e) (by omega)
  ·have := HN.out.lt e
   exact fun e => absurd (show j = w.heap.size + 1 + 1 + 1 + 1 + 1 from e) (by omega)
 case hI => exact fun s W W' row h hg hr => by obtain ⟨m, h1, h2⟩ := h; exact ⟨m, h1, h2.own HI3.out.below.size hg hr⟩
 case hIb =>
  intro s W W' row h hg hr j hj
  refine ⟨hj, ?_⟩
  obtain ⟨m, h1, h2⟩ := h
  have e1 := h2.gr.lt
  have e2 : j = w.heap.size + 1 + 1 + 1 + 1 + 1 := hj
  omega
 case hTx => exact fun cd s W W' row h hg hr => h.elim
 case hround =>
  intro l pre x post hxs W hI K' hK'
  obtain ⟨m, hm, hT⟩ := hI
  have HT := hide hT; have HK' := hide hK'; have Hm := hide hm
  have hx : x ∈ cutsOf N k o (1440 * fr) (1440 * till) := by rw [hxs]; simp
  have hxr := HX.out x hx
  have hmost : ∀ e, needF N nx k o d x = .error e → mostF N nx k o d fr till = -1 := fun e he => by
   unfold mostF; rw [hxs, mostL_app, hm, Option.bind_some, mostL, he]; rfl
  have Hmost := hide hmost
  clear hT hK' hxs hm hx hmost
  gi_wp2
  refine HK'.out _ _ (KeepsFrom.refl _ _) (Kpb.refl _ _) ⟨m, Hm.out, HT.out⟩ (fun W2 hB2 hI2 => ?_)
  obtain ⟨m', hm', hT2⟩ := hI2
  obtain rfl : m = m' := by rw [Hm.out] at hm'; injection hm'
  have HT2 := hide hT2
  clear hB2 hm' hT2 HT
  gi_wp2
  have hno : ∀ (a : Act) (w : World), ¬ (RP w3.heap.size (fun (pre : List Int) W => ∃ m : Int, mostL (needF N nx k o d) pre (-1) = some m ∧ MoI w gn np N.offs.length nc k o d (.int .i64 m) W) (fun _ _ => False) (fun ch W => (∃ e : Int, ch = [{ v := .iface 43 (.int .i64 e), recovered := false }]) ∧ mostF N nx k o d fr till = -1 ∧ ∃ v, MoI w gn np N.offs.length nc k o d v W) (fun _ j => j = w.heap.size + 1 + 1 + 1 + 1 + 1) pre x W2) .outgrown a w := fun _ _ h => h
  have g0 : W2.drew.cell? ⟨w.heap.size + 1 + 1 + 1 + 1 + 1, 0, none⟩ = some (.int .i64 m) := HT2.out.gr.cell (k := 0) rfl
  have hHeld : MoS w.heap.size gn np N.offs.length nc k o d W2.drew := HT2.out.cells
  clear hno
  cases hneed : needF N nx k o d x with
  | ok y =>
   have Hneed := hide hneed
   have Hmx : Hid (mostL (needF N nx k o d) (pre ++ [x]) (-1) = some (max m y)) := hide (by rw [mostL_app, Hm.out, Option.bind_some, mostL, hneed]; rfl)
   clear hneed
   refine rnd_held (S := MoS w.heap.size gn np N.offs.length nc k o d) (by kernel_rfl) (by kernel_rfl) (by intro _ _ h; first | exact h | cases h | (obtain ⟨h, _⟩ := h; cases h)) ?_
   refine wpAnyH_take (i := 1) (v := ?v1) rfl (by kernel_rfl) (by kernel_rfl) (by kernel_rfl) (fun _ _ _ h => h) (Or.inl ⟨by rfl, ?hy1⟩) hHeld ?rest1
   case hy1 => (intro w0 hSw; (try unfold MoS at hSw); go_simp; all_goals with_reducible rfl)
   try simp only [aP, Act.put]
   refine wpAnyH_take (i := 2) (v := ?v2) rfl (by kernel_rfl) (by kernel_rfl) (by kernel_rfl) (fun _ _ _ h => h) (Or.inl ⟨by rfl, ?hy2⟩) hHeld ?rest2
   case hy2 => (intro w0 hSw; (try unfold MoS at hSw); go_simp; all_goals with_reducible rfl)
   try simp only [aP, Act.put]
   refine wpAnyH_take (i := 3) (v := ?v3) rfl (by kernel_rfl) (by kernel_rfl) (by kernel_rfl) (fun _ _ _ h => h) (Or.inl ⟨by rfl, ?hy3⟩) hHeld ?rest3
   case hy3 => (intro w0 hSw; (try unfold MoS at hSw); go_simp; all_goals with_reducible rfl)
   try simp only [aP, Act.put]
   refine wpAnyH_take (i := 4) (v := ?v4) rfl (by kernel_rfl) (by kernel_rfl) (by kernel_rfl) (fun _ _ _ h => h) (Or.inl ⟨by rfl, ?hy4⟩) hHeld ?rest4
   case hy4 => (intro w0 hSw; (try unfold MoS at hSw); go_simp; all_goals with_reducible rfl)
   try simp only [aP, Act.put]
   refine wpAnyH_take (i := 5) (v := ?v5) rfl (by kernel_rfl) (by kernel_rfl) (by kernel_rfl) (fun _ _ _ h => h) (Or.inl ⟨by rfl, ?hy5⟩) hHeld ?rest5
   case hy5 => (intro w0 hSw; (try unfold MoS at hSw); go_simp; all_goals with_reducible rfl)
   try simp only [aP, Act.put]
   refine wpAnyH_take (i := 6) (v := ?v6) rfl (by kernel_rfl) (by kernel_rfl) (by kernel_rfl) (fun _ _ _ h => h) (Or.inl ⟨by rfl, ?hy6⟩) hHeld ?rest6
   case hy6 => (intro w0 hSw; (try unfold MoS at hSw); go_simp; all_goals with_reducible rfl)
   try simp only [aP, Act.put]
   refine wpAnyH_ready (rs := [0, 7]) (by kernel_rfl) (by simp) ?_
   refine AllReadyH.cons rfl (fun K hK => ?_) (AllReadyH.cons rfl (fun K hK => ?_) AllReadyH.nil)
   ·have gg := g0
    go_simp
    refine hK.out _ _ hHeld (fun hHeld' => ?_)
    clear gg
    clear hK K hHeld
    have hHeld := hHeld'
    clear hHeld'
    try simp only [aP, Act.put]
    refine wpAnyH_ready (rs := [7]) (by kernel_rfl) (by simp) ?_
    refine AllReadyH.cons rfl (fun K hK => ?_) AllReadyH.nil
    go_simp
    refine days_c N gn np nc nx k o d x _ _ (HG.out.next (bseq HT2.out.below (Below.refl _ _).drew)) (HN.out.next (bseq HT2.out.below (Below.refl _ _).drew)) HSn.out (HM.out.next (bseq HT2.out.below (Below.refl _ _).drew)) HF.out hk ho hd hxr.1 hxr.2 (fun y' W3 hy hb => ?_) (fun e' W3 hy hb => ?_)
    rotate_left
    ·rw [Hneed.out] at hy; cases hy
    obtain rfl : y = y' := by rw [Hneed.out] at hy; injection hy
    have HB3 : Hid (Below W2.heap.size W2 W3) := hide (bseq (Below.refl _ _).drew hb)
    have HT3 := hide (HT2.out.next HB3.out)
    have g1 := HT3.out.gr.cell (k := 0) rfl
    have f1 := HT3.out.gr.free 0
    refine hK.out _ _ HT3.out.cells (fun hHeld' => ?_)
    clear hb hy
    clear hK K hHeld
    have hHeld := hHeld'
    clear hHeld'
    try simp only [aP, Act.put]
    refine wpAnyH_ready (rs := [8]) (by kernel_rfl) (by simp) ?_
    refine AllReadyH.cons rfl (fun K hK => ?_) AllReadyH.nil
    go_simp
    refine hK.out _ _ hHeld (fun hHeld' => ?_)
    clear hK K hHeld
    have hHeld := hHeld'
    clear hHeld'
    try simp only [aP, Act.put]
    refine wpAnyH_ready (rs := [9]) (by kernel_rfl) (by simp) ?_
    refine AllReadyH.cons rfl (fun K hK => ?_) AllReadyH.nil
    go_simp
    refine hK.out _ _ (HT3.out.set (.int .i64 (max m y))).cells (fun hHeld' => ?_)
    clear hK K hHeld
    have hHeld := hHeld'
    clear hHeld'
    try simp only [aP, Act.put]
    refine wpAnyH_done (by kernel_rfl) ?_ _
    exact ⟨KeepsFrom.trans (kfrom_below HB3.out) (kfrom_set _ _ _), (kpb_below HB3.out (fun k h => h)).trans (kpb_set _ _ _ rfl (fun k h => h)), max m y, Hmx.out, HT3.out.set _⟩
   ·go_simp
    refine days_c N gn np nc nx k o d x _ _ (HG.out.next (bseq HT2.out.below (Below.refl _ _).drew)) (HN.out.next (bseq HT2.out.below (Below.refl _ _).drew)) HSn.out (HM.out.next (bseq HT2.out.below (Below.refl _ _).drew)) HF.out hk ho hd hxr.1 hxr.2 (fun y' W3 hy hb => ?_) (fun e' W3 hy hb => ?_)
    rotate_left
    ·rw [Hneed.out] at hy; cases hy
    obtain rfl : y = y' := by rw [Hneed.out] at hy; injection hy
    have HB3 : Hid (Below W2.heap.size W2 W3) := hide (bseq (Below.refl _ _).drew hb)
    have HT3 := hide (HT2.out.next HB3.out)
    have g1 := HT3.out.gr.cell (k := 0) rfl
    have f1 := HT3.out.gr.free 0
    refine hK.out _ _ HT3.out.cells (fun hHeld' => ?_)
    clear hb hy
    clear hK K hHeld
    have hHeld := hHeld'
    clear hHeld'
    try simp only [aP, Act.put]
    refine wpAnyH_ready (rs := [0]) (by kernel_rfl) (by simp) ?_
    refine AllReadyH.cons rfl (fun K hK => ?_) AllReadyH.nil
    have gg := g1
    go_simp
    refine hK.out _ _ hHeld (fun hHeld' => ?_)
    clear gg
    clear hK K hHeld
    have hHeld := hHeld'
    clear hHeld'
    try simp only [aP, Act.put]
    refine wpAnyH_ready (rs := [8]) (by kernel_rfl) (by simp) ?_
    refine AllReadyH.cons rfl (fun K hK => ?_) AllReadyH.nil
    go_simp
    refine hK.out _ _ hHeld (fun hHeld' => ?_)
    clear hK K hHeld
    have hHeld := hHeld'
    clear hHeld'
    try simp only [aP, Act.put]
    refine wpAnyH_ready (rs := [9]) (by kernel_rfl) (by simp) ?_
    refine AllReadyH.cons rfl (fun K hK => ?_) AllReadyH.nil
    go_simp
    refine hK.out _ _ (HT3.out.set (.int .i64 (max m y))).cells (fun hHeld' => ?_)
    clear hK K hHeld
    have hHeld := hHeld'
    clear hHeld'
    try simp only [aP, Act.put]
    refine wpAnyH_done (by kernel_rfl) ?_ _
    exact ⟨KeepsFrom.trans (kfrom_below HB3.out) (kfrom_set _ _ _), (kpb_below HB3.out (fun k h => h)).trans (kpb_set _ _ _ rfl (fun k h => h)), max m y, Hmx.out, HT3.out.set _⟩
  | error e =>
   have Hneed := hide hneed
   clear hneed
   refine rnd_held (S := MoS w.heap.size gn np N.offs.length nc k o d) (by kernel_rfl) (by kernel_rfl) (by intro _ _ h; first | exact h | cases h | (obtain ⟨h, _⟩ := h; cases h)) ?_
   refine wpAnyH_take (i := 1) (v := ?ve1) rfl (by kernel_rfl) (by kernel_rfl) (by kernel_rfl) (fun _ _ _ h => h) (Or.inl ⟨by rfl, ?hye1⟩) hHeld ?reste1
   case hye1 => (intro w0 hSw; (try unfold MoS at hSw); go_simp; all_goals with_reducible rfl)
   try simp only [aP, Act.put]
   refine wpAnyH_take (i := 2) (v := ?ve2) rfl (by kernel_rfl) (by kernel_rfl) (by kernel_rfl) (fun _ _ _ h => h) (Or.inl ⟨by rfl, ?hye2⟩) hHeld ?reste2
   case hye2 => (intro w0 hSw; (try unfold MoS at hSw); go_simp; all_goals with_reducible rfl)
   try simp only [aP, Act.put]
   refine wpAnyH_take (i := 3) (v := ?ve3) rfl (by kernel_rfl) (by kernel_rfl) (by kernel_rfl) (fun _ _ _ h => h) (Or.inl ⟨by rfl, ?hye3⟩) hHeld ?reste3
   case hye3 => (intro w0 hSw; (try unfold MoS at hSw); go_simp; all_goals with_reducible rfl)
   try simp only [aP, Act.put]
   refine wpAnyH_take (i := 4) (v := ?ve4) rfl (by kernel_rfl) (by kernel_rfl) (by kernel_rfl) (fun _ _ _ h => h) (Or.inl ⟨by rfl, ?hye4⟩) hHeld ?reste4
   case hye4 => (intro w0 hSw; (try unfold MoS at hSw); go_simp; all_goals with_reducible rfl)
   try simp only [aP, Act.put]
   refine wpAnyH_take (i := 5) (v := ?ve5) rfl (by kernel_rfl) (by kernel_rfl) (by kernel_rfl) (fun _ _ _ h => h) (Or.inl ⟨by rfl, ?hye5⟩) hHeld ?reste5
   case hye5 => (intro w0 hSw; (try unfold MoS at hSw); go_simp; all_goals with_reducible rfl)
   try simp only [aP, Act.put]
   refine wpAnyH_take (i := 6) (v := ?ve6) rfl (by kernel_rfl) (by kernel_rfl) (by kernel_rfl) (fun _ _ _ h => h) (Or.inl ⟨by rfl, ?hye6⟩) hHeld ?reste6
   case hye6 => (intro w0 hSw; (try unfold MoS at hSw); go_simp; all_goals with_reducible rfl)
   try simp only [aP, Act.put]
   refine wpAnyH_ready (rs := [0, 7]) (by kernel_rfl) (by simp) ?_
   refine AllReadyH.cons rfl (fun K hK => ?_) (AllReadyH.cons rfl (fun K hK => ?_) AllReadyH.nil)
   ·have gg := g0
    go_simp
    refine hK.out _ _ hHeld (fun hHeld' => ?_)
    clear gg
    clear hK K hHeld
    have hHeld := hHeld'
    clear hHeld'
    try simp only [aP, Act.put]
    refine wpAnyH_ready (rs := [7]) (by kernel_rfl) (by simp) ?_
    refine AllReadyH.cons rfl (fun K hK => ?_) AllReadyH.nil
    go_simp
    refine days_c N gn np nc nx k o d x _ _ (HG.out.next (bseq HT2.out.below (Below.refl _ _).drew)) (HN.out.next (bseq HT2.out.below (Below.refl _ _).drew)) HSn.out (HM.out.next (bseq HT2.out.below (Below.refl _ _).drew)) HF.out hk ho hd hxr.1 hxr.2 (fun y' W3 hy hb => ?_) (fun e' W3 hy hb => ?_)
    ·rw [Hneed.out] at hy; cases hy
    obtain rfl : e = e' := by rw [Hneed.out] at hy; injection hy
    exact ⟨rfl, kfrom_below (bseq (Below.refl _ _).drew hb), ⟨e, rfl⟩, Hmost.out e Hneed.out, _, HT2.out.next (bseq (Below.refl _ _).drew hb)⟩
   ·go_simp
    refine days_c N gn np nc nx k o d x _ _ (HG.out.next (bseq HT2.out.below (Below.refl _ _).drew)) (HN.out.next (bseq HT2.out.below (Below.refl _ _).drew)) HSn.out (HM.out.next (bseq HT2.out.below (Below.refl _ _).drew)) HF.out hk ho hd hxr.1 hxr.2 (fun y' W3 hy hb => ?_) (fun e' W3 hy hb => ?_)
    ·rw [Hneed.out] at hy; cases hy
    obtain rfl : e = e' := by rw [Hneed.out] at hy; injection hy
    exact ⟨rfl, kfrom_below (bseq (Below.refl _ _).drew hb), ⟨e, rfl⟩, Hmost.out e Hneed.out, _, HT2.out.next (bseq (Below.refl _ _).drew hb)⟩
 case hdone =>
  rintro D W hD ⟨m, hm, hT⟩ hd
  have HT := hide hT; have Hd := hide hd
  have hmost : mostF N nx k o d fr till = m := by unfold mostF; rw [hm]; rfl
  have HRm := hide HR.out
  rw [hmost] at HRm
  clear hm hT hd hmost
  refine wpAt_of_wp ?_
  have c5 := HT.out.gr.cell (k := 0) rfl
  have f5 := HT.out.gr.free 0
  have HT2 := hide (HT.out.set (.int .i64 m))
  have hDn : D ≠ w.heap.size + 1 + 1 + 1 + 1 + 1 := by have := HI1.out.gr.lt; have := HI3.out.below.size; omega
  have hd2 : (W.setCell ⟨w.heap.size + 1 + 1 + 1 + 1 + 1, 0, none⟩ (.int .i64 m)).heap[D]? = some (.deferred (some [])) := by
   rw [Below.heap_setCell _ _ _ _ hDn]; exact Hd.out
  have Hd2 := hide hd2
  clear hDn hd2
  go_wp2
  refine ⟨by simp, .inl ⟨_, _, rfl, run_takeDeferred Hd2.out, ?_⟩⟩
  have hg := grownBy_putObj' (W.setCell ⟨w.heap.size + 1 + 1 + 1 + 1 + 1, 0, none⟩ (.int .i64 m)) D (.deferred none)
  have hI2 := HT2.out.own (B := w3.heap.size) HI3.out.below.size hg (fun r e => by cases e; exact ⟨hD, _, Hd2.out, rfl⟩)
  refine ⟨by simp, .inr ⟨(fun h => by simp [Fence.wide] at h), _, _, 211, #[.pointer (some ⟨w.heap.size + 1 + 1 + 1 + 1 + 1, 0, none⟩)], rfl, (by simp [invoke, go_sem]), (fun _ _ => trivial), (most_calm _ _ _).mono ?_⟩⟩
  rintro e u' w' ⟨rfl, rfl, rfl⟩
  have z := hI2.gr.cell (k := 0) (v := .int .i64 m) rfl
  refine ⟨.int .i64 m, ?_, HRm.out _ hI2.below⟩
  clear hg hI2
  simp [results, Tryz.results175, go_sem, z]
 case hstop => exact fun D c W hD h hd => h.elim
 case hpanic =>
  rintro D ch W hD ⟨⟨e, rfl⟩, hm, v, hT⟩ hd
  have HRm := hide HR.out
  rw [hm] at HRm
  refine ⟨by simp, .inl ⟨_, _, rfl, run_takeDeferred hd, ?_⟩⟩
  have hg := grownBy_putObj' W D (.deferred none)
  have hI2 := hT.own (B := w3.heap.size) HI3.out.below.size hg (fun r e => by cases e; exact ⟨hD, _, hd, rfl⟩)
  refine ⟨by simp, .inr ⟨(fun h => by simp [Fence.wide] at h), _, _, 211, #[.pointer (some ⟨w.heap.size + 1 + 1 + 1 + 1 + 1, 0, none⟩)], rfl, (by simp [invoke, go_sem]), (fun _ _ => trivial), (most_catch _ _ v _ _ _ _ (hI2.gr.cell (k := 0) rfl) (hI2.gr.free 0)).mono ?_⟩⟩
  rintro e u' w' ⟨rfl, rfl, rfl⟩
  have hI3 := hI2.set (.int .i64 (-1))
  have z := hI3.gr.cell (k := 0) (v := .int .i64 (-1)) rfl
  refine ⟨.int .i64 (-1), ?_, HRm.out _ hI3.below⟩
  clear hg hI2 hI3
  simp [results, Tryz.results175, go_sem, z]
end
section
open Go.RowKit Go.Shelf
theorem und_cube : Tryz.prog.underlying 37 = some (.slice 36) := by kernel_rfl
theorem infoC2 : (Tryz.prog.info? 36).map (fun i => (i.zero, i.size, i.bytes)) = some (some (.slice none 0 0), 1, 24) := by kernel_rfl
theorem mkCube (w : World) (n : Nat) (hn : n ≤ 100000) : ∃ cs : Array Value, cs.size = n ∧ Sem.run Tryz.prog (Instr.makeSlice 37 (.int .i64 (n : Int)) (.int .i64 (n : Int))) w = .ok (.slice (some ⟨w.heap.size, 0, none⟩) n n) (w.alloc (.cells cs 36)) := by
 obtain ⟨i, hi, h⟩ := Option.map_eq_some_iff.1 infoC2
 simp only [Prod.mk.injEq] at h
 obtain ⟨hz, hs, hb⟩ := h
 exact ⟨_, by rw [size_madeCells, hs]; simp, run_make w 37 36 i _ und_cube hi hz .i64 .i64 n n (by omega) (by omega) (by rw [hb]; omega) (by omega)⟩
structure RgI (w : World) (t : TypeId) (n : Nat) (P : Nat → Value → World → Prop) (i : Nat) (W : World) : Prop where
 below : Below w.heap.size w W
 row : ∃ cs, Blk W w.heap.size cs t ∧ cs.size = n ∧ ∀ j, j < i → ∃ v, cs[j]? = some v ∧ P j v W
def StableP (B : Nat) (P : Nat → Value → World → Prop) : Prop := (∀ i v W W', P i v W → Below W.heap.size W W' → P i v W') ∧ ∀ i v W j u, P i v W → P i v (W.setCell ⟨B, j, none⟩ u)
section
variable {w : World} {t : TypeId} {n i : Nat} {P : Nat → Value → World → Prop} {W W' : World}
theorem RgI.next (h : RgI w t n P i W) (hP : StableP w.heap.size P) (hb : Below W.heap.size W W') : RgI w t n P i W' := by
 obtain ⟨cs, h1, h2, h3⟩ := h.row
 exact ⟨bseq h.below hb, cs, h1.next hb, h2, fun j hj => by obtain ⟨v, hv, hp⟩ := h3 j hj; exact ⟨v, hv, hP.1 _ _ _ _ hp hb⟩⟩
theorem RgI.zero (w : World) (t : TypeId) (n : Nat) (P : Nat → Value → World → Prop) {cs : Array Value} (hc : cs.size = n) : RgI w t n P 0 (w.alloc (.cells cs t)) := ⟨balloc (Below.refl _ _) _, cs, Blk.new _ _ _, hc, fun j hj => by omega⟩
theorem RgI.here (h : RgI w t n P i W) (hi : i < n) : (∃ v, W.cell? ⟨w.heap.size, i, none⟩ = some v) ∧ W.frozen? ⟨w.heap.size, i, none⟩ = false := by
 obtain ⟨cs, h1, h2, h3⟩ := h.row
 exact ⟨⟨_, h1.cell (Array.getElem?_eq_getElem (by omega))⟩, h1.free i⟩
theorem RgI.put (h : RgI w t n P i W) (hP : StableP w.heap.size P) (hi : i < n) {v : Value} (hv : P i v W) : RgI w t n P (i + 1) (W.setCell ⟨w.heap.size, i, none⟩ v) := by
 obtain ⟨cs, h1, h2, h3⟩ := h.row
 refine ⟨h.below.setCell (p := ⟨w.heap.size, i, none⟩) (Nat.le_refl _) _, cs.setIfInBounds i v, h1.set i v, by simpa using h2, fun j hj => ?_⟩
 rw [Array.getElem?_setIfInBounds]
 by_cases e : i = j
 ·subst e; rw [if_pos rfl, if_pos (by omega)]; exact ⟨v, rfl, hP.2 _ _ _ _ _ hv⟩
 ·rw [if_neg e]
  obtain ⟨u, hu, hp⟩ := h3 j (by omega)
  exact ⟨u, hu, hP.2 _ _ _ _ _ hp⟩
end
set_option maxRecDepth 100000 in
set_option maxHeartbeats 1000000 in
theorem rowsI_c (n : Nat) (f : FuncId) (lb : Array Value) (P : Nat → Value → World → Prop) (w : World) (R) (hn : n ≤ 40) (hP : StableP w.heap.size P) (eg : ∀ args w, (callFunc f args).run Tryz.prog w = .ok (.enter f args) w)
  (ht : ∀ i W, i < n → Below w.heap.size w W → w.heap.size < W.heap.size → ∀ R, (∀ W' (x : Int), Below W.heap.size W W' → P i (.int .i64 x) W' → R (.returned (.int .i64 x)) W') → Calls Tryz.prog f (#[.int .i64 (i : Int)] ++ lb) W R)
  (hR : ∀ w' cs, Below w.heap.size w w' → Blk w' w.heap.size cs 3 → cs.size = n → (∀ j, j < n → ∃ v, cs[j]? = some v ∧ P j v w') → R (.returned (.slice (some ⟨w.heap.size, 0, none⟩) n n)) w') :
  Calls Tryz.prog 173 #[.int .i64 (n : Int), .func (.func f) #[] lb] w R := by
 have HR := hide hR; have HT := hide ht; have HP := hide hP
 clear hR ht hP
 obtain ⟨os, hos, hmk⟩ := mkInts w n (by omega)
 have H0 := hide (RgI.zero w 3 n P hos)
 clear hos
 go_enter Tryz.func173, Tryz.ntmps173
 go_wp2
 clear hmk
 go_loopw [11] (fun si wr => ∃ k : Nat, k ≤ n ∧ si = .int .i64 k ∧ Hid (RgI w 3 n P k wr)) (fun si _ => n - (intOf si).toNat)
 case atStart => exact ⟨0, Nat.zero_le _, rfl, H0⟩
 case round =>
  clear H0
  obtain ⟨k, hk, rfl, HD⟩ := hrel
  by_cases hlt : k < n
  ·have q1 : (0 : Int) ≤ (k : Int) := by omega
   have q2 : (k : Int) < (n : Int) := by omega
   have HK := hide (HT.out k wr hlt HD.out.below (by obtain ⟨cs, h1, _⟩ := HD.out.row; exact h1.lt))
   go_wp2
   refine HK.out _ (fun W' x hb hv => ?_)
   have HD2 := hide (HD.out.next HP.out hb)
   obtain ⟨⟨v0, c0⟩, f0⟩ := HD2.out.here hlt
   have HD3 := hide (HD2.out.put HP.out hlt hv)
   clear hb hv HD HD2 HK
   go_wp2
   go_roundw
   case rel => exact ⟨k + 1, by omega, by go_num, HD3⟩
   case measure => simp [intOf]; omega
  ·have q1 : ¬ (k : Int) < (n : Int) := by omega
   obtain rfl : k = n := by omega
   obtain ⟨cs, h1, h2, h3⟩ := HD.out.row
   have HF := hide (HR.out _ cs HD.out.below h1 h2 h3)
   clear HD h1 h2 h3
   go_wp2
   exact HF.out
set_option maxRecDepth 100000 in
set_option maxHeartbeats 1000000 in
theorem rowsR_c (n : Nat) (f : FuncId) (lb : Array Value) (P : Nat → Value → World → Prop) (w : World) (R) (hn : n ≤ 40) (hP : StableP w.heap.size P) (eg : ∀ args w, (callFunc f args).run Tryz.prog w = .ok (.enter f args) w)
  (ht : ∀ i W, i < n → Below w.heap.size w W → w.heap.size < W.heap.size → ∀ R, (∀ W' (g m : Nat), Below W.heap.size W W' → P i (.slice (some ⟨g, 0, none⟩) m m) W' → R (.returned (.slice (some ⟨g, 0, none⟩) m m)) W') → Calls Tryz.prog f (#[.int .i64 (i : Int)] ++ lb) W R)
  (hR : ∀ w' cs, Below w.heap.size w w' → Blk w' w.heap.size cs 40 → cs.size = n → (∀ j, j < n → ∃ v, cs[j]? = some v ∧ P j v w') → R (.returned (.slice (some ⟨w.heap.size, 0, none⟩) n n)) w') :
  Calls Tryz.prog 171 #[.int .i64 (n : Int), .func (.func f) #[] lb] w R := by
 have HR := hide hR; have HT := hide ht; have HP := hide hP
 clear hR ht hP
 obtain ⟨os, hos, hmk⟩ := mkRows w n (by omega)
 have H0 := hide (RgI.zero w 40 n P hos)
 clear hos
 go_enter Tryz.func171, Tryz.ntmps171
 go_wp2
 clear hmk
 go_loopw [11] (fun si wr => ∃ k : Nat, k ≤ n ∧ si = .int .i64 k ∧ Hid (RgI w 40 n P k wr)) (fun si _ => n - (intOf si).toNat)
 case atStart => exact ⟨0, Nat.zero_le _, rfl, H0⟩
 case round =>
  clear H0
  obtain ⟨k, hk, rfl, HD⟩ := hrel
  by_cases hlt : k < n
  ·have q1 : (0 : Int) ≤ (k : Int) := by omega
   have q2 : (k : Int) < (n : Int) := by omega
   have HK := hide (HT.out k wr hlt HD.out.below (by obtain ⟨cs, h1, _⟩ := HD.out.row; exact h1.lt))
   go_wp2
   refine HK.out _ (fun W' g m hb hv => ?_)
   have HD2 := hide (HD.out.next HP.out hb)
   obtain ⟨⟨v0, c0⟩, f0⟩ := HD2.out.here hlt
   have HD3 := hide (HD2.out.put HP.out hlt hv)
   clear hb hv HD HD2 HK
   go_wp2
   go_roundw
   case rel => exact ⟨k + 1, by omega, by go_num, HD3⟩
   case measure => simp [intOf]; omega
  ·have q1 : ¬ (k : Int) < (n : Int) := by omega
   obtain rfl : k = n := by omega
   obtain ⟨cs, h1, h2, h3⟩ := HD.out.row
   have HF := hide (HR.out _ cs HD.out.below h1 h2 h3)
   clear HD h1 h2 h3
   go_wp2
   exact HF.out
set_option maxRecDepth 100000 in
set_option maxHeartbeats 1000000 in
theorem rowsM_c (n : Nat) (f : FuncId) (lb : Array Value) (P : Nat → Value → World → Prop) (w : World) (R) (hn : n ≤ 40) (hP : StableP w.heap.size P) (eg : ∀ args w, (callFunc f args).run Tryz.prog w = .ok (.enter f args) w)
  (ht : ∀ i W, i < n → Below w.heap.size w W → w.heap.size < W.heap.size → ∀ R, (∀ W' (g m : Nat), Below W.heap.size W W' → P i (.slice (some ⟨g, 0, none⟩) m m) W' → R (.returned (.slice (some ⟨g, 0, none⟩) m m)) W') → Calls Tryz.prog f (#[.int .i64 (i : Int)] ++ lb) W R)
  (hR : ∀ w' cs, Below w.heap.size w w' → Blk w' w.heap.size cs 36 → cs.size = n → (∀ j, j < n → ∃ v, cs[j]? = some v ∧ P j v w') → R (.returned (.slice (some ⟨w.heap.size, 0, none⟩) n n)) w') :
  Calls Tryz.prog 169 #[.int .i64 (n : Int), .func (.func f) #[] lb] w R := by
 have HR := hide hR; have HT := hide ht; have HP := hide hP
 clear hR ht hP
 obtain ⟨os, hos, hmk⟩ := mkCube w n (by omega)
 have H0 := hide (RgI.zero w 36 n P hos)
 clear hos
 go_enter Tryz.func169, Tryz.ntmps169
 go_wp2
 clear hmk
 go_loopw [11] (fun si wr => ∃ k : Nat, k ≤ n ∧ si = .int .i64 k ∧ Hid (RgI w 36 n P k wr)) (fun si _ => n - (intOf si).toNat)
 case atStart => exact ⟨0, Nat.zero_le _, rfl, H0⟩
 case round =>
  clear H0
  obtain ⟨k, hk, rfl, HD⟩ := hrel
  by_cases hlt : k < n
  ·have q1 : (0 : Int) ≤ (k : Int) := by omega
   have q2 : (k : Int) < (n : Int) := by omega
   have HK := hide (HT.out k wr hlt HD.out.below (by obtain ⟨cs, h1, _⟩ := HD.out.row; exact h1.lt))
   go_wp2
   refine HK.out _ (fun W' g m hb hv => ?_)
   have HD2 := hide (HD.out.next HP.out hb)
   obtain ⟨⟨v0, c0⟩, f0⟩ := HD2.out.here hlt
   have HD3 := hide (HD2.out.put HP.out hlt hv)
   clear hb hv HD HD2 HK
   go_wp2
   go_roundw
   case rel => exact ⟨k + 1, by omega, by go_num, HD3⟩
   case measure => simp [intOf]; omega
  ·have q1 : ¬ (k : Int) < (n : Int) := by omega
   obtain rfl : k = n := by omega
   obtain ⟨cs, h1, h2, h3⟩ := HD.out.row
   have HF := hide (HR.out _ cs HD.out.below h1 h2 h3)
   clear HD h1 h2 h3
   go_wp2
   exact HF.out
end
end Go.Proofs.YtgfhcmidnbahjaaGreatDoor
