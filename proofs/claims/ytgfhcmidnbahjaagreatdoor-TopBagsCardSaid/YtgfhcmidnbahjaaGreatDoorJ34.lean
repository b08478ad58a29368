/- Transition: the offices that are passed, as an iterator (printed by genTH.py out of TH.tpl). -/
import Derived.Test.YtgfhcmidnbahjaaGreatDoorJ33
set_option linter.unusedVariables false
set_option linter.unusedSimpArgs false
namespace Go.Proofs.YtgfhcmidnbahjaaGreatDoor
open Go.RowKit Go.Shelf
attribute [local go_sem] Oper.semAt_some run_store_func
def passF (N : Net) (nx : Mat) (d : Nat) : Nat → Nat → List Nat
 | 0, x => [x]
 | k + 1, x => x :: (if x = d ∨ nx x d = -1 then [] else passF N nx d k (linOf N (nx x d)).dst.toNat)
theorem passF_end {N : Net} {nx : Mat} {d k x : Nat} (h : x = d ∨ nx x d = -1) : passF N nx d (k + 1) x = [x] := by rw [passF, if_pos h]
theorem passF_more {N : Net} {nx : Mat} {d k x : Nat} (h : x ≠ d) (h2 : nx x d ≠ -1) : passF N nx d (k + 1) x = x :: passF N nx d k (linOf N (nx x d)).dst.toNat := by
 rw [passF, if_neg (fun e => by rcases e with e | e; exact h e; exact h2 e)]
theorem passF_lt {N : Net} {nx : Mat} (hs : Snd N) (hF : Formed N nx) {d : Nat} (hd : d < N.offs.length) : ∀ (k x : Nat), x < N.offs.length → ∀ y ∈ passF N nx d k x, y < N.offs.length := by
 intro k
 induction k with
 | zero => intro x hx y hy; rw [passF, List.mem_singleton] at hy; subst hy; exact hx
 | succ k ih =>
  intro x hx y hy
  by_cases h : x = d ∨ nx x d = -1
  ·rw [passF_end h, List.mem_singleton] at hy; subst hy; exact hx
  ·have h1 : x ≠ d := fun e => h (.inl e)
   have h2 : nx x d ≠ -1 := fun e => h (.inr e)
   rw [passF_more h1 h2] at hy
   rcases List.mem_cons.1 hy with rfl | hy
   ·exact hx
   ·rcases hF x d hx hd with hn | ⟨hn0, hn1, hsrc⟩
    ·exact absurd hn h2
    ·have hds := (hs.linP hn0 hn1).dst
     exact ih _ (by omega) y hy
structure PaB (w0 : World) (N : Net) (P : Pln) (nx : Mat) (gn gp : Nat) : Prop where
 bn : Blk w0 gn N.cells 29
 bp : Blk w0 gp P.cells.toArray 39
 net : NetAt w0 N
 snd : Snd N
 mat : MatAt w0 P.np N.offs.length nx
 formed : Formed N nx
 nn : P.nn = N.offs.length
theorem PaB.next {w0 W : World} {N : Net} {P : Pln} {nx : Mat} {gn gp : Nat} (h : PaB w0 N P nx gn gp) (hb : Below w0.heap.size w0 W) : PaB W N P nx gn gp := ⟨h.bn.next hb, h.bp.next hb, h.net.next hb, h.snd, h.mat.next hb, h.formed, h.nn⟩
def Same (w0 W : World) : Prop := ∀ k, k < w0.heap.size → W.heap[k]? = w0.heap[k]?
theorem Same.keeps {w0 W : World} (h : Same w0 W) : Keeps w0 W := fun a v hv => (World.cell?_of_block (h a.block (block_lt hv))).trans hv
theorem PaB.same {w0 W : World} {N : Net} {P : Pln} {nx : Mat} {gn gp : Nat} (h : PaB w0 N P nx gn gp) (hs : Same w0 W) : PaB W N P nx gn gp :=
 ⟨h.bn.same (hs gn h.bn.lt), h.bp.same (hs gp h.bp.lt), h.net.keep hs.keeps, h.snd, h.mat.keep hs.keeps, h.formed, h.nn⟩
structure PaI (w0 : World) (gn gp o d g : Nat) (W : World) : Prop where
 old : Same w0 W
 b0 : Blk W g #[.pointer (some ⟨gn, 0, none⟩)] 102
 b1 : Blk W (g + 1) #[.pointer (some ⟨gp, 0, none⟩)] 104
 b2 : Blk W (g + 2) #[.int .i64 (o : Int)] 3
 b3 : Blk W (g + 3) #[.int .i64 (d : Int)] 3
def PaK (w0 : World) (g k : Nat) : Prop := k < w0.heap.size ∨ (g ≤ k ∧ k ≤ g + 3)
section
variable {w0 : World} {gn gp o d g : Nat} {W W' : World}
theorem PaI.next (h : PaI w0 gn gp o d g W) (hg : w0.heap.size ≤ g) (hb : Below W.heap.size W W') : PaI w0 gn gp o d g W' :=
 ⟨fun k hk => (hb.block k (by have := h.b0.lt; omega)).trans (h.old k hk), h.b0.next hb, h.b1.next hb, h.b2.next hb, h.b3.next hb⟩
theorem PaI.kpb {bad : World → Nat → Prop} (h : PaI w0 gn gp o d g W) (hg : w0.heap.size ≤ g) (hk : Kpb bad W W') (hb : ∀ j, PaK w0 g j → ¬ bad W j) : PaI w0 gn gp o d g W' :=
 ⟨fun k hk' => (hk.2 k (by have := h.b0.lt; omega) (hb k (.inl hk'))).1.trans (h.old k hk'), h.b0.kpb hk (hb _ (.inr ⟨by omega, by omega⟩)), h.b1.kpb hk (hb _ (.inr ⟨by omega, by omega⟩)), h.b2.kpb hk (hb _ (.inr ⟨by omega, by omega⟩)), h.b3.kpb hk (hb _ (.inr ⟨by omega, by omega⟩))⟩
theorem PaI.lt (h : PaI w0 gn gp o d g W) (hg : w0.heap.size ≤ g) {j : Nat} (hj : PaK w0 g j) : j < W.heap.size := by
 have := h.b3.lt
 rcases hj with hj | hj <;> omega
end
set_option maxRecDepth 100000 in
theorem passed_c (w0 : World) (gn gp o d : Nat) (w : World) (R) (hsame : Same w0 w) (hsz : w0.heap.size ≤ w.heap.size)
  (hR : ∀ w', Below w.heap.size w w' → PaI w0 gn gp o d w.heap.size w' → w'.heap.size = w.heap.size + 4 →
   R (.returned (.func (.func 185) #[] #[.pointer (some ⟨w.heap.size + 2, 0, none⟩), .pointer (some ⟨w.heap.size + 3, 0, none⟩), .pointer (some ⟨w.heap.size + 1, 0, none⟩), .pointer (some ⟨w.heap.size, 0, none⟩)])) w') :
  Calls Tryz.prog 119 #[.pointer (some ⟨gn, 0, none⟩), .pointer (some ⟨gp, 0, none⟩), .int .i64 (o : Int), .int .i64 (d : Int)] w R := by
 obtain ⟨w1, hw1⟩ : ∃ w1, (((w.alloc (.cells #[.pointer (some ⟨gn, 0, none⟩)] 102)).alloc (.cells #[.pointer (some ⟨gp, 0, none⟩)] 104)).alloc (.cells #[.int .i64 (o : Int)] 3)).alloc (.cells #[.int .i64 (d : Int)] 3) = w1 := ⟨_, rfl⟩
 have hb1 : Below w.heap.size w w1 := hw1 ▸ balloc (balloc (balloc (balloc (Below.refl _ _) _) _) _) _
 have hI : PaI w0 gn gp o d w.heap.size w1 := by
  refine ⟨fun k hk => (hb1.block k (by omega)).trans (hsame k hk), ?_, ?_, ?_, ?_⟩ <;> rw [← hw1] <;> repeat (first | exact Blk.new_at (by simp) | refine Blk.alloc ?_ _)
 have HF := hide (hR w1 hb1 hI (by rw [← hw1]; simp))
 have hmf : ∀ (fn : Fn) (first cap : Array Value) (w : World), (Instr.makeFunc fn first cap).run Tryz.prog w = .ok (.func fn first cap) w := fun _ _ _ _ => rfl
 clear hR hb1 hI
 go_enter Tryz.func119, Tryz.ntmps119
 go_wp2
 exact HF.out
theorem bdrewN (W : World) (n : Nat) : Below W.heap.size W (W.drewN n) := below_drewN' (Below.refl _ _) n
set_option maxRecDepth 100000 in
set_option maxHeartbeats 1000000 in
theorem passed_it (w0 : World) (N : Net) (P : Pln) (nx : Mat) (gn gp o d g : Nat) (w : World) (hB : PaB w0 N P nx gn gp) (hI : PaI w0 gn gp o d g w) (hg : w0.heap.size ≤ g) (ho : o < N.offs.length) (hd : d < N.offs.length) :
  IterAt Tryz.prog 185 #[.pointer (some ⟨g + 2, 0, none⟩), .pointer (some ⟨g + 3, 0, none⟩), .pointer (some ⟨g + 1, 0, none⟩), .pointer (some ⟨g, 0, none⟩)] (fun x : Nat => #[.int .i64 (x : Int)]) (passF N nx d 19 o) (PaK w0 g) w := by
 intro l J T Pn bad W hbW hJs hK hY h0
 have HJs := hide hJs; have HY := hide hY; have HJ0 := hide h0; have HK := hide hK
 have HI := hide (hI.next hg hbW)
 have HB := hide hB
 have Hg := hide hg
 have x2 := HI.out.b2.cell (k := 0) (v := .int .i64 (o : Int)) rfl
 clear hJs hY h0 hK hI hbW hB hg
 refine (callsIn_wide (n := 8)).1 ?_
 refine callsIn_of_wp Tryz.func185 rfl trivial ?_ rfl
 simp only [Tryz.ntmps185, List.size_toArray, List.length_cons, List.length_nil, Nat.reduceAdd, Nat.reduceSub, Array.replicate_succ, Array.replicate_zero, List.push_toArray, List.append_toArray, List.nil_append, List.cons_append]
 refine wpIn_wide.2 ?_
 go_wp2
 refine (wpIn_wide (n := 8)).1 ?_
 clear x2
 gi_loopw [6, 8] (fun xv sv wq => ∃ (k x : Nat) (pre : List Nat) (s : Int), k ≤ 19 ∧ xv = .int .i64 (x : Int) ∧ sv = .int .i64 s ∧ s = 19 - (k : Int) ∧ x < N.offs.length ∧ Hid (passF N nx d 19 o = pre ++ passF N nx d k x) ∧ Hid (J pre wq) ∧ Hid (PaI w0 gn gp o d g wq) ∧ Hid (∀ k, PaK w0 g k → ¬ bad wq k)) (fun _ sv _ => (19 - intOf sv).toNat)
 case atStart => exact ⟨19, o, [], 0, by omega, rfl, rfl, by omega, ho, hide rfl, HJ0, HI, HK⟩
 case round =>
  clear HI HK HJ0
  obtain ⟨k, x, pre, s, hk, rfl, rfl, hs, hx, HP, HJ, HI, HK⟩ := hrel
  cases k with
  | zero =>
   have q1 : ¬ (s < 19) := by omega
   have HP2 := HP.out
   rw [passF] at HP2
   obtain ⟨fn, tmps, assign, body, hy, hRd⟩ := HY.out pre x [] HP2 wr HJ.out
   have HRd := hide hRd
   clear hRd
   gi_wp2
   refine (wpIn_wide (n := 8)).1 ?_
   gi_wp2
   refine HRd.out.mono ?_
   intro e W3 h3
   cases e with
   | outgrown => exact h3.elim
   | panicked ch => exact ⟨rfl, h3⟩
   | returned v =>
    have HE : Hid (J (pre ++ [x]) W3 ∨ T W3) := hide (by
     rcases h3 with ⟨rfl, hj, hk⟩ | ⟨rfl, hT⟩
     ·exact .inl hj
     ·exact .inr hT)
    clear h3
    try rw [HP2]
    clear HP2
    gi_wp2
    first
    | exact bodyPost_end (results_none Tryz.results185 _ _ _) rfl HE.out
    | exact bodyPost_ret (results_none Tryz.results185 _ _ _) rfl HE.out
  | succ k =>
   have q1 : s < 19 := by omega
   have e9 : IntKind.i64.wrap (s + 1) = s + 1 := IntWalk.i64_in _ (by omega)
   have Hs := hide (show s = 18 - (k : Int) by omega)
   have Hk := hide hk
   clear hs
   have hpost : ∃ post, passF N nx d 19 o = pre ++ x :: post := by rw [HP.out, passF]; exact ⟨_, rfl⟩
   obtain ⟨post, hpost⟩ := hpost
   have HJ1 : Hid (J pre wr.drew) := hide (HJs.out _ _ _ HJ.out (Below.refl _ _).drew).1
   have HI1 := hide (HI.out.next Hg.out (Below.refl _ _).drew)
   have HK1 : Hid (∀ k, PaK w0 g k → ¬ bad wr.drew k) := hide (fun k hk e => HK.out k hk ((HJs.out _ _ _ HJ.out (Below.refl _ _).drew).2 k e).1)
   obtain ⟨fn, tmps, assign, body, hy, hRd⟩ := HY.out pre x post hpost wr.drew HJ1.out
   have HRd := hide hRd
   clear hRd hpost HJ HI HK
   gi_wp2
   by_cases hxd : x = d
   ·subst hxd
    have HE : Hid (passF N nx x 19 o = pre ++ [x]) := hide (by rw [HP.out, passF_end (.inl rfl)])
    have rq1 : ((x : Int) == (x : Int)) = true := beq_self_eq_true _
    refine wpIn_region_any (by kernel_rfl) ?_
    change wpAnyIn _ _ _ _ _ _ _ _ _ (World.drew _)
    refine wpAnyIn_take (i := 0) (v := ?veqx0) rfl rfl (by kernel_rfl) (by kernel_rfl) (by kernel_rfl) (fun _ _ _ h => h) ⟨Or.inl ⟨by rfl, ?hyeqx0⟩, fun _ => rfl⟩ ?resteqx0
    case hyeqx0 => (intro w0; go_simp; all_goals with_reducible rfl)
    try simp only [aP, Act.put]
    refine wpAnyIn_take (i := 1) (v := ?veqx1) rfl rfl (by kernel_rfl) (by kernel_rfl) (by kernel_rfl) (fun _ _ _ h => h) ⟨Or.inl ⟨by rfl, ?hyeqx1⟩, fun _ => rfl⟩ ?resteqx1
    case hyeqx1 => (intro w0; go_simp; all_goals with_reducible rfl)
    try simp only [aP, Act.put]
    refine wpAnyIn_ready (rs := [2]) (by kernel_rfl) (by simp) ?_
    refine AllReadyIn.cons rfl (fun K hK => ?_) AllReadyIn.nil
    go_simp
    first | refine HRd.out.mono ?_ | refine ⟨trivial, fun h => by cases h, HRd.out.mono ?_⟩
    intro e W3 h3
    cases e with
    | outgrown => exact h3.elim
    | panicked ch => exact ⟨rfl, h3⟩
    | returned v =>
     rcases h3 with ⟨rfl, hj, hk⟩ | ⟨rfl, hT⟩
     ·have HJ3 : Hid (J (pre ++ [x]) W3) := hide hj
      have HI3 := hide (HI1.out.kpb Hg.out hk HK1.out)
      have m3 := HI3.out.b3.cell (k := 0) (v := .int .i64 (x : Int)) rfl
      clear hj hk
      refine hK _ _ ?_
      clear hK K
      try simp only [aP, Act.put]
      refine wpAnyIn_take (i := 3) (v := ?veqxt3) rfl rfl (by kernel_rfl) (by kernel_rfl) (by kernel_rfl) (fun _ _ _ h => h) ⟨Or.inl ⟨by rfl, ?hyeqxt3⟩, fun _ => rfl⟩ ?resteqxt3
      case hyeqxt3 => (intro w0; go_simp; all_goals with_reducible rfl)
      try simp only [aP, Act.put]
      refine wpAnyIn_take (i := 4) (v := ?veqxt4) rfl rfl (by kernel_rfl) (by kernel_rfl) (by kernel_rfl) (fun _ _ _ h => h) ⟨Or.inl ⟨by rfl, ?hyeqxt4⟩, fun _ => rfl⟩ ?resteqxt4
      case hyeqxt4 => (intro w0; go_simp; all_goals with_reducible rfl)
      try simp only [aP, Act.put]
      refine wpAnyIn_take (i := 5) (v := ?veqxt5) rfl rfl (by kernel_rfl) (by kernel_rfl) (by kernel_rfl) (fun _ _ _ h => h) ⟨Or.inl ⟨by rfl, ?hyeqxt5⟩, fun _ => rfl⟩ ?resteqxt5
      case hyeqxt5 => (intro w0; go_simp; all_goals with_reducible rfl)
      try simp only [aP, Act.put]
      refine wpAnyIn_ready (rs := [6]) (by kernel_rfl) (by simp) ?_
      refine AllReadyIn.cons rfl (fun K hK => ?_) AllReadyIn.nil
      go_simp
      refine hK _ _ ?_
      clear hK K
      try simp only [aP, Act.put]
      refine wpAnyIn_take (i := 7) (v := ?veqxta7) rfl rfl (by kernel_rfl) (by kernel_rfl) (by kernel_rfl) (fun _ _ _ h => h) ⟨Or.inl ⟨by rfl, ?hyeqxta7⟩, fun _ => rfl⟩ ?resteqxta7
      case hyeqxta7 => (intro w0; go_simp; all_goals with_reducible rfl)
      try simp only [aP, Act.put]
      try simp only [rq1]
      refine wpAnyIn_take (i := 8) (v := ?veqxta8) rfl rfl (by kernel_rfl) (by kernel_rfl) (by kernel_rfl) (fun _ _ _ h => h) ⟨Or.inl ⟨by rfl, ?hyeqxta8⟩, fun _ => rfl⟩ ?resteqxta8
      case hyeqxta8 => (intro w0; go_simp; all_goals with_reducible rfl)
      try simp only [aP, Act.put]
      refine wpAnyIn_take (i := 9) (v := ?veqxta9) rfl rfl (by kernel_rfl) (by kernel_rfl) (by kernel_rfl) (fun _ _ _ h => h) ⟨Or.inl ⟨by rfl, ?hyeqxta9⟩, fun _ => rfl⟩ ?resteqxta9
      case hyeqxta9 => (intro w0; go_simp; all_goals with_reducible rfl)
      try simp only [aP, Act.put]
      refine wpAnyIn_take (i := 10) (v := undef) rfl rfl (by kernel_rfl) (by kernel_rfl) (by kernel_rfl) (fun _ _ _ h => h) ⟨Or.inr ⟨by rfl, rfl⟩, fun _ => rfl⟩ ?_
      try simp only [aP, Act.put]
      refine wpAnyIn_take (i := 11) (v := undef) rfl rfl (by kernel_rfl) (by kernel_rfl) (by kernel_rfl) (fun _ _ _ h => h) ⟨Or.inr ⟨by rfl, rfl⟩, fun _ => rfl⟩ ?_
      try simp only [aP, Act.put]
      refine wpAnyIn_take (i := 12) (v := undef) rfl rfl (by kernel_rfl) (by kernel_rfl) (by kernel_rfl) (fun _ _ _ h => h) ⟨Or.inr ⟨by rfl, rfl⟩, fun _ => rfl⟩ ?_
      try simp only [aP, Act.put]
      refine wpAnyIn_take (i := 13) (v := undef) rfl rfl (by kernel_rfl) (by kernel_rfl) (by kernel_rfl) (fun _ _ _ h => h) ⟨Or.inr ⟨by rfl, rfl⟩, fun _ => rfl⟩ ?_
      try simp only [aP, Act.put]
      refine wpAnyIn_take (i := 14) (v := undef) rfl rfl (by kernel_rfl) (by kernel_rfl) (by kernel_rfl) (fun _ _ _ h => h) ⟨Or.inr ⟨by rfl, rfl⟩, fun _ => rfl⟩ ?_
      try simp only [aP, Act.put]
      refine wpAnyIn_take (i := 15) (v := undef) rfl rfl (by kernel_rfl) (by kernel_rfl) (by kernel_rfl) (fun _ _ _ h => h) ⟨Or.inr ⟨by rfl, rfl⟩, fun _ => rfl⟩ ?_
      try simp only [aP, Act.put]
      refine wpAnyIn_take (i := 16) (v := undef) rfl rfl (by kernel_rfl) (by kernel_rfl) (by kernel_rfl) (fun _ _ _ h => h) ⟨Or.inr ⟨by rfl, rfl⟩, fun _ => rfl⟩ ?_
      try simp only [aP, Act.put]
      refine wpAnyIn_take (i := 17) (v := undef) rfl rfl (by kernel_rfl) (by kernel_rfl) (by kernel_rfl) (fun _ _ _ h => h) ⟨Or.inr ⟨by rfl, rfl⟩, fun _ => rfl⟩ ?_
      try simp only [aP, Act.put]
      refine wpAnyIn_take (i := 18) (v := undef) rfl rfl (by kernel_rfl) (by kernel_rfl) (by kernel_rfl) (fun _ _ _ h => h) ⟨Or.inr ⟨by rfl, rfl⟩, fun _ => rfl⟩ ?_
      try simp only [aP, Act.put]
      refine wpAnyIn_take (i := 19) (v := undef) rfl rfl (by kernel_rfl) (by kernel_rfl) (by kernel_rfl) (fun _ _ _ h => h) ⟨Or.inr ⟨by rfl, rfl⟩, fun _ => rfl⟩ ?_
      try simp only [aP, Act.put]
      refine wpAnyIn_take (i := 20) (v := undef) rfl rfl (by kernel_rfl) (by kernel_rfl) (by kernel_rfl) (fun _ _ _ h => h) ⟨Or.inr ⟨by rfl, rfl⟩, fun _ => rfl⟩ ?_
      try simp only [aP, Act.put]
      refine wpAnyIn_take (i := 21) (v := ?veqxta21) rfl rfl (by kernel_rfl) (by kernel_rfl) (by kernel_rfl) (fun _ _ _ h => h) ⟨Or.inl ⟨by rfl, ?hyeqxta21⟩, fun _ => rfl⟩ ?resteqxta21
      case hyeqxta21 => (intro w0; go_simp; all_goals with_reducible rfl)
      try simp only [aP, Act.put]
      refine wpAnyIn_done (by kernel_rfl) ?_ _
      gi_wp2
      refine bodyPost_ret (results_none Tryz.results185 _ _ _) rfl ?_
      exact .inl (by rw [HE.out]; exact HJ3.out)
     ·have HT := hide hT
      clear hT
      refine hK _ _ ?_
      clear hK K
      try simp only [aP, Act.put]
      refine wpAnyIn_take (i := 3) (v := ?veqxf3) rfl rfl (by kernel_rfl) (by kernel_rfl) (by kernel_rfl) (fun _ _ _ h => h) ⟨Or.inl ⟨by rfl, ?hyeqxf3⟩, fun _ => rfl⟩ ?resteqxf3
      case hyeqxf3 => (intro w0; go_simp; all_goals with_reducible rfl)
      try simp only [aP, Act.put]
      refine wpAnyIn_take (i := 4) (v := ?veqxf4) rfl rfl (by kernel_rfl) (by kernel_rfl) (by kernel_rfl) (fun _ _ _ h => h) ⟨Or.inl ⟨by rfl, ?hyeqxf4⟩, fun _ => rfl⟩ ?resteqxf4
      case hyeqxf4 => (intro w0; go_simp; all_goals with_reducible rfl)
      try simp only [aP, Act.put]
      refine wpAnyIn_take (i := 5) (v := undef) rfl rfl (by kernel_rfl) (by kernel_rfl) (by kernel_rfl) (fun _ _ _ h => h) ⟨Or.inr ⟨by rfl, rfl⟩, fun _ => rfl⟩ ?_
      try simp only [aP, Act.put]
      refine wpAnyIn_take (i := 6) (v := undef) rfl rfl (by kernel_rfl) (by kernel_rfl) (by kernel_rfl) (fun _ _ _ h => h) ⟨Or.inr ⟨by rfl, rfl⟩, fun _ => rfl⟩ ?_
      try simp only [aP, Act.put]
      refine wpAnyIn_take (i := 7) (v := undef) rfl rfl (by kernel_rfl) (by kernel_rfl) (by kernel_rfl) (fun _ _ _ h => h) ⟨Or.inr ⟨by rfl, rfl⟩, fun _ => rfl⟩ ?_
      try simp only [aP, Act.put]
      refine wpAnyIn_take (i := 8) (v := ?veqxf8) rfl rfl (by kernel_rfl) (by kernel_rfl) (by kernel_rfl) (fun _ _ _ h => h) ⟨Or.inl ⟨by rfl, ?hyeqxf8⟩, fun _ => rfl⟩ ?resteqxf8
      case hyeqxf8 => (intro w0; go_simp; all_goals with_reducible rfl)
      try simp only [aP, Act.put]
      refine wpAnyIn_take (i := 9) (v := ?veqxf9) rfl rfl (by kernel_rfl) (by kernel_rfl) (by kernel_rfl) (fun _ _ _ h => h) ⟨Or.inl ⟨by rfl, ?hyeqxf9⟩, fun _ => rfl⟩ ?resteqxf9
      case hyeqxf9 => (intro w0; go_simp; all_goals with_reducible rfl)
      try simp only [aP, Act.put]
      refine wpAnyIn_take (i := 10) (v := undef) rfl rfl (by kernel_rfl) (by kernel_rfl) (by kernel_rfl) (fun _ _ _ h => h) ⟨Or.inr ⟨by rfl, rfl⟩, fun _ => rfl⟩ ?_
      try simp only [aP, Act.put]
      refine wpAnyIn_take (i := 11) (v := undef) rfl rfl (by kernel_rfl) (by kernel_rfl) (by kernel_rfl) (fun _ _ _ h => h) ⟨Or.inr ⟨by rfl, rfl⟩, fun _ => rfl⟩ ?_
      try simp only [aP, Act.put]
      refine wpAnyIn_take (i := 12) (v := undef) rfl rfl (by kernel_rfl) (by kernel_rfl) (by kernel_rfl) (fun _ _ _ h => h) ⟨Or.inr ⟨by rfl, rfl⟩, fun _ => rfl⟩ ?_
      try simp only [aP, Act.put]
      refine wpAnyIn_take (i := 13) (v := undef) rfl rfl (by kernel_rfl) (by kernel_rfl) (by kernel_rfl) (fun _ _ _ h => h) ⟨Or.inr ⟨by rfl, rfl⟩, fun _ => rfl⟩ ?_
      try simp only [aP, Act.put]
      refine wpAnyIn_take (i := 14) (v := undef) rfl rfl (by kernel_rfl) (by kernel_rfl) (by kernel_rfl) (fun _ _ _ h => h) ⟨Or.inr ⟨by rfl, rfl⟩, fun _ => rfl⟩ ?_
      try simp only [aP, Act.put]
      refine wpAnyIn_take (i := 15) (v := undef) rfl rfl (by kernel_rfl) (by kernel_rfl) (by kernel_rfl) (fun _ _ _ h => h) ⟨Or.inr ⟨by rfl, rfl⟩, fun _ => rfl⟩ ?_
      try simp only [aP, Act.put]
      refine wpAnyIn_take (i := 16) (v := undef) rfl rfl (by kernel_rfl) (by kernel_rfl) (by kernel_rfl) (fun _ _ _ h => h) ⟨Or.inr ⟨by rfl, rfl⟩, fun _ => rfl⟩ ?_
      try simp only [aP, Act.put]
      refine wpAnyIn_take (i := 17) (v := undef) rfl rfl (by kernel_rfl) (by kernel_rfl) (by kernel_rfl) (fun _ _ _ h => h) ⟨Or.inr ⟨by rfl, rfl⟩, fun _ => rfl⟩ ?_
      try simp only [aP, Act.put]
      refine wpAnyIn_take (i := 18) (v := undef) rfl rfl (by kernel_rfl) (by kernel_rfl) (by kernel_rfl) (fun _ _ _ h => h) ⟨Or.inr ⟨by rfl, rfl⟩, fun _ => rfl⟩ ?_
      try simp only [aP, Act.put]
      refine wpAnyIn_take (i := 19) (v := undef) rfl rfl (by kernel_rfl) (by kernel_rfl) (by kernel_rfl) (fun _ _ _ h => h) ⟨Or.inr ⟨by rfl, rfl⟩, fun _ => rfl⟩ ?_
      try simp only [aP, Act.put]
      refine wpAnyIn_take (i := 20) (v := undef) rfl rfl (by kernel_rfl) (by kernel_rfl) (by kernel_rfl) (fun _ _ _ h => h) ⟨Or.inr ⟨by rfl, rfl⟩, fun _ => rfl⟩ ?_
      try simp only [aP, Act.put]
      refine wpAnyIn_take (i := 21) (v := ?veqxf21) rfl rfl (by kernel_rfl) (by kernel_rfl) (by kernel_rfl) (fun _ _ _ h => h) ⟨Or.inl ⟨by rfl, ?hyeqxf21⟩, fun _ => rfl⟩ ?resteqxf21
      case hyeqxf21 => (intro w0; go_simp; all_goals with_reducible rfl)
      try simp only [aP, Act.put]
      refine wpAnyIn_done (by kernel_rfl) ?_ _
      gi_wp2
      refine bodyPost_ret (results_none Tryz.results185 _ _ _) rfl ?_
      exact .inr HT.out
   ·have r1 : ¬ ((x : Int) = (d : Int)) := by omega
    have rq1 : ((x : Int) == (d : Int)) = false := beq_eq_false_iff_ne.2 r1
    by_cases hn : nx x d = -1
    ·have HE : Hid (passF N nx d 19 o = pre ++ [x]) := hide (by rw [HP.out, passF_end (.inr hn)])
     have Hn := hide hn
     have rq2 : ((-1 : Int) == (-1 : Int)) = true := by decide
     clear hn
     refine wpIn_region_any (by kernel_rfl) ?_
     change wpAnyIn _ _ _ _ _ _ _ _ _ (World.drew _)
     refine wpAnyIn_take (i := 0) (v := ?vney0) rfl rfl (by kernel_rfl) (by kernel_rfl) (by kernel_rfl) (fun _ _ _ h => h) ⟨Or.inl ⟨by rfl, ?hyney0⟩, fun _ => rfl⟩ ?restney0
     case hyney0 => (intro w0; go_simp; all_goals with_reducible rfl)
     try simp only [aP, Act.put]
     refine wpAnyIn_take (i := 1) (v := ?vney1) rfl rfl (by kernel_rfl) (by kernel_rfl) (by kernel_rfl) (fun _ _ _ h => h) ⟨Or.inl ⟨by rfl, ?hyney1⟩, fun _ => rfl⟩ ?restney1
     case hyney1 => (intro w0; go_simp; all_goals with_reducible rfl)
     try simp only [aP, Act.put]
     refine wpAnyIn_ready (rs := [2]) (by kernel_rfl) (by simp) ?_
     refine AllReadyIn.cons rfl (fun K hK => ?_) AllReadyIn.nil
     go_simp
     first | refine HRd.out.mono ?_ | refine ⟨trivial, fun h => by cases h, HRd.out.mono ?_⟩
     intro e W3 h3
     cases e with
     | outgrown => exact h3.elim
     | panicked ch => exact ⟨rfl, h3⟩
     | returned v =>
      rcases h3 with ⟨rfl, hj, hk⟩ | ⟨rfl, hT⟩
      ·have HJ3 : Hid (J (pre ++ [x]) W3) := hide hj
       have HI3 := hide (HI1.out.kpb Hg.out hk HK1.out)
       have m3 := HI3.out.b3.cell (k := 0) (v := .int .i64 (d : Int)) rfl
       have m1 := HI3.out.b1.cell (k := 0) (v := .pointer (some ⟨gp, 0, none⟩)) rfl
       have HB3 := hide (HB.out.same HI3.out.old)
       have m5 := HB3.out.bp.cell (k := 2) (v := .slice P.np P.nn P.nc) rfl
       rw [HB3.out.nn] at m5
       obtain ⟨b, bo, b', o', c', hpb, m6, m7⟩ := HB3.out.mat x hx
       rw [hpb] at m5
       replace m7 := m7 d hd
       rw [Hn.out] at m7
       have r2 : (0 : Int) ≤ (x : Int) := by omega
       have r3 : (x : Int) < (N.offs.length : Int) := by omega
       have r4 : (0 : Int) ≤ (d : Int) := by omega
       have r5 : (d : Int) < (N.offs.length : Int) := by omega
       clear hj hk hpb
       refine hK _ _ ?_
       clear hK K
       try simp only [aP, Act.put]
       refine wpAnyIn_take (i := 3) (v := ?vneyt3) rfl rfl (by kernel_rfl) (by kernel_rfl) (by kernel_rfl) (fun _ _ _ h => h) ⟨Or.inl ⟨by rfl, ?hyneyt3⟩, fun _ => rfl⟩ ?restneyt3
       case hyneyt3 => (intro w0; go_simp; all_goals with_reducible rfl)
       try simp only [aP, Act.put]
       refine wpAnyIn_take (i := 4) (v := ?vneyt4) rfl rfl (by kernel_rfl) (by kernel_rfl) (by kernel_rfl) (fun _ _ _ h => h) ⟨Or.inl ⟨by rfl, ?hyneyt4⟩, fun _ => rfl⟩ ?restneyt4
       case hyneyt4 => (intro w0; go_simp; all_goals with_reducible rfl)
       try simp only [aP, Act.put]
       refine wpAnyIn_take (i := 5) (v := ?vneyt5) rfl rfl (by kernel_rfl) (by kernel_rfl) (by kernel_rfl) (fun _ _ _ h => h) ⟨Or.inl ⟨by rfl, ?hyneyt5⟩, fun _ => rfl⟩ ?restneyt5
       case hyneyt5 => (intro w0; go_simp; all_goals with_reducible rfl)
       try simp only [aP, Act.put]
       refine wpAnyIn_ready (rs := [6]) (by kernel_rfl) (by simp) ?_
       refine AllReadyIn.cons rfl (fun K hK => ?_) AllReadyIn.nil
       go_simp
       refine hK _ _ ?_
       clear hK K
       try simp only [aP, Act.put]
       refine wpAnyIn_take (i := 7) (v := ?vneyta7) rfl rfl (by kernel_rfl) (by kernel_rfl) (by kernel_rfl) (fun _ _ _ h => h) ⟨Or.inl ⟨by rfl, ?hyneyta7⟩, fun _ => rfl⟩ ?restneyta7
       case hyneyta7 => (intro w0; go_simp; all_goals with_reducible rfl)
       try simp only [aP, Act.put]
       try simp only [rq1]
       refine wpAnyIn_take (i := 8) (v := ?vneyta8) rfl rfl (by kernel_rfl) (by kernel_rfl) (by kernel_rfl) (fun _ _ _ h => h) ⟨Or.inl ⟨by rfl, ?hyneyta8⟩, fun _ => rfl⟩ ?restneyta8
       case hyneyta8 => (intro w0; go_simp; all_goals with_reducible rfl)
       try simp only [aP, Act.put]
       refine wpAnyIn_take (i := 9) (v := ?vneyta9) rfl rfl (by kernel_rfl) (by kernel_rfl) (by kernel_rfl) (fun _ _ _ h => h) ⟨Or.inl ⟨by rfl, ?hyneyta9⟩, fun _ => rfl⟩ ?restneyta9
       case hyneyta9 => (intro w0; go_simp; all_goals with_reducible rfl)
       try simp only [aP, Act.put]
       refine wpAnyIn_take (i := 14) (v := ?vneyta14) rfl rfl (by kernel_rfl) (by kernel_rfl) (by kernel_rfl) (fun _ _ _ h => h) ⟨Or.inl ⟨by rfl, ?hyneyta14⟩, fun _ => rfl⟩ ?restneyta14
       case hyneyta14 => (intro w0; go_simp; all_goals with_reducible rfl)
       try simp only [aP, Act.put]
       refine wpAnyIn_ready (rs := [10, 17]) (by kernel_rfl) (by simp) ?_
       refine AllReadyIn.cons rfl (fun K hK => ?_) (AllReadyIn.cons rfl (fun K hK => ?_) AllReadyIn.nil)
       ·go_simp
        refine hK _ _ ?_
        clear hK K
        try simp only [aP, Act.put]
        refine wpAnyIn_take (i := 11) (v := ?vneytaa11) rfl rfl (by kernel_rfl) (by kernel_rfl) (by kernel_rfl) (fun _ _ _ h => h) ⟨Or.inl ⟨by rfl, ?hyneytaa11⟩, fun _ => rfl⟩ ?restneytaa11
        case hyneytaa11 => (intro w0; go_simp; all_goals with_reducible rfl)
        try simp only [aP, Act.put]
        refine wpAnyIn_take (i := 12) (v := ?vneytaa12) rfl rfl (by kernel_rfl) (by kernel_rfl) (by kernel_rfl) (fun _ _ _ h => h) ⟨Or.inl ⟨by rfl, ?hyneytaa12⟩, fun _ => rfl⟩ ?restneytaa12
        case hyneytaa12 => (intro w0; go_simp; all_goals with_reducible rfl)
        try simp only [aP, Act.put]
        refine wpAnyIn_ready (rs := [13, 17]) (by kernel_rfl) (by simp) ?_
        refine AllReadyIn.cons rfl (fun K hK => ?_) (AllReadyIn.cons rfl (fun K hK => ?_) AllReadyIn.nil)
        ·go_simp
         refine hK _ _ ?_
         clear hK K
         try simp only [aP, Act.put]
         refine wpAnyIn_take (i := 15) (v := ?vneytaaa15) rfl rfl (by kernel_rfl) (by kernel_rfl) (by kernel_rfl) (fun _ _ _ h => h) ⟨Or.inl ⟨by rfl, ?hyneytaaa15⟩, fun _ => rfl⟩ ?restneytaaa15
         case hyneytaaa15 => (intro w0; go_simp; all_goals with_reducible rfl)
         try simp only [aP, Act.put]
         refine wpAnyIn_ready (rs := [16, 17]) (by kernel_rfl) (by simp) ?_
         refine AllReadyIn.cons rfl (fun K hK => ?_) (AllReadyIn.cons rfl (fun K hK => ?_) AllReadyIn.nil)
         ·go_simp
          refine hK _ _ ?_
          clear hK K
          try simp only [aP, Act.put]
          refine wpAnyIn_ready (rs := [17]) (by kernel_rfl) (by simp) ?_
          refine AllReadyIn.cons rfl (fun K hK => ?_) AllReadyIn.nil
          go_simp
          refine hK _ _ ?_
          clear hK K
          try simp only [aP, Act.put]
          refine wpAnyIn_take (i := 18) (v := ?vneytaaaaa18) rfl rfl (by kernel_rfl) (by kernel_rfl) (by kernel_rfl) (fun _ _ _ h => h) ⟨Or.inl ⟨by rfl, ?hyneytaaaaa18⟩, fun _ => rfl⟩ ?restneytaaaaa18
          case hyneytaaaaa18 => (intro w0; go_simp; all_goals with_reducible rfl)
          try simp only [aP, Act.put]
          refine wpAnyIn_ready (rs := [19]) (by kernel_rfl) (by simp) ?_
          refine AllReadyIn.cons rfl (fun K hK => ?_) AllReadyIn.nil
          go_simp
          refine hK _ _ ?_
          clear hK K
          try simp only [aP, Act.put]
          refine wpAnyIn_take (i := 20) (v := ?vneytaaaaaa20) rfl rfl (by kernel_rfl) (by kernel_rfl) (by kernel_rfl) (fun _ _ _ h => h) ⟨Or.inl ⟨by rfl, ?hyneytaaaaaa20⟩, fun _ => rfl⟩ ?restneytaaaaaa20
          case hyneytaaaaaa20 => (intro w0; go_simp; all_goals with_reducible rfl)
          try simp only [aP, Act.put]
          try simp only [rq2]
          refine wpAnyIn_take (i := 21) (v := ?vneytaaaaaa21) rfl rfl (by kernel_rfl) (by kernel_rfl) (by kernel_rfl) (fun _ _ _ h => h) ⟨Or.inl ⟨by rfl, ?hyneytaaaaaa21⟩, fun _ => rfl⟩ ?restneytaaaaaa21
          case hyneytaaaaaa21 => (intro w0; go_simp; all_goals with_reducible rfl)
          try simp only [aP, Act.put]
          refine wpAnyIn_done (by kernel_rfl) ?_ _
          gi_wp2
          refine bodyPost_ret (results_none Tryz.results185 _ _ _) rfl ?_
          exact .inl (by rw [HE.out]; exact HJ3.out)
         ·go_simp
          refine hK _ _ ?_
          clear hK K
          try simp only [aP, Act.put]
          refine wpAnyIn_ready (rs := [16]) (by kernel_rfl) (by simp) ?_
          refine AllReadyIn.cons rfl (fun K hK => ?_) AllReadyIn.nil
          go_simp
          refine hK _ _ ?_
          clear hK K
          try simp only [aP, Act.put]
          refine wpAnyIn_take (i := 18) (v := ?vneytaaaba18) rfl rfl (by kernel_rfl) (by kernel_rfl) (by kernel_rfl) (fun _ _ _ h => h) ⟨Or.inl ⟨by rfl, ?hyneytaaaba18⟩, fun _ => rfl⟩ ?restneytaaaba18
          case hyneytaaaba18 => (intro w0; go_simp; all_goals with_reducible rfl)
          try simp only [aP, Act.put]
          refine wpAnyIn_ready (rs := [19]) (by kernel_rfl) (by simp) ?_
          refine AllReadyIn.cons rfl (fun K hK => ?_) AllReadyIn.nil
          go_simp
          refine hK _ _ ?_
          clear hK K
          try simp only [aP, Act.put]
          refine wpAnyIn_take (i := 20) (v := ?vneytaaabaa20) rfl rfl (by kernel_rfl) (by kernel_rfl) (by kernel_rfl) (fun _ _ _ h => h) ⟨Or.inl ⟨by rfl, ?hyneytaaabaa20⟩, fun _ => rfl⟩ ?restneytaaabaa20
          case hyneytaaabaa20 => (intro w0; go_simp; all_goals with_reducible rfl)
          try simp only [aP, Act.put]
          try simp only [rq2]
          refine wpAnyIn_take (i := 21) (v := ?vneytaaabaa21) rfl rfl (by kernel_rfl) (by kernel_rfl) (by kernel_rfl) (fun _ _ _ h => h) ⟨Or.inl ⟨by rfl, ?hyneytaaabaa21⟩, fun _ => rfl⟩ ?restneytaaabaa21
          case hyneytaaabaa21 => (intro w0; go_simp; all_goals with_reducible rfl)
          try simp only [aP, Act.put]
          refine wpAnyIn_done (by kernel_rfl) ?_ _
          gi_wp2
          refine bodyPost_ret (results_none Tryz.results185 _ _ _) rfl ?_
          exact .inl (by rw [HE.out]; exact HJ3.out)
        ·go_simp
         refine hK _ _ ?_
         clear hK K
         try simp only [aP, Act.put]
         refine wpAnyIn_ready (rs := [13]) (by kernel_rfl) (by simp) ?_
         refine AllReadyIn.cons rfl (fun K hK => ?_) AllReadyIn.nil
         go_simp
         refine hK _ _ ?_
         clear hK K
         try simp only [aP, Act.put]
         refine wpAnyIn_take (i := 15) (v := ?vneytaaba15) rfl rfl (by kernel_rfl) (by kernel_rfl) (by kernel_rfl) (fun _ _ _ h => h) ⟨Or.inl ⟨by rfl, ?hyneytaaba15⟩, fun _ => rfl⟩ ?restneytaaba15
         case hyneytaaba15 => (intro w0; go_simp; all_goals with_reducible rfl)
         try simp only [aP, Act.put]
         refine wpAnyIn_ready (rs := [16]) (by kernel_rfl) (by simp) ?_
         refine AllReadyIn.cons rfl (fun K hK => ?_) AllReadyIn.nil
         go_simp
         refine hK _ _ ?_
         clear hK K
         try simp only [aP, Act.put]
         refine wpAnyIn_take (i := 18) (v := ?vneytaabaa18) rfl rfl (by kernel_rfl) (by kernel_rfl) (by kernel_rfl) (fun _ _ _ h => h) ⟨Or.inl ⟨by rfl, ?hyneytaabaa18⟩, fun _ => rfl⟩ ?restneytaabaa18
         case hyneytaabaa18 => (intro w0; go_simp; all_goals with_reducible rfl)
         try simp only [aP, Act.put]
         refine wpAnyIn_ready (rs := [19]) (by kernel_rfl) (by simp) ?_
         refine AllReadyIn.cons rfl (fun K hK => ?_) AllReadyIn.nil
         go_simp
         refine hK _ _ ?_
         clear hK K
         try simp only [aP, Act.put]
         refine wpAnyIn_take (i := 20) (v := ?vneytaabaaa20) rfl rfl (by kernel_rfl) (by kernel_rfl) (by kernel_rfl) (fun _ _ _ h => h) ⟨Or.inl ⟨by rfl, ?hyneytaabaaa20⟩, fun _ => rfl⟩ ?restneytaabaaa20
         case hyneytaabaaa20 => (intro w0; go_simp; all_goals with_reducible rfl)
         try simp only [aP, Act.put]
         try simp only [rq2]
         refine wpAnyIn_take (i := 21) (v := ?vneytaabaaa21) rfl rfl (by kernel_rfl) (by kernel_rfl) (by kernel_rfl) (fun _ _ _ h => h) ⟨Or.inl ⟨by rfl, ?hyneytaabaaa21⟩, fun _ => rfl⟩ ?restneytaabaaa21
         case hyneytaabaaa21 => (intro w0; go_simp; all_goals with_reducible rfl)
         try simp only [aP, Act.put]
         refine wpAnyIn_done (by kernel_rfl) ?_ _
         gi_wp2
         refine bodyPost_ret (results_none Tryz.results185 _ _ _) rfl ?_
         exact .inl (by rw [HE.out]; exact HJ3.out)
       ·go_simp
        refine hK _ _ ?_
        clear hK K
        try simp only [aP, Act.put]
        refine wpAnyIn_ready (rs := [10]) (by kernel_rfl) (by simp) ?_
        refine AllReadyIn.cons rfl (fun K hK => ?_) AllReadyIn.nil
        go_simp
        refine hK _ _ ?_
        clear hK K
        try simp only [aP, Act.put]
        refine wpAnyIn_take (i := 11) (v := ?vneytaba11) rfl rfl (by kernel_rfl) (by kernel_rfl) (by kernel_rfl) (fun _ _ _ h => h) ⟨Or.inl ⟨by rfl, ?hyneytaba11⟩, fun _ => rfl⟩ ?restneytaba11
        case hyneytaba11 => (intro w0; go_simp; all_goals with_reducible rfl)
        try simp only [aP, Act.put]
        refine wpAnyIn_take (i := 12) (v := ?vneytaba12) rfl rfl (by kernel_rfl) (by kernel_rfl) (by kernel_rfl) (fun _ _ _ h => h) ⟨Or.inl ⟨by rfl, ?hyneytaba12⟩, fun _ => rfl⟩ ?restneytaba12
        case hyneytaba12 => (intro w0; go_simp; all_goals with_reducible rfl)
        try simp only [aP, Act.put]
        refine wpAnyIn_ready (rs := [13]) (by kernel_rfl) (by simp) ?_
        refine AllReadyIn.cons rfl (fun K hK => ?_) AllReadyIn.nil
        go_simp
        refine hK _ _ ?_
        clear hK K
        try simp only [aP, Act.put]
        refine wpAnyIn_take (i := 15) (v := ?vneytabaa15) rfl rfl (by kernel_rfl) (by kernel_rfl) (by kernel_rfl) (fun _ _ _ h => h) ⟨Or.inl ⟨by rfl, ?hyneytabaa15⟩, fun _ => rfl⟩ ?restneytabaa15
        case hyneytabaa15 => (intro w0; go_simp; all_goals with_reducible rfl)
        try simp only [aP, Act.put]
        refine wpAnyIn_ready (rs := [16]) (by kernel_rfl) (by simp) ?_
        refine AllReadyIn.cons rfl (fun K hK => ?_) AllReadyIn.nil
        go_simp
        refine hK _ _ ?_
        clear hK K
        try simp only [aP, Act.put]
        refine wpAnyIn_take (i := 18) (v := ?vneytabaaa18) rfl rfl (by kernel_rfl) (by kernel_rfl) (by kernel_rfl) (fun _ _ _ h => h) ⟨Or.inl ⟨by rfl, ?hyneytabaaa18⟩, fun _ => rfl⟩ ?restneytabaaa18
        case hyneytabaaa18 => (intro w0; go_simp; all_goals with_reducible rfl)
        try simp only [aP, Act.put]
        refine wpAnyIn_ready (rs := [19]) (by kernel_rfl) (by simp) ?_
        refine AllReadyIn.cons rfl (fun K hK => ?_) AllReadyIn.nil
        go_simp
        refine hK _ _ ?_
        clear hK K
        try simp only [aP, Act.put]
        refine wpAnyIn_take (i := 20) (v := ?vneytabaaaa20) rfl rfl (by kernel_rfl) (by kernel_rfl) (by kernel_rfl) (fun _ _ _ h => h) ⟨Or.inl ⟨by rfl, ?hyneytabaaaa20⟩, fun _ => rfl⟩ ?restneytabaaaa20
        case hyneytabaaaa20 => (intro w0; go_simp; all_goals with_reducible rfl)
        try simp only [aP, Act.put]
        try simp only [rq2]
        refine wpAnyIn_take (i := 21) (v := ?vneytabaaaa21) rfl rfl (by kernel_rfl) (by kernel_rfl) (by kernel_rfl) (fun _ _ _ h => h) ⟨Or.inl ⟨by rfl, ?hyneytabaaaa21⟩, fun _ => rfl⟩ ?restneytabaaaa21
        case hyneytabaaaa21 => (intro w0; go_simp; all_goals with_reducible rfl)
        try simp only [aP, Act.put]
        refine wpAnyIn_done (by kernel_rfl) ?_ _
        gi_wp2
        refine bodyPost_ret (results_none Tryz.results185 _ _ _) rfl ?_
        exact .inl (by rw [HE.out]; exact HJ3.out)
      ·have HT := hide hT
       clear hT
       refine hK _ _ ?_
       clear hK K
       try simp only [aP, Act.put]
       refine wpAnyIn_take (i := 3) (v := ?vneyf3) rfl rfl (by kernel_rfl) (by kernel_rfl) (by kernel_rfl) (fun _ _ _ h => h) ⟨Or.inl ⟨by rfl, ?hyneyf3⟩, fun _ => rfl⟩ ?restneyf3
       case hyneyf3 => (intro w0; go_simp; all_goals with_reducible rfl)
       try simp only [aP, Act.put]
       refine wpAnyIn_take (i := 4) (v := ?vneyf4) rfl rfl (by kernel_rfl) (by kernel_rfl) (by kernel_rfl) (fun _ _ _ h => h) ⟨Or.inl ⟨by rfl, ?hyneyf4⟩, fun _ => rfl⟩ ?restneyf4
       case hyneyf4 => (intro w0; go_simp; all_goals with_reducible rfl)
       try simp only [aP, Act.put]
       refine wpAnyIn_take (i := 5) (v := undef) rfl rfl (by kernel_rfl) (by kernel_rfl) (by kernel_rfl) (fun _ _ _ h => h) ⟨Or.inr ⟨by rfl, rfl⟩, fun _ => rfl⟩ ?_
       try simp only [aP, Act.put]
       refine wpAnyIn_take (i := 6) (v := undef) rfl rfl (by kernel_rfl) (by kernel_rfl) (by kernel_rfl) (fun _ _ _ h => h) ⟨Or.inr ⟨by rfl, rfl⟩, fun _ => rfl⟩ ?_
       try simp only [aP, Act.put]
       refine wpAnyIn_take (i := 7) (v := undef) rfl rfl (by kernel_rfl) (by kernel_rfl) (by kernel_rfl) (fun _ _ _ h => h) ⟨Or.inr ⟨by rfl, rfl⟩, fun _ => rfl⟩ ?_
       try simp only [aP, Act.put]
       refine wpAnyIn_take (i := 8) (v := ?vneyf8) rfl rfl (by kernel_rfl) (by kernel_rfl) (by kernel_rfl) (fun _ _ _ h => h) ⟨Or.inl ⟨by rfl, ?hyneyf8⟩, fun _ => rfl⟩ ?restneyf8
       case hyneyf8 => (intro w0; go_simp; all_goals with_reducible rfl)
       try simp only [aP, Act.put]
       refine wpAnyIn_take (i := 9) (v := ?vneyf9) rfl rfl (by kernel_rfl) (by kernel_rfl) (by kernel_rfl) (fun _ _ _ h => h) ⟨Or.inl ⟨by rfl, ?hyneyf9⟩, fun _ => rfl⟩ ?restneyf9
       case hyneyf9 => (intro w0; go_simp; all_goals with_reducible rfl)
       try simp only [aP, Act.put]
       refine wpAnyIn_take (i := 10) (v := undef) rfl rfl (by kernel_rfl) (by kernel_rfl) (by kernel_rfl) (fun _ _ _ h => h) ⟨Or.inr ⟨by rfl, rfl⟩, fun _ => rfl⟩ ?_
       try simp only [aP, Act.put]
       refine wpAnyIn_take (i := 11) (v := undef) rfl rfl (by kernel_rfl) (by kernel_rfl) (by kernel_rfl) (fun _ _ _ h => h) ⟨Or.inr ⟨by rfl, rfl⟩, fun _ => rfl⟩ ?_
       try simp only [aP, Act.put]
       refine wpAnyIn_take (i := 12) (v := undef) rfl rfl (by kernel_rfl) (by kernel_rfl) (by kernel_rfl) (fun _ _ _ h => h) ⟨Or.inr ⟨by rfl, rfl⟩, fun _ => rfl⟩ ?_
       try simp only [aP, Act.put]
       refine wpAnyIn_take (i := 13) (v := undef) rfl rfl (by kernel_rfl) (by kernel_rfl) (by kernel_rfl) (fun _ _ _ h => h) ⟨Or.inr ⟨by rfl, rfl⟩, fun _ => rfl⟩ ?_
       try simp only [aP, Act.put]
       refine wpAnyIn_take (i := 14) (v := undef) rfl rfl (by kernel_rfl) (by kernel_rfl) (by kernel_rfl) (fun _ _ _ h => h) ⟨Or.inr ⟨by rfl, rfl⟩, fun _ => rfl⟩ ?_
       try simp only [aP, Act.put]
       refine wpAnyIn_take (i := 15) (v := undef) rfl rfl (by kernel_rfl) (by kernel_rfl) (by kernel_rfl) (fun _ _ _ h => h) ⟨Or.inr ⟨by rfl, rfl⟩, fun _ => rfl⟩ ?_
       try simp only [aP, Act.put]
       refine wpAnyIn_take (i := 16) (v := undef) rfl rfl (by kernel_rfl) (by kernel_rfl) (by kernel_rfl) (fun _ _ _ h => h) ⟨Or.inr ⟨by rfl, rfl⟩, fun _ => rfl⟩ ?_
       try simp only [aP, Act.put]
       refine wpAnyIn_take (i := 17) (v := undef) rfl rfl (by kernel_rfl) (by kernel_rfl) (by kernel_rfl) (fun _ _ _ h => h) ⟨Or.inr ⟨by rfl, rfl⟩, fun _ => rfl⟩ ?_
       try simp only [aP, Act.put]
       refine wpAnyIn_take (i := 18) (v := undef) rfl rfl (by kernel_rfl) (by kernel_rfl) (by kernel_rfl) (fun _ _ _ h => h) ⟨Or.inr ⟨by rfl, rfl⟩, fun _ => rfl⟩ ?_
       try simp only [aP, Act.put]
       refine wpAnyIn_take (i := 19) (v := undef) rfl rfl (by kernel_rfl) (by kernel_rfl) (by kernel_rfl) (fun _ _ _ h => h) ⟨Or.inr ⟨by rfl, rfl⟩, fun _ => rfl⟩ ?_
       try simp only [aP, Act.put]
       refine wpAnyIn_take (i := 20) (v := undef) rfl rfl (by kernel_rfl) (by kernel_rfl) (by kernel_rfl) (fun _ _ _ h => h) ⟨Or.inr ⟨by rfl, rfl⟩, fun _ => rfl⟩ ?_
       try simp only [aP, Act.put]
       refine wpAnyIn_take (i := 21) (v := ?vneyf21) rfl rfl (by kernel_rfl) (by kernel_rfl) (by kernel_rfl) (fun _ _ _ h => h) ⟨Or.inl ⟨by rfl, ?hyneyf21⟩, fun _ => rfl⟩ ?restneyf21
       case hyneyf21 => (intro w0; go_simp; all_goals with_reducible rfl)
       try simp only [aP, Act.put]
       refine wpAnyIn_done (by kernel_rfl) ?_ _
       gi_wp2
       refine bodyPost_ret (results_none Tryz.results185 _ _ _) rfl ?_
       exact .inr HT.out
    ·rcases HB.out.formed x d hx hd with h9 | ⟨hn0, hn1, hsrc⟩
     ·exact absurd h9 hn
     have hds := (HB.out.snd.linP hn0 hn1).dst
     have HE : Hid (passF N nx d 19 o = (pre ++ [x]) ++ passF N nx d k (linOf N (nx x d)).dst.toNat) := hide (by rw [HP.out, passF_more hxd hn]; simp)
     obtain ⟨i, hi⟩ : ∃ i : Nat, nx x d = (i : Int) := ⟨(nx x d).toNat, by omega⟩
     obtain ⟨L, hL⟩ : ∃ L, N.lins[i]? = some L := ⟨_, List.getElem?_eq_getElem (by omega)⟩
     have hLo : linOf N (nx x d) = L := by unfold linOf; rw [hi, show ((i : Int)).toNat = i by omega, getD_some hL]
     rw [hLo] at HE hds
     obtain ⟨y, hy9⟩ : ∃ y : Nat, L.dst = (y : Int) := ⟨L.dst.toNat, by omega⟩
     rw [hy9, show ((y : Int)).toNat = y by omega] at HE
     have hyl : y < N.offs.length := by omega
     have hil : i < N.lins.length := by omega
     have Hi := hide hi; have HL := hide hL; have Hy9 := hide hy9
     have r6 : ¬ ((i : Int) = -1) := by omega
     have rq2 : ((i : Int) == (-1 : Int)) = false := beq_eq_false_iff_ne.2 r6
     clear hn hn0 hn1 hsrc hds hi hL hLo hy9
     refine wpIn_region_any (by kernel_rfl) ?_
     change wpAnyIn _ _ _ _ _ _ _ _ _ (World.drew _)
     refine wpAnyIn_take (i := 0) (v := ?vnez0) rfl rfl (by kernel_rfl) (by kernel_rfl) (by kernel_rfl) (fun _ _ _ h => h) ⟨Or.inl ⟨by rfl, ?hynez0⟩, fun _ => rfl⟩ ?restnez0
     case hynez0 => (intro w0; go_simp; all_goals with_reducible rfl)
     try simp only [aP, Act.put]
     refine wpAnyIn_take (i := 1) (v := ?vnez1) rfl rfl (by kernel_rfl) (by kernel_rfl) (by kernel_rfl) (fun _ _ _ h => h) ⟨Or.inl ⟨by rfl, ?hynez1⟩, fun _ => rfl⟩ ?restnez1
     case hynez1 => (intro w0; go_simp; all_goals with_reducible rfl)
     try simp only [aP, Act.put]
     refine wpAnyIn_ready (rs := [2]) (by kernel_rfl) (by simp) ?_
     refine AllReadyIn.cons rfl (fun K hK => ?_) AllReadyIn.nil
     go_simp
     first | refine HRd.out.mono ?_ | refine ⟨trivial, fun h => by cases h, HRd.out.mono ?_⟩
     intro e W3 h3
     cases e with
     | outgrown => exact h3.elim
     | panicked ch => exact ⟨rfl, h3⟩
     | returned v =>
      rcases h3 with ⟨rfl, hj, hk⟩ | ⟨rfl, hT⟩
      ·have HJ3 : Hid (J (pre ++ [x]) W3) := hide hj
       have HI3 := hide (HI1.out.kpb Hg.out hk HK1.out)
       have HK3 : Hid (∀ k, PaK w0 g k → ¬ bad W3 k) := hide (fun k hk' => (hk.2 k (HI1.out.lt Hg.out hk') (HK1.out k hk')).2)
       have m3 := HI3.out.b3.cell (k := 0) (v := .int .i64 (d : Int)) rfl
       have m1 := HI3.out.b1.cell (k := 0) (v := .pointer (some ⟨gp, 0, none⟩)) rfl
       have m0 := HI3.out.b0.cell (k := 0) (v := .pointer (some ⟨gn, 0, none⟩)) rfl
       have HB3 := hide (HB.out.same HI3.out.old)
       have m5 := HB3.out.bp.cell (k := 2) (v := .slice P.np P.nn P.nc) rfl
       rw [HB3.out.nn] at m5
       obtain ⟨b, bo, b', o', c', hpb, m6, m7⟩ := HB3.out.mat x hx
       rw [hpb] at m5
       replace m7 := m7 d hd
       rw [Hi.out] at m7
       have m8 := HB3.out.bn.cell (k := 4) (v := .slice N.lp N.lins.length N.lc) rfl
       obtain ⟨lb, lo, L', hlp, hL', _, l1, l2, l3, _⟩ := HB3.out.net.lin_ (i := i) hil
       rw [HL.out] at hL'; injection hL' with hL'; subst hL'
       rw [hlp] at m8
       rw [Hy9.out] at l3
       have r2 : (0 : Int) ≤ (x : Int) := by omega
       have r3 : (x : Int) < (N.offs.length : Int) := by omega
       have r4 : (0 : Int) ≤ (d : Int) := by omega
       have r5 : (d : Int) < (N.offs.length : Int) := by omega
       have r7 : (0 : Int) ≤ (i : Int) := by omega
       have r8 : (i : Int) < (N.lins.length : Int) := by omega
       clear hj hk hpb hlp
       refine hK _ _ ?_
       clear hK K
       try simp only [aP, Act.put]
       refine wpAnyIn_take (i := 3) (v := ?vnezt3) rfl rfl (by kernel_rfl) (by kernel_rfl) (by kernel_rfl) (fun _ _ _ h => h) ⟨Or.inl ⟨by rfl, ?hynezt3⟩, fun _ => rfl⟩ ?restnezt3
       case hynezt3 => (intro w0; go_simp; all_goals with_reducible rfl)
       try simp only [aP, Act.put]
       refine wpAnyIn_take (i := 4) (v := ?vnezt4) rfl rfl (by kernel_rfl) (by kernel_rfl) (by kernel_rfl) (fun _ _ _ h => h) ⟨Or.inl ⟨by rfl, ?hynezt4⟩, fun _ => rfl⟩ ?restnezt4
       case hynezt4 => (intro w0; go_simp; all_goals with_reducible rfl)
       try simp only [aP, Act.put]
       refine wpAnyIn_take (i := 5) (v := ?vnezt5) rfl rfl (by kernel_rfl) (by kernel_rfl) (by kernel_rfl) (fun _ _ _ h => h) ⟨Or.inl ⟨by rfl, ?hynezt5⟩, fun _ => rfl⟩ ?restnezt5
       case hynezt5 => (intro w0; go_simp; all_goals with_reducible rfl)
       try simp only [aP, Act.put]
       refine wpAnyIn_ready (rs := [6]) (by kernel_rfl) (by simp) ?_
       refine AllReadyIn.cons rfl (fun K hK => ?_) AllReadyIn.nil
       go_simp
       refine hK _ _ ?_
       clear hK K
       try simp only [aP, Act.put]
       refine wpAnyIn_take (i := 7) (v := ?vnezta7) rfl rfl (by kernel_rfl) (by kernel_rfl) (by kernel_rfl) (fun _ _ _ h => h) ⟨Or.inl ⟨by rfl, ?hynezta7⟩, fun _ => rfl⟩ ?restnezta7
       case hynezta7 => (intro w0; go_simp; all_goals with_reducible rfl)
       try simp only [aP, Act.put]
       try simp only [rq1]
       refine wpAnyIn_take (i := 8) (v := ?vnezta8) rfl rfl (by kernel_rfl) (by kernel_rfl) (by kernel_rfl) (fun _ _ _ h => h) ⟨Or.inl ⟨by rfl, ?hynezta8⟩, fun _ => rfl⟩ ?restnezta8
       case hynezta8 => (intro w0; go_simp; all_goals with_reducible rfl)
       try simp only [aP, Act.put]
       refine wpAnyIn_take (i := 9) (v := ?vnezta9) rfl rfl (by kernel_rfl) (by kernel_rfl) (by kernel_rfl) (fun _ _ _ h => h) ⟨Or.inl ⟨by rfl, ?hynezta9⟩, fun _ => rfl⟩ ?restnezta9
       case hynezta9 => (intro w0; go_simp; all_goals with_reducible rfl)
       try simp only [aP, Act.put]
       refine wpAnyIn_take (i := 14) (v := ?vnezta14) rfl rfl (by kernel_rfl) (by kernel_rfl) (by kernel_rfl) (fun _ _ _ h => h) ⟨Or.inl ⟨by rfl, ?hynezta14⟩, fun _ => rfl⟩ ?restnezta14
       case hynezta14 => (intro w0; go_simp; all_goals with_reducible rfl)
       try simp only [aP, Act.put]
       refine wpAnyIn_ready (rs := [10, 17]) (by kernel_rfl) (by simp) ?_
       refine AllReadyIn.cons rfl (fun K hK => ?_) (AllReadyIn.cons rfl (fun K hK => ?_) AllReadyIn.nil)
       ·go_simp
        refine hK _ _ ?_
        clear hK K
        try simp only [aP, Act.put]
        refine wpAnyIn_take (i := 11) (v := ?vneztaa11) rfl rfl (by kernel_rfl) (by kernel_rfl) (by kernel_rfl) (fun _ _ _ h => h) ⟨Or.inl ⟨by rfl, ?hyneztaa11⟩, fun _ => rfl⟩ ?restneztaa11
        case hyneztaa11 => (intro w0; go_simp; all_goals with_reducible rfl)
        try simp only [aP, Act.put]
        refine wpAnyIn_take (i := 12) (v := ?vneztaa12) rfl rfl (by kernel_rfl) (by kernel_rfl) (by kernel_rfl) (fun _ _ _ h => h) ⟨Or.inl ⟨by rfl, ?hyneztaa12⟩, fun _ => rfl⟩ ?restneztaa12
        case hyneztaa12 => (intro w0; go_simp; all_goals with_reducible rfl)
        try simp only [aP, Act.put]
        refine wpAnyIn_ready (rs := [13, 17]) (by kernel_rfl) (by simp) ?_
        refine AllReadyIn.cons rfl (fun K hK => ?_) (AllReadyIn.cons rfl (fun K hK => ?_) AllReadyIn.nil)
        ·go_simp
         refine hK _ _ ?_
         clear hK K
         try simp only [aP, Act.put]
         refine wpAnyIn_take (i := 15) (v := ?vneztaaa15) rfl rfl (by kernel_rfl) (by kernel_rfl) (by kernel_rfl) (fun _ _ _ h => h) ⟨Or.inl ⟨by rfl, ?hyneztaaa15⟩, fun _ => rfl⟩ ?restneztaaa15
         case hyneztaaa15 => (intro w0; go_simp; all_goals with_reducible rfl)
         try simp only [aP, Act.put]
         refine wpAnyIn_ready (rs := [16, 17]) (by kernel_rfl) (by simp) ?_
         refine AllReadyIn.cons rfl (fun K hK => ?_) (AllReadyIn.cons rfl (fun K hK => ?_) AllReadyIn.nil)
         ·go_simp
          refine hK _ _ ?_
          clear hK K
          try simp only [aP, Act.put]
          refine wpAnyIn_ready (rs := [17]) (by kernel_rfl) (by simp) ?_
          refine AllReadyIn.cons rfl (fun K hK => ?_) AllReadyIn.nil
          go_simp
          refine hK _ _ ?_
          clear hK K
          try simp only [aP, Act.put]
          refine wpAnyIn_take (i := 18) (v := ?vneztaaaaa18) rfl rfl (by kernel_rfl) (by kernel_rfl) (by kernel_rfl) (fun _ _ _ h => h) ⟨Or.inl ⟨by rfl, ?hyneztaaaaa18⟩, fun _ => rfl⟩ ?restneztaaaaa18
          case hyneztaaaaa18 => (intro w0; go_simp; all_goals with_reducible rfl)
          try simp only [aP, Act.put]
          refine wpAnyIn_ready (rs := [19]) (by kernel_rfl) (by simp) ?_
          refine AllReadyIn.cons rfl (fun K hK => ?_) AllReadyIn.nil
          go_simp
          refine hK _ _ ?_
          clear hK K
          try simp only [aP, Act.put]
          refine wpAnyIn_take (i := 20) (v := ?vneztaaaaaa20) rfl rfl (by kernel_rfl) (by kernel_rfl) (by kernel_rfl) (fun _ _ _ h => h) ⟨Or.inl ⟨by rfl, ?hyneztaaaaaa20⟩, fun _ => rfl⟩ ?restneztaaaaaa20
          case hyneztaaaaaa20 => (intro w0; go_simp; all_goals with_reducible rfl)
          try simp only [aP, Act.put]
          try simp only [rq2]
          refine wpAnyIn_take (i := 21) (v := ?vneztaaaaaa21) rfl rfl (by kernel_rfl) (by kernel_rfl) (by kernel_rfl) (fun _ _ _ h => h) ⟨Or.inl ⟨by rfl, ?hyneztaaaaaa21⟩, fun _ => rfl⟩ ?restneztaaaaaa21
          case hyneztaaaaaa21 => (intro w0; go_simp; all_goals with_reducible rfl)
          try simp only [aP, Act.put]
          refine wpAnyIn_done (by kernel_rfl) ?_ _
          gi_wp2
          refine wpIn_wide.2 ?_
          go_quiet (fail)
          have HI4 := hide (HI3.out.next Hg.out (bdrewN W3 nq))
          have HJ4 : Hid (J (pre ++ [x]) (W3.drewN nq)) := hide (HJs.out _ _ _ HJ3.out (bdrewN W3 nq)).1
          have HK4 : Hid (∀ k, PaK w0 g k → ¬ bad (W3.drewN nq) k) := hide (fun k hk e => HK3.out k hk ((HJs.out _ _ _ HJ3.out (bdrewN W3 nq)).2 k e).1)
          gi_wp2
          go_roundw
          case rel => exact ⟨k, y, pre ++ [x], s + 1, by have := Hk.out; omega, rfl, rfl, by have := Hs.out; omega, hyl, HE, HJ4, HI4, HK4⟩
          case measure => have := Hs.out; have := Hk.out; simp [intOf]; omega
         ·go_simp
          refine hK _ _ ?_
          clear hK K
          try simp only [aP, Act.put]
          refine wpAnyIn_ready (rs := [16]) (by kernel_rfl) (by simp) ?_
          refine AllReadyIn.cons rfl (fun K hK => ?_) AllReadyIn.nil
          go_simp
          refine hK _ _ ?_
          clear hK K
          try simp only [aP, Act.put]
          refine wpAnyIn_take (i := 18) (v := ?vneztaaaba18) rfl rfl (by kernel_rfl) (by kernel_rfl) (by kernel_rfl) (fun _ _ _ h => h) ⟨Or.inl ⟨by rfl, ?hyneztaaaba18⟩, fun _ => rfl⟩ ?restneztaaaba18
          case hyneztaaaba18 => (intro w0; go_simp; all_goals with_reducible rfl)
          try simp only [aP, Act.put]
          refine wpAnyIn_ready (rs := [19]) (by kernel_rfl) (by simp) ?_
          refine AllReadyIn.cons rfl (fun K hK => ?_) AllReadyIn.nil
          go_simp
          refine hK _ _ ?_
          clear hK K
          try simp only [aP, Act.put]
          refine wpAnyIn_take (i := 20) (v := ?vneztaaabaa20) rfl rfl (by kernel_rfl) (by kernel_rfl) (by kernel_rfl) (fun _ _ _ h => h) ⟨Or.inl ⟨by rfl, ?hyneztaaabaa20⟩, fun _ => rfl⟩ ?restneztaaabaa20
          case hyneztaaabaa20 => (intro w0; go_simp; all_goals with_reducible rfl)
          try simp only [aP, Act.put]
          try simp only [rq2]
          refine wpAnyIn_take (i := 21) (v := ?vneztaaabaa21) rfl rfl (by kernel_rfl) (by kernel_rfl) (by kernel_rfl) (fun _ _ _ h => h) ⟨Or.inl ⟨by rfl, ?hyneztaaabaa21⟩, fun _ => rfl⟩ ?restneztaaabaa21
          case hyneztaaabaa21 => (intro w0; go_simp; all_goals with_reducible rfl)
          try simp only [aP, Act.put]
          refine wpAnyIn_done (by kernel_rfl) ?_ _
          gi_wp2
          refine wpIn_wide.2 ?_
          go_quiet (fail)
          have HI4 := hide (HI3.out.next Hg.out (bdrewN W3 nq))
          have HJ4 : Hid (J (pre ++ [x]) (W3.drewN nq)) := hide (HJs.out _ _ _ HJ3.out (bdrewN W3 nq)).1
          have HK4 : Hid (∀ k, PaK w0 g k → ¬ bad (W3.drewN nq) k) := hide (fun k hk e => HK3.out k hk ((HJs.out _ _ _ HJ3.out (bdrewN W3 nq)).2 k e).1)
          gi_wp2
          go_roundw
          case rel => exact ⟨k, y, pre ++ [x], s + 1, by have := Hk.out; omega, rfl, rfl, by have := Hs.out; omega, hyl, HE, HJ4, HI4, HK4⟩
          case measure => have := Hs.out; have := Hk.out; simp [intOf]; omega
        ·go_simp
         refine hK _ _ ?_
         clear hK K
         try simp only [aP, Act.put]
         refine wpAnyIn_ready (rs := [13]) (by kernel_rfl) (by simp) ?_
         refine AllReadyIn.cons rfl (fun K hK => ?_) AllReadyIn.nil
         go_simp
         refine hK _ _ ?_
         clear hK K
         try simp only [aP, Act.put]
         refine wpAnyIn_take (i := 15) (v := ?vneztaaba15) rfl rfl (by kernel_rfl) (by kernel_rfl) (by kernel_rfl) (fun _ _ _ h => h) ⟨Or.inl ⟨by rfl, ?hyneztaaba15⟩, fun _ => rfl⟩ ?restneztaaba15
         case hyneztaaba15 => (intro w0; go_simp; all_goals with_reducible rfl)
         try simp only [aP, Act.put]
         refine wpAnyIn_ready (rs := [16]) (by kernel_rfl) (by simp) ?_
         refine AllReadyIn.cons rfl (fun K hK => ?_) AllReadyIn.nil
         go_simp
         refine hK _ _ ?_
         clear hK K
         try simp only [aP, Act.put]
         refine wpAnyIn_take (i := 18) (v := ?vneztaabaa18) rfl rfl (by kernel_rfl) (by kernel_rfl) (by kernel_rfl) (fun _ _ _ h => h) ⟨Or.inl ⟨by rfl, ?hyneztaabaa18⟩, fun _ => rfl⟩ ?restneztaabaa18
         case hyneztaabaa18 => (intro w0; go_simp; all_goals with_reducible rfl)
         try simp only [aP, Act.put]
         refine wpAnyIn_ready (rs := [19]) (by kernel_rfl) (by simp) ?_
         refine AllReadyIn.cons rfl (fun K hK => ?_) AllReadyIn.nil
         go_simp
         refine hK _ _ ?_
         clear hK K
         try simp only [aP, Act.put]
         refine wpAnyIn_take (i := 20) (v := ?vneztaabaaa20) rfl rfl (by kernel_rfl) (by kernel_rfl) (by kernel_rfl) (fun _ _ _ h => h) ⟨Or.inl ⟨by rfl, ?hyneztaabaaa20⟩, fun _ => rfl⟩ ?restneztaabaaa20
         case hyneztaabaaa20 => (intro w0; go_simp; all_goals with_reducible rfl)
         try simp only [aP, Act.put]
         try simp only [rq2]
         refine wpAnyIn_take (i := 21) (v := ?vneztaabaaa21) rfl rfl (by kernel_rfl) (by kernel_rfl) (by kernel_rfl) (fun _ _ _ h => h) ⟨Or.inl ⟨by rfl, ?hyneztaabaaa21⟩, fun _ => rfl⟩ ?restneztaabaaa21
         case hyneztaabaaa21 => (intro w0; go_simp; all_goals with_reducible rfl)
         try simp only [aP, Act.put]
         refine wpAnyIn_done (by kernel_rfl) ?_ _
         gi_wp2
         refine wpIn_wide.2 ?_
         go_quiet (fail)
         have HI4 := hide (HI3.out.next Hg.out (bdrewN W3 nq))
         have HJ4 : Hid (J (pre ++ [x]) (W3.drewN nq)) := hide (HJs.out _ _ _ HJ3.out (bdrewN W3 nq)).1
         have HK4 : Hid (∀ k, PaK w0 g k → ¬ bad (W3.drewN nq) k) := hide (fun k hk e => HK3.out k hk ((HJs.out _ _ _ HJ3.out (bdrewN W3 nq)).2 k e).1)
         gi_wp2
         go_roundw
         case rel => exact ⟨k, y, pre ++ [x], s + 1, by have := Hk.out; omega, rfl, rfl, by have := Hs.out; omega, hyl, HE, HJ4, HI4, HK4⟩
         case measure => have := Hs.out; have := Hk.out; simp [intOf]; omega
       ·go_simp
        refine hK _ _ ?_
        clear hK K
        try simp only [aP, Act.put]
        refine wpAnyIn_ready (rs := [10]) (by kernel_rfl) (by simp) ?_
        refine AllReadyIn.cons rfl (fun K hK => ?_) AllReadyIn.nil
        go_simp
        refine hK _ _ ?_
        clear hK K
        try simp only [aP, Act.put]
        refine wpAnyIn_take (i := 11) (v := ?vneztaba11) rfl rfl (by kernel_rfl) (by kernel_rfl) (by kernel_rfl) (fun _ _ _ h => h) ⟨Or.inl ⟨by rfl, ?hyneztaba11⟩, fun _ => rfl⟩ ?restneztaba11
        case hyneztaba11 => (intro w0; go_simp; all_goals with_reducible rfl)
        try simp only [aP, Act.put]
        refine wpAnyIn_take (i := 12) (v := ?vneztaba12) rfl rfl (by kernel_rfl) (by kernel_rfl) (by kernel_rfl) (fun _ _ _ h => h) ⟨Or.inl ⟨by rfl, ?hyneztaba12⟩, fun _ => rfl⟩ ?restneztaba12
        case hyneztaba12 => (intro w0; go_simp; all_goals with_reducible rfl)
        try simp only [aP, Act.put]
        refine wpAnyIn_ready (rs := [13]) (by kernel_rfl) (by simp) ?_
        refine AllReadyIn.cons rfl (fun K hK => ?_) AllReadyIn.nil
        go_simp
        refine hK _ _ ?_
        clear hK K
        try simp only [aP, Act.put]
        refine wpAnyIn_take (i := 15) (v := ?vneztabaa15) rfl rfl (by kernel_rfl) (by kernel_rfl) (by kernel_rfl) (fun _ _ _ h => h) ⟨Or.inl ⟨by rfl, ?hyneztabaa15⟩, fun _ => rfl⟩ ?restneztabaa15
        case hyneztabaa15 => (intro w0; go_simp; all_goals with_reducible rfl)
        try simp only [aP, Act.put]
        refine wpAnyIn_ready (rs := [16]) (by kernel_rfl) (by simp) ?_
        refine AllReadyIn.cons rfl (fun K hK => ?_) AllReadyIn.nil
        go_simp
        refine hK _ _ ?_
        clear hK K
        try simp only [aP, Act.put]
        refine wpAnyIn_take (i := 18) (v := ?vneztabaaa18) rfl rfl (by kernel_rfl) (by kernel_rfl) (by kernel_rfl) (fun _ _ _ h => h) ⟨Or.inl ⟨by rfl, ?hyneztabaaa18⟩, fun _ => rfl⟩ ?restneztabaaa18
        case hyneztabaaa18 => (intro w0; go_simp; all_goals with_reducible rfl)
        try simp only [aP, Act.put]
        refine wpAnyIn_ready (rs := [19]) (by kernel_rfl) (by simp) ?_
        refine AllReadyIn.cons rfl (fun K hK => ?_) AllReadyIn.nil
        go_simp
        refine hK _ _ ?_
        clear hK K
        try simp only [aP, Act.put]
        refine wpAnyIn_take (i := 20) (v := ?vneztabaaaa20) rfl rfl (by kernel_rfl) (by kernel_rfl) (by kernel_rfl) (fun _ _ _ h => h) ⟨Or.inl ⟨by rfl, ?hyneztabaaaa20⟩, fun _ => rfl⟩ ?restneztabaaaa20
        case hyneztabaaaa20 => (intro w0; go_simp; all_goals with_reducible rfl)
        try simp only [aP, Act.put]
        try simp only [rq2]
        refine wpAnyIn_take (i := 21) (v := ?vneztabaaaa21) rfl rfl (by kernel_rfl) (by kernel_rfl) (by kernel_rfl) (fun _ _ _ h => h) ⟨Or.inl ⟨by rfl, ?hyneztabaaaa21⟩, fun _ => rfl⟩ ?restneztabaaaa21
        case hyneztabaaaa21 => (intro w0; go_simp; all_goals with_reducible rfl)
        try simp only [aP, Act.put]
        refine wpAnyIn_done (by kernel_rfl) ?_ _
        gi_wp2
        refine wpIn_wide.2 ?_
        go_quiet (fail)
        have HI4 := hide (HI3.out.next Hg.out (bdrewN W3 nq))
        have HJ4 : Hid (J (pre ++ [x]) (W3.drewN nq)) := hide (HJs.out _ _ _ HJ3.out (bdrewN W3 nq)).1
        have HK4 : Hid (∀ k, PaK w0 g k → ¬ bad (W3.drewN nq) k) := hide (fun k hk e => HK3.out k hk ((HJs.out _ _ _ HJ3.out (bdrewN W3 nq)).2 k e).1)
        gi_wp2
        go_roundw
        case rel => exact ⟨k, y, pre ++ [x], s + 1, by have := Hk.out; omega, rfl, rfl, by have := Hs.out; omega, hyl, HE, HJ4, HI4, HK4⟩
        case measure => have := Hs.out; have := Hk.out; simp [intOf]; omega
      ·have HT := hide hT
       clear hT
       refine hK _ _ ?_
       clear hK K
       try simp only [aP, Act.put]
       refine wpAnyIn_take (i := 3) (v := ?vnezf3) rfl rfl (by kernel_rfl) (by kernel_rfl) (by kernel_rfl) (fun _ _ _ h => h) ⟨Or.inl ⟨by rfl, ?hynezf3⟩, fun _ => rfl⟩ ?restnezf3
       case hynezf3 => (intro w0; go_simp; all_goals with_reducible rfl)
       try simp only [aP, Act.put]
       refine wpAnyIn_take (i := 4) (v := ?vnezf4) rfl rfl (by kernel_rfl) (by kernel_rfl) (by kernel_rfl) (fun _ _ _ h => h) ⟨Or.inl ⟨by rfl, ?hynezf4⟩, fun _ => rfl⟩ ?restnezf4
       case hynezf4 => (intro w0; go_simp; all_goals with_reducible rfl)
       try simp only [aP, Act.put]
       refine wpAnyIn_take (i := 5) (v := undef) rfl rfl (by kernel_rfl) (by kernel_rfl) (by kernel_rfl) (fun _ _ _ h => h) ⟨Or.inr ⟨by rfl, rfl⟩, fun _ => rfl⟩ ?_
       try simp only [aP, Act.put]
       refine wpAnyIn_take (i := 6) (v := undef) rfl rfl (by kernel_rfl) (by kernel_rfl) (by kernel_rfl) (fun _ _ _ h => h) ⟨Or.inr ⟨by rfl, rfl⟩, fun _ => rfl⟩ ?_
       try simp only [aP, Act.put]
       refine wpAnyIn_take (i := 7) (v := undef) rfl rfl (by kernel_rfl) (by kernel_rfl) (by kernel_rfl) (fun _ _ _ h => h) ⟨Or.inr ⟨by rfl, rfl⟩, fun _ => rfl⟩ ?_
       try simp only [aP, Act.put]
       refine wpAnyIn_take (i := 8) (v := ?vnezf8) rfl rfl (by kernel_rfl) (by kernel_rfl) (by kernel_rfl) (fun _ _ _ h => h) ⟨Or.inl ⟨by rfl, ?hynezf8⟩, fun _ => rfl⟩ ?restnezf8
       case hynezf8 => (intro w0; go_simp; all_goals with_reducible rfl)
       try simp only [aP, Act.put]
       refine wpAnyIn_take (i := 9) (v := ?vnezf9) rfl rfl (by kernel_rfl) (by kernel_rfl) (by kernel_rfl) (fun _ _ _ h => h) ⟨Or.inl ⟨by rfl, ?hynezf9⟩, fun _ => rfl⟩ ?restnezf9
       case hynezf9 => (intro w0; go_simp; all_goals with_reducible rfl)
       try simp only [aP, Act.put]
       refine wpAnyIn_take (i := 10) (v := undef) rfl rfl (by kernel_rfl) (by kernel_rfl) (by kernel_rfl) (fun _ _ _ h => h) ⟨Or.inr ⟨by rfl, rfl⟩, fun _ => rfl⟩ ?_
       try simp only [aP, Act.put]
       refine wpAnyIn_take (i := 11) (v := undef) rfl rfl (by kernel_rfl) (by kernel_rfl) (by kernel_rfl) (fun _ _ _ h => h) ⟨Or.inr ⟨by rfl, rfl⟩, fun _ => rfl⟩ ?_
       try simp only [aP, Act.put]
       refine wpAnyIn_take (i := 12) (v := undef) rfl rfl (by kernel_rfl) (by kernel_rfl) (by kernel_rfl) (fun _ _ _ h => h) ⟨Or.inr ⟨by rfl, rfl⟩, fun _ => rfl⟩ ?_
       try simp only [aP, Act.put]
       refine wpAnyIn_take (i := 13) (v := undef) rfl rfl (by kernel_rfl) (by kernel_rfl) (by kernel_rfl) (fun _ _ _ h => h) ⟨Or.inr ⟨by rfl, rfl⟩, fun _ => rfl⟩ ?_
       try simp only [aP, Act.put]
       refine wpAnyIn_take (i := 14) (v := undef) rfl rfl (by kernel_rfl) (by kernel_rfl) (by kernel_rfl) (fun _ _ _ h => h) ⟨Or.inr ⟨by rfl, rfl⟩, fun _ => rfl⟩ ?_
       try simp only [aP, Act.put]
       refine wpAnyIn_take (i := 15) (v := undef) rfl rfl (by kernel_rfl) (by kernel_rfl) (by kernel_rfl) (fun _ _ _ h => h) ⟨Or.inr ⟨by rfl, rfl⟩, fun _ => rfl⟩ ?_
       try simp only [aP, Act.put]
       refine wpAnyIn_take (i := 16) (v := undef) rfl rfl (by kernel_rfl) (by kernel_rfl) (by kernel_rfl) (fun _ _ _ h => h) ⟨Or.inr ⟨by rfl, rfl⟩, fun _ => rfl⟩ ?_
       try simp only [aP, Act.put]
       refine wpAnyIn_take (i := 17) (v := undef) rfl rfl (by kernel_rfl) (by kernel_rfl) (by kernel_rfl) (fun _ _ _ h => h) ⟨Or.inr ⟨by rfl, rfl⟩, fun _ => rfl⟩ ?_
       try simp only [aP, Act.put]
       refine wpAnyIn_take (i := 18) (v := undef) rfl rfl (by kernel_rfl) (by kernel_rfl) (by kernel_rfl) (fun _ _ _ h => h) ⟨Or.inr ⟨by rfl, rfl⟩, fun _ => rfl⟩ ?_
       try simp only [aP, Act.put]
       refine wpAnyIn_take (i := 19) (v := undef) rfl rfl (by kernel_rfl) (by kernel_rfl) (by kernel_rfl) (fun _ _ _ h => h) ⟨Or.inr ⟨by rfl, rfl⟩, fun _ => rfl⟩ ?_
       try simp only [aP, Act.put]
       refine wpAnyIn_take (i := 20) (v := undef) rfl rfl (by kernel_rfl) (by kernel_rfl) (by kernel_rfl) (fun _ _ _ h => h) ⟨Or.inr ⟨by rfl, rfl⟩, fun _ => rfl⟩ ?_
       try simp only [aP, Act.put]
       refine wpAnyIn_take (i := 21) (v := ?vnezf21) rfl rfl (by kernel_rfl) (by kernel_rfl) (by kernel_rfl) (fun _ _ _ h => h) ⟨Or.inl ⟨by rfl, ?hynezf21⟩, fun _ => rfl⟩ ?restnezf21
       case hynezf21 => (intro w0; go_simp; all_goals with_reducible rfl)
       try simp only [aP, Act.put]
       refine wpAnyIn_done (by kernel_rfl) ?_ _
       gi_wp2
       refine bodyPost_ret (results_none Tryz.results185 _ _ _) rfl ?_
       exact .inr HT.out
end Go.Proofs.YtgfhcmidnbahjaaGreatDoor
