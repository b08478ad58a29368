/- TopBags: routing.Bounds; compile.formed; slices.Index. TopBags: slices.Index, compile.Groups. The text of a certificate: numbers, a space between two of them; its words, and their values (plain). -/
import Derived.Test.YtgfhcmidnbahjaaGreatDoorJ31
import Derived.Test.YtgfhcmidnbahjaaGreatDoorJ1
import Derived.Lib.SplitLaws
import Derived.Lib.ItoaNum
set_option linter.unusedVariables false
set_option linter.unusedSimpArgs false
namespace Go.Proofs.YtgfhcmidnbahjaaGreatDoor
section
open Go.RowKit Go.Shelf
attribute [local go_sem] Oper.semAt_some run_store_func
set_option maxRecDepth 100000 in
set_option maxHeartbeats 2000000 in
theorem rBounds_c (N : Net) (fr till : Int) (w : World) (R) (hk : KwAt w) (hN : NetAt w N) (hS : soundB N = true) (h1 : 0 ≤ fr) (h2 : fr < till) (h3 : till ≤ 2000000) (h4 : till ≤ fr + 86400)
  (hR : ∀ w' g, Below w.heap.size w w' → MatAt w' (some ⟨g, 0, none⟩) N.offs.length (boundM N (costF N fr till)) → R (.returned (.slice (some ⟨g, 0, none⟩) N.offs.length N.offs.length)) w') :
  Calls Tryz.prog 16 #[.agg N.cells, .int .i64 fr, .int .i64 till] w R := by
 have HR := hide hR; have HN := hide hN; have Hkw := hide hk; have HS := hide hS
 have hsnd := snd_of hS
 have HSn := hide hsnd
 have HC := hide (costR_of hsnd h4 h1)
 obtain ⟨w1, hw1, hb1, k1, hs1⟩ := net_box N w
 have HB1 := hide hb1; have HK1 := hide k1; have Hs1 := hide hs1
 obtain ⟨y0, y1, y2, y3, y4, y5⟩ := k1.net6
 have hno : N.offs.length ≤ 12 := hsnd.noff
 unfold Net.cells at hw1
 clear hR hN hS hk hb1 k1 hs1 hsnd
 unfold Net.cells
 go_enter Tryz.func16, Tryz.ntmps16
 go_wp2_with (go_at_call 65; refine Stop.out ?_)
 refine Stop.go (rUsable_c N fr till w1 _ (Hkw.out.next HB1.out) (HN.out.next HB1.out) HS.out h1 h2 h3 h4 ?_)
 intro w2 hb
 have HB2 := hide hb
 obtain ⟨z0, z1, z2, z3, z4, z5⟩ := (HK1.out.next hb).net6
 clear hb y0 y1 y2 y3 y4 y5 hw1
 have KB : Hid (∀ W', Below w2.heap.size w2 W' → W'.cell? ⟨w.heap.size, 0, none⟩ = some (.slice N.cp N.cals.length N.cc) ∧ W'.cell? ⟨w.heap.size, 1, none⟩ = some (.slice N.np N.names.length N.nc) ∧ W'.cell? ⟨w.heap.size, 2, none⟩ = some (.slice N.op N.oprs.length N.oc) ∧ W'.cell? ⟨w.heap.size, 3, none⟩ = some (.slice N.fp N.offs.length N.fc) ∧ W'.cell? ⟨w.heap.size, 4, none⟩ = some (.slice N.lp N.lins.length N.lc) ∧ W'.cell? ⟨w.heap.size, 5, none⟩ = some (.slice N.kp N.clss.length N.kc)) :=
  hide (fun W' hb => ⟨cell_later hb z0, cell_later hb z1, cell_later hb z2, cell_later hb z3, cell_later hb z4, cell_later hb z5⟩)
 have HKw2 := hide (Hkw.out.next (bseq HB1.out HB2.out)); have HN2 := hide (HN.out.next (bseq HB1.out HB2.out))
 clear z0 z1 z2 z3 z4 z5
 go_wp2
 go_region_held3 (fun W' => W'.cell? ⟨w.heap.size, 0, none⟩ = some (.slice N.cp N.cals.length N.cc) ∧ W'.cell? ⟨w.heap.size, 1, none⟩ = some (.slice N.np N.names.length N.nc) ∧ W'.cell? ⟨w.heap.size, 2, none⟩ = some (.slice N.op N.oprs.length N.oc) ∧ W'.cell? ⟨w.heap.size, 3, none⟩ = some (.slice N.fp N.offs.length N.fc) ∧ W'.cell? ⟨w.heap.size, 4, none⟩ = some (.slice N.lp N.lins.length N.lc) ∧ W'.cell? ⟨w.heap.size, 5, none⟩ = some (.slice N.kp N.clss.length N.kc))
  (first | exact KB.out _ (Below.refl _ _).drew | exact KB.out _ hba | exact KB.out _ hbb)
  (first
  | (go_at_call 67
     refine costs_c N fr till _ _ (HKw2.out.next (Below.refl _ _).drew) (HN2.out.next (Below.refl _ _).drew) HS.out h1 h2 h3 h4 ?_
     intro w3 gc hb3 hrow
     have hba : Below w2.heap.size w2 w3 := bseq (Below.refl _ _).drew hb3)
  | (go_at_call 66
     refine bounds_c N gc (costF N fr till) w3 _ (HN2.out.next hba) HSn.out hrow HC.out ?_
     intro w5 gb hb5 hM
     have hbb : Below w2.heap.size w2 w5 := bseq hba hb5))
 have HF := hide (HR.out _ _ (bseq HB1.out (bseq HB2.out hbb)) (MtO.mat hM))
 clear hbb hba hb3 hb5 hM KB hrow
 go_wp2
 exact HF.out
set_option maxHeartbeats 1000000 in
theorem csquare_c (n : Nat) (f : FuncId) (lb : Array Value) (M : Nat → Nat → Int) (p : Option Addr) (c : Nat) (w : World) (R) (hn : n ≤ 40) (hM : MatAt w p n M) (eg : ∀ args w, (callFunc f args).run Tryz.prog w = .ok (.enter f args) w)
  (ht : ∀ o d W, o < n → d < n → Below w.heap.size w W → ∀ R, (∀ W', Below W.heap.size W W' → R (.returned (.bool true)) W') → Calls Tryz.prog f (#[.int .i64 (o : Int), .int .i64 (M o d)] ++ lb) W R)
  (hR : ∀ w', Below w.heap.size w w' → R (.returned (.bool true)) w') :
  Calls Tryz.prog 128 #[.slice p n c, .int .i64 (n : Int), .func (.func f) #[] lb] w R := by
 have HR := hide hR; have HM := hide hM; have HT := hide ht
 have t0 : ((n : Int) != (n : Int)) = false := by simp
 clear hR hM ht
 go_enter Tryz.func128, Tryz.ntmps128
 go_wp2
 go_loopw [17] (fun si wr => ∃ k : Nat, k ≤ n ∧ si = .int .i64 k ∧ Hid (Below w.heap.size w wr)) (fun si _ => n - (intOf si).toNat)
 case atStart => exact ⟨0, Nat.zero_le _, rfl, hide (Below.refl _ _)⟩
 case round =>
  obtain ⟨k, hk, rfl, HB⟩ := hrel
  by_cases hlt : k < n
  ·obtain ⟨b, bo, b', o', c', hnp, hrw, hcl⟩ := HM.out k hlt
   have Hcl := hide hcl
   have x0 := cell_later HB.out hrw
   have q1 : (0 : Int) ≤ (k : Int) := by omega
   have q2 : (k : Int) < (n : Int) := by omega
   have Hp := hide hnp
   rw [hnp]
   clear hcl hrw hnp
   go_wp2
   clear x0
   go_loopw [28] (fun sj wq => ∃ j : Nat, j ≤ n ∧ sj = .int .i64 j ∧ Hid (Below w.heap.size w wq)) (fun sj _ => n - (intOf sj).toNat)
   case atStart => exact ⟨0, Nat.zero_le _, rfl, HB⟩
   case round =>
    clear HB
    obtain ⟨j, hj, rfl, HB⟩ := hrel
    by_cases hlj : j < n
    ·have c0 := cell_later HB.out (Hcl.out j hlj)
     have q3 : (0 : Int) ≤ (j : Int) := by omega
     have q4 : (j : Int) < (n : Int) := by omega
     have HK := hide (HT.out k j wr hlt hlj HB.out)
     go_wp2
     refine HK.out _ (fun W' hb => ?_)
     have HB2 := hide (bseq HB.out hb)
     clear hb c0
     go_wp2
     go_roundw
     case rel => exact ⟨j + 1, by omega, by go_num, HB2⟩
     case measure => simp [intOf]; omega
    ·have q3 : ¬ (j : Int) < (n : Int) := by omega
     go_wp2
     go_roundw
     case rel => exact ⟨k + 1, by omega, by go_num, HB⟩
     case measure => simp [intOf]; omega
  ·have q1 : ¬ (k : Int) < (n : Int) := by omega
   have HE := hide (HR.out _ HB.out)
   go_wp2
   exact HE.out
set_option maxRecDepth 100000 in
theorem cline_c (N : Net) (gn o : Nat) (x : Int) (w : World) (R) (hN : NetAt w N) (hg : Blk w gn N.cells 29) (hx : x = -1 ∨ (0 ≤ x ∧ x < N.lins.length ∧ (linOf N x).src = o)) (hR : R (.returned (.bool true)) w) :
  Calls Tryz.prog 126 #[.int .i64 (o : Int), .int .i64 x, .pointer (some ⟨gn, 0, none⟩)] w R := by
 have HR := hide hR
 have y4 := hg.net6.2.2.2.2.1
 clear hR hg
 rcases hx with rfl | ⟨h1, h2, h3⟩
 ·go_enter Tryz.func126, Tryz.ntmps126
  go_wp2
  all_goals
   try refine ⟨(fun f e => by cases e), ?_⟩
   try apply_assumption
   try go_wp2
  all_goals exact HR.out
 ·obtain ⟨i, rfl⟩ : ∃ i : Nat, x = (i : Int) := ⟨x.toNat, by omega⟩
  have hi : i < N.lins.length := by omega
  obtain ⟨b1, o1, l, hp1, hl', hlr, l0, l1, l2, l3, l4, l5⟩ := hN.lin_ hi
  have hls : l.src = (o : Int) := by rw [← h3]; unfold linOf; rw [show ((i : Int)).toNat = i by omega, getD_some hl']
  rw [hls] at l1
  rw [hp1] at y4
  have t2 : ((i : Int) == (-1 : Int)) = false := by simp
  have q1 : (0 : Int) ≤ (i : Int) := by omega
  have q2 : (i : Int) < (N.lins.length : Int) := by omega
  clear hl' hlr l0 l2 l3 l4 l5 hls h3
  go_enter Tryz.func126, Tryz.ntmps126
  go_wp2
  exact HR.out
theorem cpromised_c (o x : Int) (w : World) (R) (h : -1 ≤ x ∧ x ≤ 65518) (hR : R (.returned (.bool true)) w) : Calls Tryz.prog 127 #[.int .i64 o, .int .i64 x] w R := by
 have HR := hide hR
 obtain ⟨h1, h2⟩ := h
 clear hR
 go_enter Tryz.func127, Tryz.ntmps127
 go_wp2
 exact HR.out
set_option maxRecDepth 100000 in
set_option maxHeartbeats 2000000 in
theorem cformed_c (N : Net) (P : Pln) (nx : Nat → Nat → Int) (C : Cube) (w : World) (R) (hN : NetAt w N) (hSn : Snd N) (hM : MatAt w P.np N.offs.length nx) (hF : Formed N nx) (hC : CubeAt w P.dp N.clss.length N.offs.length C)
  (hnn : P.nn = N.offs.length) (hdn : P.dn = N.clss.length) (hCr : ∀ k o d, -1 ≤ C k o d ∧ C k o d ≤ 65518) (hd : daysOk P.fr P.till = true)
  (hR : ∀ w', Below w.heap.size w w' → R (.returned (.bool true)) w') :
  Calls Tryz.prog 62 #[.agg N.cells, .agg P.cells.toArray] w R := by
 have HR := hide hR; have HN := hide hN; have HM := hide hM; have HF := hide hF; have HC := hide hC; have HSn := hide hSn; have HCr := hide hCr
 obtain ⟨w1, hw1⟩ : ∃ w1, (w.alloc (.cells N.cells 29)).alloc (.cells P.cells.toArray 39) = w1 := ⟨_, rfl⟩
 have hb1 : Below w.heap.size w w1 := hw1 ▸ balloc (balloc (Below.refl _ _) _) _
 have kN : Blk w1 w.heap.size N.cells 29 := by rw [← hw1]; exact Blk.alloc (Blk.new _ _ _) _
 have kP : Blk w1 (w.heap.size + 1) P.cells.toArray 39 := by rw [← hw1]; exact Blk.new_at (by simp)
 have HB1 := hide hb1; have HKN := hide kN; have HKP := hide kP
 have x0 := kP.cell (k := 0) (v := .int .i64 P.fr) rfl; have x1 := kP.cell (k := 1) (v := .int .i64 P.till) rfl; have x2 := kP.cell (k := 2) (v := .slice P.np P.nn P.nc) rfl; have x3 := kP.cell (k := 3) (v := .slice P.dp P.dn P.dc) rfl
 have y3 := kN.net6.2.2.2.1
 have y5 := kN.net6.2.2.2.2.2
 rw [hnn] at x2; rw [hdn] at x3
 have Hdn := hide hdn
 clear hnn hdn
 have hno := hSn.noff
 have hnk := hSn.ncls
 have t1 : ((N.clss.length : Int) != (N.clss.length : Int)) = false := by simp
 have hmf : ∀ (fn : Fn) (first cap : Array Value) (w : World), (Instr.makeFunc fn first cap).run Tryz.prog w = .ok (.func fn first cap) w := fun _ _ _ _ => rfl
 have Hd := hide hd
 unfold Net.cells Pln.cells at hw1
 clear hR hN hM hF hC hSn hCr hb1 kN kP hd
 unfold Net.cells Pln.cells
 go_enter Tryz.func62, Tryz.ntmps62
 go_wp2_with (go_at_call 108; refine Stop.out ?_)
 clear hw1
 refine Stop.go (cdays_c P.fr P.till _ _ ?_)
 rw [Hd.out]
 go_wp2_with (go_at_call 128; refine Stop.out ?_)
 refine Stop.go (csquare_c N.offs.length 126 _ nx P.np P.nc w1 _ (by omega) (HM.out.next HB1.out) (enters_of Tryz.func126 (by kernel_rfl) rfl) (fun o d W ho hd hb3 R' hR' => cline_c N w.heap.size o (nx o d) W R' (HN.out.next (bseq HB1.out hb3)) (HKN.out.next hb3) (HF.out o d ho hd) (hR' W (Below.refl _ _))) ?_)
 intro w2 hb
 have HB2 := hide (bseq HB1.out hb)
 have HKN2 := hide (HKN.out.next hb); have HKP2 := hide (HKP.out.next hb)
 clear hb x0 x1 x2 x3 y3 y5 HKN HKP HB1
 have x3 := HKP2.out.cell (k := 3) (v := .slice P.dp P.dn P.dc) rfl
 rw [Hdn.out] at x3
 go_wp2
 clear x3
 go_loopw [38] (fun si wr => ∃ k : Nat, k ≤ N.clss.length ∧ si = .int .i64 k ∧ Hid (Below w2.heap.size w2 wr)) (fun si _ => N.clss.length - (intOf si).toNat)
 case atStart => exact ⟨0, Nat.zero_le _, rfl, hide (Below.refl _ _)⟩
 case round =>
  obtain ⟨k, hk, rfl, HB⟩ := hrel
  by_cases hlt : k < N.clss.length
  ·obtain ⟨b, bo, q, cq, hdp, hrw, hm⟩ := HC.out k hlt
   have Hm := hide hm
   have x0 := cell_later (bseq HB2.out HB.out) hrw
   have y3 := (HKN2.out.next HB.out).net6.2.2.2.1
   have q1 : (0 : Int) ≤ (k : Int) := by omega
   have q2 : (k : Int) < (N.clss.length : Int) := by omega
   rw [hdp]
   clear hm hrw hdp
   go_wp2_with (go_at_call 128; refine Stop.out ?_)
   refine Stop.go (csquare_c N.offs.length 127 _ (C k) q cq wr _ (by omega) (Hm.out.next (bseq HB2.out HB.out)) (enters_of Tryz.func127 (by kernel_rfl) rfl) (fun o d W ho hd hb3 R' hR' => cpromised_c o (C k o d) W R' (HCr.out k o d) (hR' W (Below.refl _ _))) ?_)
   intro W' hb
   have HB3 := hide (bseq HB.out hb)
   clear hb x0 y3
   go_wp2
   go_roundw
   case rel => exact ⟨k + 1, by omega, by go_num, HB3⟩
   case measure => simp [intOf]; omega
  ·have q1 : ¬ (k : Int) < (N.clss.length : Int) := by omega
   have HE := hide (HR.out _ (bseq HB2.out HB.out))
   go_wp2
   exact HE.out
end
section
open Go.RowKit Go.Shelf
attribute [local go_sem] Oper.semAt_some run_store_func
def idxF (v : Int) : List Int → Int
 | [] => -1
 | x :: l => if v = x then 0 else if idxF v l = -1 then -1 else idxF v l + 1
theorem idxF_ge (v : Int) : ∀ l, -1 ≤ idxF v l ∧ idxF v l < l.length
 | [] => by simp [idxF]
 | x :: l => by
  have := idxF_ge v l
  rw [idxF, List.length_cons]
  split
  ·omega
  ·split <;> omega
theorem idxF_skip {v : Int} {l : List Int} {k : Nat} {x : Int} (h : l[k]? = some x) (hne : v ≠ x) (hk : ∀ (j : Nat) (y : Int), j < k → l[j]? = some y → v ≠ y) : ∀ (j : Nat) (y : Int), j < k + 1 → l[j]? = some y → v ≠ y := fun j y hj hy => by
 by_cases e : j = k
 ·subst e; rw [h] at hy; injection hy with hy; subst hy; exact hne
 ·exact hk j y (by omega) hy
theorem idxF_hit {v : Int} : ∀ {l : List Int} {k : Nat}, l[k]? = some v → (∀ (j : Nat) (y : Int), j < k → l[j]? = some y → v ≠ y) → idxF v l = (k : Int)
 | [], k, h, _ => by cases h
 | x :: l, 0, h, _ => by simp at h; rw [idxF, if_pos h.symm]; rfl
 | x :: l, k + 1, h, hk => by
  rw [idxF, if_neg (hk 0 x (by omega) rfl)]
  have := idxF_hit (l := l) (k := k) (by simpa using h) (fun j y hj hy => hk (j + 1) y (by omega) (by simpa using hy))
  rw [this, if_neg (by omega)]; omega
theorem idxF_none {v : Int} : ∀ {l : List Int}, (∀ (j : Nat) (y : Int), l[j]? = some y → v ≠ y) → idxF v l = -1
 | [], _ => rfl
 | x :: l, h => by
  rw [idxF, if_neg (h 0 x rfl), idxF_none (l := l) (fun j y hy => h (j + 1) y (by simpa using hy)), if_pos rfl]
set_option maxRecDepth 100000 in
set_option maxHeartbeats 1000000 in
theorem index_c (xs : List Int) (p : Option Addr) (c : Nat) (v : Int) (w : World) (R : Ending → World → Prop) (hx : IntsAt .i64 w p xs) (hl : xs.length ≤ 1000000) (hR : R (.returned (.int .i64 (idxF v xs))) w) :
  Calls Tryz.prog 64 #[.slice p xs.length c, .int .i64 v] w R := by
 have HR := hide hR; have HX := hide hx
 clear hR hx
 go_enter Tryz.func64, Tryz.ntmps64
 go_wp2
 go_loopw [8] (fun si wr => ∃ k : Nat, k ≤ xs.length ∧ si = .int .i64 k ∧ Hid (∀ (j : Nat) (y : Int), j < k → xs[j]? = some y → v ≠ y) ∧ wr = w) (fun si _ => xs.length - (intOf si).toNat)
 case atStart => exact ⟨0, Nat.zero_le _, rfl, hide (fun j y hj _ => absurd hj (by omega)), rfl⟩
 case round =>
  obtain ⟨k, hk, rfl, HN, rfl⟩ := hrel
  by_cases hlt : k < xs.length
  ·obtain ⟨b, o, x, hp, hxx, c0⟩ := HX.out.at_ (i := k) hlt
   have Hxx := hide hxx
   have q1 : (0 : Int) ≤ (k : Int) := by omega
   have q2 : (k : Int) < (xs.length : Int) := by omega
   subst hp
   clear hxx
   by_cases hvx : v = x
   ·subst hvx
    have HF : Hid (R (.returned (.int .i64 (k : Int))) wr) := hide (by have := HR.out; rwa [idxF_hit Hxx.out HN.out] at this)
    have t1 : (v == v) = true := by simp
    go_wp2
    exact HF.out
   ·have HN2 := hide (idxF_skip Hxx.out hvx HN.out)
    have t1 : (v == x) = false := by simpa using hvx
    clear hvx
    go_wp2
    go_roundw
    case rel => exact ⟨k + 1, by omega, by go_num, HN2, trivial⟩
    case measure => simp [intOf]; omega
  ·have q1 : ¬ (k : Int) < (xs.length : Int) := by omega
   have HF : Hid (R (.returned (.int .i64 (-1))) wr) := hide (by
    have := HR.out
    rwa [idxF_none (fun j y hy => HN.out j y (by have := (List.getElem?_eq_some_iff.1 hy).1; omega) hy)] at this)
   go_wp2
   exact HF.out
def ofF (f : Nat → Int) (o : Nat) (G : List Int) (d : Nat) : Int := if d = o then 0 else if f d = -1 then -1 else idxF (f d) G
structure GrP (W : World) (N : Net) (P : Pln) (nx : Mat) (C : Cube) : Prop where
 kw : KwAt W
 net : NetAt W N
 snd : soundB N = true
 next : MatAt W P.np N.offs.length nx
 days : CubeAt W P.dp N.clss.length N.offs.length C
 form : Formed N nx
 nn : P.nn = N.offs.length
 dn : P.dn = N.clss.length
 cr : ∀ k o d, -1 ≤ C k o d ∧ C k o d ≤ 65518
 ok : daysOk P.fr P.till = true
theorem GrP.step {W W' : World} {N : Net} {P : Pln} {nx : Mat} {C : Cube} (h : GrP W N P nx C) (hb : Below W.heap.size W W') : GrP W' N P nx C :=
 ⟨h.kw.next hb, h.net.next hb, h.snd, h.next.next hb, h.days.next hb, h.form, h.nn, h.dn, h.cr, h.ok⟩
set_option maxRecDepth 100000 in
set_option maxHeartbeats 4000000 in
theorem groups_c (N : Net) (P : Pln) (nx : Mat) (C : Cube) (o : Nat) (w : World) (R : Ending → World → Prop) (hP : GrP w N P nx C) (ho : o < N.offs.length)
  (hR : ∀ w' q cq g ss, Below w.heap.size w w' → List.Perm ss (setL (usedL nx N.offs.length o)) → IntsAt .i64 w' q ((-1) :: ss.mergeSort (fun x y => decide (x ≤ y))) → IntsAt .i64 w' (some ⟨g, 0, none⟩) ((List.range N.offs.length).map (ofF (nx o) o ((-1) :: ss.mergeSort (fun x y => decide (x ≤ y))))) →
   R (.returned (.tuple #[.slice q (ss.length + 1) cq, .slice (some ⟨g, 0, none⟩) N.offs.length N.offs.length])) w') :
  Calls Tryz.prog 15 #[.agg N.cells, .agg P.cells.toArray, .int .i64 (o : Int)] w R := by
 have HR := hide hR; have HP := hide hP
 obtain ⟨w1, hw1⟩ : ∃ w1, (w.alloc (.cells N.cells 29)).alloc (.cells P.cells.toArray 39) = w1 := ⟨_, rfl⟩
 have hb1 : Below w.heap.size w w1 := hw1 ▸ balloc (balloc (Below.refl _ _) _) _
 have kN : Blk w1 w.heap.size N.cells 29 := by rw [← hw1]; exact Blk.alloc (Blk.new _ _ _) _
 have kP : Blk w1 (w.heap.size + 1) P.cells.toArray 39 := by rw [← hw1]; exact Blk.new_at (by simp)
 have HB1 := hide hb1; have HKN := hide kN; have HKP := hide kP
 obtain ⟨y0, y1, y2, y3, y4, y5⟩ := kN.net6
 have hno := (snd_of hP.snd).noff
 have q1 : ¬ ((o : Int) < 0) := by omega
 have q2 : ¬ ((N.offs.length : Int) ≤ (o : Int)) := by omega
 unfold Net.cells Pln.cells at hw1
 clear hR hP hb1 kN kP
 unfold Net.cells Pln.cells
 go_enter Tryz.func15, Tryz.ntmps15
 go_wp2_with (go_at_call 61; refine Stop.out ?_)
 clear hw1
 refine Stop.go (csound_c N w1 _ (HP.out.step HB1.out).kw (HP.out.step HB1.out).net (fun W' hb => ?_))
 rw [HP.out.snd]
 have HB2 := hide (bseq HB1.out hb)
 obtain ⟨z0, z1, z2, z3, z4, z5⟩ := (HKN.out.next hb).net6
 have hkp := HKP.out.next hb
 have p0 := hkp.cell (k := 0) (v := .int .i64 P.fr) rfl; have p1 := hkp.cell (k := 1) (v := .int .i64 P.till) rfl; have p2 := hkp.cell (k := 2) (v := .slice P.np P.nn P.nc) rfl; have p3 := hkp.cell (k := 3) (v := .slice P.dp P.dn P.dc) rfl
 have HKN2 := hide (HKN.out.next hb); have HKP2 := hide hkp
 clear hb hkp y0 y1 y2 y3 y4 y5 HKN HKP
 go_wp2_with (go_at_call 62; refine Stop.out ?_)
 have hP2 := HP.out.step HB2.out
 have hcall := cformed_c N P nx C W' 
 unfold Net.cells Pln.cells at hcall
 refine Stop.go (hcall _ hP2.net (snd_of hP2.snd) hP2.next hP2.form hP2.days hP2.nn hP2.dn hP2.cr hP2.ok ?_)
 intro W3 hb
 have HB3 := hide (bseq HB2.out hb); have HKN3 := hide (HKN2.out.next hb); have HKP3 := hide (HKP2.out.next hb)
 clear hb hP2 hcall z0 z1 z2 z3 z4 z5 p0 p1 p2 p3 HKN2 HKP2
 obtain ⟨W4, hw4⟩ : ∃ W4, W3.alloc (.cells #[.int .i64 (-1)] 3) = W4 := ⟨_, rfl⟩
 have hb4 : Below W3.heap.size W3 W4 := hw4 ▸ balloc (Below.refl _ _) _
 have ho4 : W4.ownsRow W3.heap.size 3 1 (.slice (some ⟨W3.heap.size, 0, none⟩) 1 1) 1 [.int .i64 (-1)] := hw4 ▸ World.ownsRow_lit _ #[.int .i64 (-1)] 1 (Nat.le_refl _) (by decide) rfl
 have HB4 := hide (bseq HB3.out hb4); have HKN4 := hide (HKN3.out.next hb4); have HKP4 := hide (HKP3.out.next hb4); have HO4 := hide ho4
 have p0 := HKP4.out.cell (k := 0) (v := .int .i64 P.fr) rfl; have p1 := HKP4.out.cell (k := 1) (v := .int .i64 P.till) rfl; have p2 := HKP4.out.cell (k := 2) (v := .slice P.np P.nn P.nc) rfl; have p3 := HKP4.out.cell (k := 3) (v := .slice P.dp P.dn P.dc) rfl
 have hb0 := HB3.out.size
 have hb00 : w.heap.size + 1 < W3.heap.size := HKP3.out.lt
 clear hb4 ho4 HKN3 HKP3 HB3
 go_wp2_with (go_at_call 63; refine Stop.out ?_)
 clear hw4
 have hP4 := HP.out.step HB4.out
 obtain ⟨b, bo, b', o', c', hnp, hrw, hcl⟩ := hP4.next o ho
 have hcall := lines_c P o b bo b' o' (nx o) W4
 unfold Pln.cells at hcall
 have hf : ∀ j, j < P.nn → -1 ≤ nx o j ∧ nx o j ≤ 1000 := fun j hj => by
  have := hP4.form o j ho (by rw [← hP4.nn]; exact hj)
  have := (snd_of hP4.snd).nlin
  omega
 refine Stop.go (hcall _ hnp ⟨c', by rw [hP4.nn]; exact hrw⟩ (by rw [hP4.nn]; exact hcl) (by rw [hP4.nn]; exact hno) (by rw [hP4.nn]; exact ho) hf ?_)
 intro W5 q cq ss hss hown hb
 have hnn : P.nn = N.offs.length := hP4.nn
 have hss2 : ss.Perm (setL (usedL nx N.offs.length o)) := by
  have e : usedL nx P.nn o = (rowL (nx o) o P.nn).filter (fun l => !decide (l = -1)) := rfl
  rw [← hnn, e]; exact hss
 have hsl : ss.length ≤ 12 := by
  have h1 := hss.length_eq
  have h3 := setL_len ((rowL (nx o) o P.nn).filter fun l => !decide (l = -1))
  have h4 := List.length_filter_le (fun l => !decide (l = -1)) (rowL (nx o) o P.nn)
  have h5 := rowL_len (nx o) o P.nn
  omega
 obtain ⟨G, hG⟩ : ∃ G, ss.mergeSort (fun x y => decide (x ≤ y)) = G := ⟨_, rfl⟩
 have hGl : G.length = ss.length := by rw [← hG]; exact List.length_mergeSort _
 have hown' : W5.ownsRow W4.heap.size 3 1 (.slice q ss.length cq) ss.length (G.map (Value.int .i64)) := by rw [← hG]; exact hown
 have hsrc : Src W5 q ss.length 1 (G.map (Value.int .i64)) := Src.ints hGl (IntsAt.of_own (l := G) hown')
 have HF := hide (fun w' q cq g hb h1 h2 => HR.out w' q cq g ss hb hss2 (by rw [hG]; exact h1) (by rw [hG]; exact h2))
 have HSr := hide hsrc; have HGl := hide hGl; have Hsl := hide hsl
 have HB5 := hide (bseq HB4.out hb); have HKP5 := hide (HKP4.out.next hb); have HO5 := hide (own_below HO4.out hb); have HKN5 := hide (HKN4.out.next hb)
 have hgw : W3.heap.size < W5.heap.size := (HO5.out.lt _ rfl).2
 have hb01 : w.heap.size + 1 < W3.heap.size := hb00
 clear hss hown hb hss2 hG hown' hsrc hcall hnp hrw hcl hf hP4 HR p0 p1 p2 p3 HB4 HKP4 HO4 HKN4
 obtain ⟨i0, hi0, hz0, hz1, hz2⟩ := info_parts infoI2
 go_wp2_with (at_builtin; refine Stop.out ?_)
 refine Stop.go ?_
 refine wpList_app _ rfl (.tmp 32) (.tmp 35) 40 rfl W3.heap.size 3 i0 _ 1 8 Tryz.underlying40 hi0 hz0 hz1 hz2 rfl (by omega) (.slice (some ⟨W3.heap.size, 0, none⟩) 1 1) 1 _ rfl HO5.out q ss.length cq (G.map (Value.int .i64)) rfl HSr.out (ints_oneCell .i64 G) (by have := Hsl.out; unfold maxLen; omega) (by have := Hsl.out; omega) (Nat.le_of_lt hgw) ?_
 intro v6 W6 hown6 hg6
 have hb6 : Below w.heap.size w W6 := HB5.out.grown hg6 HB5.out.size (fun k hk => by injection hk with hk; rw [← hk]; exact hb0)
 have hkp6 := HKP5.out.grown hg6 (fun e => by injection e with e; simp only at e; omega)
 have hkn6 := HKN5.out.grown hg6 (fun e => by injection e with e; simp only at e; omega)
 obtain ⟨q6, c6, hv6, _⟩ := own_val hown6
 subst hv6
 have hi6 : IntsAt .i64 W6 q6 ((-1) :: G) := IntsAt.of_own (l := (-1) :: G) hown6
 obtain ⟨y0, y1, y2, y3, y4, y5⟩ := hkn6.net6
 have hgs := hg6.size
 obtain ⟨cs, hcs, hmk⟩ := mkInts W6 N.offs.length (by omega)
 obtain ⟨W7, hw7⟩ : ∃ W7, W6.alloc (.cells cs 3) = W7 := ⟨_, rfl⟩
 rw [hw7] at hmk
 have hb7 : Below W6.heap.size W6 W7 := hw7 ▸ balloc (Below.refl _ _) _
 have k7 : Blk W7 W6.heap.size cs 3 := hw7 ▸ Blk.new _ _ _
 have HB7 := hide (bseq hb6 hb7); have HKP7 := hide (hkp6.next hb7); have HI6 := hide hi6; have HB67 := hide hb7
 have HRw : Hid (RwI W6.heap.size N.offs.length (ofF (nx o) o ((-1) :: G)) 0 W7) := hide ⟨cs, k7, hcs, fun j hj => absurd hj (by omega)⟩
 have hnp6 : P.nn = N.offs.length := HP.out.nn
 obtain ⟨b, bo, b', o', c', hnp, hrw0, hcl⟩ := HP.out.next o ho
 have hrw := cell_later HB7.out hrw0
 have p2 := HKP7.out.cell (k := 2) (v := .slice P.np P.nn P.nc) rfl
 rw [hnp, hnp6] at p2
 have HCl := hide (show RowAt w b' o' N.offs.length (nx o) from hcl)
 have q3 : (o : Int) < (N.offs.length : Int) := by omega
 have q4 : (0 : Int) ≤ (o : Int) := by omega
 clear hrw0 hb6 hkp6 hkn6 hi6 hb7 k7 hcs hw7 hcl hnp6 hnp hown6 hg6 HB5 HKP5 HKN5 HO5 HSr hi0 hz0 hz1 hz2
 go_wp2
 go_loopw [47] (fun si wr => ∃ k : Nat, k ≤ N.offs.length ∧ si = .int .i64 k ∧ Hid (RwI W6.heap.size N.offs.length (ofF (nx o) o ((-1) :: G)) k wr) ∧ Hid (Below W6.heap.size W7 wr)) (fun si _ => N.offs.length - (intOf si).toNat)
 case atStart => exact ⟨0, Nat.zero_le _, rfl, HRw, hide (Below.refl _ _)⟩
 case round =>
  clear HRw
  obtain ⟨k, hk, rfl, HRw, HB⟩ := hrel
  have hbk : Below w.heap.size w wr := HB7.out.trans (HB.out.mono (Nat.le_trans hb0 (Nat.le_trans (Nat.le_of_lt hgw) hgs)))
  by_cases hlt : k < N.offs.length
  ·obtain ⟨⟨v, hv⟩, hfz⟩ := HRw.out.here hlt
   have c0 := cell_later hbk (HCl.out k hlt)
   have HBk := hide hbk
   have r5 : (0 : Int) ≤ (k : Int) := by omega
   have r6 : (k : Int) < (N.offs.length : Int) := by omega
   clear hbk
   obtain ⟨x, hx⟩ : ∃ x, nx o k = x := ⟨_, rfl⟩
   rw [hx] at c0
   have HX := hide hx
   clear hx
   have HP2 : ∀ y, y = ofF (nx o) o ((-1) :: G) k → Hid (RwI W6.heap.size N.offs.length (ofF (nx o) o ((-1) :: G)) (k + 1) (wr.setCell ⟨W6.heap.size, k, none⟩ (.int .i64 y))) := fun y hy => hide (HRw.out.put hlt hy)
   have HB2 : ∀ y, Hid (Below W6.heap.size W7 (wr.setCell ⟨W6.heap.size, k, none⟩ y)) := fun y => hide (HB.out.setCell (p := ⟨W6.heap.size, k, none⟩) (Nat.le_refl _) y)
   have HP2 := hide HP2; have HB2 := hide HB2
   by_cases hko : k = o
   ·have HR0 := HP2.out 0 (by unfold ofF; rw [if_pos hko])
    have HB0 := HB2.out (.int .i64 0)
    have t1 : ((k : Int) == (o : Int)) = true := by simp; omega
    clear hko
    go_wp2
    go_roundw
    case rel => exact ⟨k + 1, by omega, by go_num, HR0, HB0⟩
    case measure => simp [intOf]; omega
   ·have t1 : ((k : Int) == (o : Int)) = false := by simp; omega
    have HKo := hide hko
    clear hko
    by_cases hx : x = -1
    ·have HR0 := HP2.out (-1) (by unfold ofF; rw [if_neg HKo.out, HX.out, if_pos hx])
     have HB0 := HB2.out (.int .i64 (-1))
     have t2 : (x == (-1 : Int)) = true := by simpa using hx
     clear hx
     go_wp2
     go_roundw
     case rel => exact ⟨k + 1, by omega, by go_num, HR0, HB0⟩
     case measure => simp [intOf]; omega
    ·have HR0 := HP2.out (idxF x ((-1) :: G)) (by unfold ofF; rw [if_neg HKo.out, HX.out, if_neg hx])
     have HB0 := HB2.out (.int .i64 (idxF x ((-1) :: G)))
     have t2 : (x == (-1 : Int)) = false := by simpa using hx
     clear hx
     go_wp2_with (go_at_call 64; refine Stop.out ?_)
     have hcall := index_c ((-1) :: G) q6 c6 x wr
     rw [List.length_cons, HGl.out, Nat.add_comm ss.length 1] at hcall
     refine Stop.go (hcall _ (HI6.out.keep (Keeps.of_below (HB67.out.trans HB.out))) (by have := Hsl.out; omega) ?_)
     clear hcall
     go_wp2
     go_roundw
     case rel => exact ⟨k + 1, by omega, by go_num, HR0, HB0⟩
     case measure => simp [intOf]; omega
  ·obtain rfl : k = N.offs.length := by omega
   have r5 : ¬ (N.offs.length : Int) < (N.offs.length : Int) := by omega
   have hof : IntsAt .i64 wr (some ⟨W6.heap.size, 0, none⟩) ((List.range N.offs.length).map (ofF (nx o) o ((-1) :: G))) := fun _ => by
    refine ⟨W6.heap.size, 0, rfl, fun j x hx => ?_⟩
    have hj : j < N.offs.length := by have := (List.getElem?_eq_some_iff.1 hx).1; simpa using this
    rw [List.getElem?_map, List.getElem?_range hj] at hx
    injection hx with hx
    rw [← hx]
    exact HRw.out.row j hj
   have HE := hide (HF.out wr q6 c6 W6.heap.size hbk (HI6.out.keep (Keeps.of_below (HB67.out.trans HB.out))) hof)
   clear hof hbk
   go_wp2
   rw [Nat.add_comm 1 ss.length]
   exact HE.out
end
section
open Go.RowKit
def numVal (l : List UInt8) : Nat := l.foldl (fun v c => v * 10 + (c.toNat - 48)) 0
def digB (c : UInt8) : Bool := decide (48 ≤ c.toNat) && decide (c.toNat ≤ 57)
structure NumOk (l : List UInt8) : Prop where
 one : 1 ≤ l.length
 five : l.length ≤ 5
 lead : 1 < l.length → l[0]? ≠ some 48
 dig : ∀ c ∈ l, 48 ≤ c.toNat ∧ c.toNat ≤ 57
def textL (w0 : List UInt8) (ws : List (List UInt8)) : List UInt8 := w0 ++ ws.flatMap (fun w => 32 :: w)
theorem bytes_ext {a b : ByteArray} (h : a.data.toList = b.data.toList) : a = b := by
 cases a; cases b; congr 1; exact Array.toList_inj.1 h
def certT (sl : Nat) (xs : List Nat) : ByteArray := ⟨(textL (Lib.decDigits sl) (xs.map Lib.decDigits)).toArray⟩
end
end Go.Proofs.YtgfhcmidnbahjaaGreatDoor
