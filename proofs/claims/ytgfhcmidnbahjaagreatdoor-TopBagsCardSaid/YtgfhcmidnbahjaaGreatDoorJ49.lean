/- TopBags: the walk (under way). The frame of a law's row: arguments opened to plain lists, and the row's last step from 'true, and nothing that was there has turned'. -/
import Derived.Test.YtgfhcmidnbahjaaGreatDoorJ39
import Derived.Test.YtgfhcmidnbahjaaGreatDoorJ43
import Derived.Test.YtgfhcmidnbahjaaGreatDoorJ44
import Derived.Test.YtgfhcmidnbahjaaGreatDoorJ45
import Derived.Test.YtgfhcmidnbahjaaGreatDoorJ46
import Derived.Test.YtgfhcmidnbahjaaGreatDoorJ47
import Derived.Test.YtgfhcmidnbahjaaGreatDoorJ48
import Derived.Test.YtgfhcmidnbahjaaGreatDoorRows
import Derived.Test.YtgfhcmidnbahjaaGreatDoorJ1
import Derived.ProofKit
import Derived.OpenShut
import Derived.ShutString
import Derived.ChangeOld
import Derived.Deep.Slices
import Derived.Deep.Fields
set_option linter.unusedVariables false
set_option linter.unusedSimpArgs false
namespace Go.Proofs.YtgfhcmidnbahjaaGreatDoor
section
open Go.RowKit Go.Shelf
attribute [local go_sem] Oper.semAt_some run_store_func
structure TgI (w : World) (N : Net) (W : World) : Prop where
 below : Below w.heap.size w W
 n : Blk W w.heap.size N.cells 29
 nn : NetAt W N
theorem TgI.next {w : World} {N : Net} {W W' : World} (h : TgI w N W) (hb : Below W.heap.size W W') : TgI w N W' := ⟨bseq h.below hb, h.n.next hb, h.nn.next hb⟩
theorem compile4_c (N : Net) (fr till : Int) (w : World) (R) (hk : KwAt w) (hN : NetAt w N)
  (hR : ∀ w' (P : Pln) p n cap s e, (e = 0 → compErr N fr till = 0 ∧ PlanAt w.heap.size N fr till P p cap w') → Below w.heap.size w w' → R (.returned (.tuple #[.agg P.cells.toArray, .agg #[.slice p n cap, .int .i64 s], .int .i64 e])) w') :
  Calls Tryz.prog 9 #[.agg N.cells, .int .i64 fr, .int .i64 till] w R :=
 compile_c N fr till w R hk hN (fun w' P p cap h0 hb hP => hR w' P p _ cap _ 0 (fun _ => ⟨h0, hP⟩) hb)
  (fun w' hne hb => hR w' ⟨0, 0, none, 0, 0, none, 0, 0⟩ none 0 0 0 _ (fun e => absurd e hne) hb)
theorem compOk {N : Net} {fr till : Int} (h : compErr N fr till = 0) : daysOk fr till = true ∧ soundB N = true ∧ sortB N (nextF' N fr till) = true := by
 unfold compErr at h
 split at h
 ·cases h
 ·rename_i h1
  split at h
  ·cases h
  ·rename_i h2
   simp at h1 h2
   exact ⟨h1.1, h1.2, h2⟩
theorem usedL_len (nx : Mat) (n o : Nat) : (usedL nx n o).length ≤ n := by
 unfold usedL
 refine Nat.le_trans (List.length_filter_le _ _) ?_
 rw [List.length_map]
 exact Nat.le_trans (List.length_filter_le _ _) (by simp)
theorem daysP_rg' {N : Net} {fr till : Int} (k o d : Nat) : -1 ≤ daysP N fr till k o d ∧ daysP N fr till k o d ≤ 65518 := by
 have := mostF_range N (nextF' N fr till) k o d fr till
 unfold daysP; omega
set_option maxRecDepth 100000 in
set_option maxHeartbeats 8000000 in
theorem bags_w (N : Net) (fr till : Int) (office : Nat) (pi : Option Addr) (ci : Nat) (its : List Nat) (w : World) (R) (hk : KwAt w) (hN : NetAt w N) (h1 : office ≤ 255) (hi : IntsAt .u8 w pi (intsN its)) (hi8 : ∀ x ∈ its, x ≤ 255)
  (hR : ∀ w', Below w.heap.size w w' → R (.returned (.bool true)) w') :
  Calls Tryz.prog 4 #[.agg N.cells, .int .i64 fr, .int .i64 till, .int .u8 (office : Int), .slice pi its.length ci] w R := by
 have HR := hide hR; have HK := hide hk; have HIt := hide hi; have HI8i := hide hi8
 obtain ⟨w1, hw1⟩ : ∃ w1, w.alloc (.cells N.cells 29) = w1 := ⟨_, rfl⟩
 have hb1 : Below w.heap.size w w1 := hw1 ▸ balloc (Below.refl _ _) _
 have HI := hide (show TgI w N w1 from ⟨hb1, hw1 ▸ Blk.new _ _ _, hN.next hb1⟩)
 unfold Net.cells at hw1 ⊢
 clear hR hN hk hi hi8 hb1
 go_enter Tryz.func4, Tryz.ntmps4
 go_wp2_with (go_at_call 6; refine Stop.out ?_)
 clear hw1
 refine Stop.go (planned_c w1 _ (HK.out.next HI.out.below) ?_)
 intro w2 hb
 have HI2 := hide (HI.out.next hb)
 clear hb HI
 obtain ⟨y0, y1, y2, y3, y4, y5⟩ := HI2.out.n.net6
 go_wp2_with (go_at_call 8; refine Stop.out ?_)
 have hcall := topSmall2_c N fr till w2
 unfold Net.cells at hcall
 refine Stop.go (hcall _ HI2.out.nn ?_)
 intro b w3 hb6 hb
 have HI3 := hide (HI2.out.next hb); have H6 := hide hb6
 clear hcall hb6 hb HI2 y0 y1 y2 y3 y4 y5
 cases b with
 | false =>
  go_wp2
  exact HR.out _ HI3.out.below
 | true =>
  obtain ⟨y0, y1, y2, y3, y4, y5⟩ := HI3.out.n.net6
  by_cases h20 : 20 < its.length
  ·have t1 : (20 : Int) < (its.length : Int) := by omega
   clear h20
   go_wp2
   exact HR.out _ HI3.out.below
  have t1 : ¬ ((20 : Int) < (its.length : Int)) := by omega
  by_cases hn0 : N.offs.length = 0
  ·have t2 : ((N.offs.length : Int) == 0) = true := by rw [hn0]; rfl
   clear hn0 h20
   go_wp2
   exact HR.out _ HI3.out.below
  have t2 : ((N.offs.length : Int) == 0) = false := beq_eq_false_iff_ne.2 (by omega)
  have H20 := hide h20; have Hn0 := hide hn0
  clear h20 hn0
  go_wp2_with (go_at_call 9; refine Stop.out ?_)
  have hcall := compile4_c N fr till w3
  unfold Net.cells at hcall
  refine Stop.go (hcall _ (HK.out.next HI3.out.below) HI3.out.nn ?_)
  intro w4 P p n cap s e hPe hb
  obtain ⟨w5, hw5⟩ : ∃ w5, (w4.alloc (.cells P.cells.toArray 39)).alloc (.cells #[.slice p n cap, .int .i64 s] 42) = w5 := ⟨_, rfl⟩
  have hb5 : Below w4.heap.size w4 w5 := hw5 ▸ balloc (balloc (Below.refl _ _) _) _
  have kP : Blk w5 w4.heap.size P.cells.toArray 39 := by rw [← hw5]; exact Blk.alloc (Blk.new _ _ _) _
  have HI5 := hide ((HI3.out.next hb).next hb5)
  clear hcall y0 y1 y2 y3 y4 y5 t1 t2
  by_cases he : e = 0
  rotate_left
  ·have HF := hide (HR.out w5 HI5.out.below)
   have t1 : (e != 0) = true := by simpa using he
   unfold Pln.cells at hw5 ⊢
   clear hb hPe he kP hb5
   go_wp2
   exact HF.out
  obtain ⟨hc0, hPl⟩ := hPe he
  clear hPe
  subst he
  obtain ⟨hd1, hd2, hso⟩ := compOk hc0
  have hsnd := snd_of hd2
  have hdd := hd1
  unfold daysOk at hdd
  simp only [Bool.and_eq_true, decide_eq_true_eq] at hdd
  obtain ⟨⟨⟨d1, d2⟩, d3⟩, d4⟩ := hdd
  have hGP : GrP w5 N P (nextF' N fr till) (daysP N fr till) := ⟨HK.out.next HI5.out.below, HI5.out.nn, hd2, hPl.next.next hb5, hPl.days.next hb5, next_formed, hPl.nn, hPl.dn, daysP_rg', by rw [hPl.pfr, hPl.ptill]; exact hd1⟩
  have HGP := hide hGP; have HSn := hide hsnd; have HSo := hide hso; have HKP := hide kP
  clear hb hPl hc0 hso hGP kP hb5 hd1
  have x0 := HKP.out.cell (k := 0) (v := .int .i64 P.fr) rfl; have x1 := HKP.out.cell (k := 1) (v := .int .i64 P.till) rfl; have x2 := HKP.out.cell (k := 2) (v := .slice P.np P.nn P.nc) rfl; have x3 := HKP.out.cell (k := 3) (v := .slice P.dp P.dn P.dc) rfl
  obtain ⟨y0, y1, y2, y3, y4, y5⟩ := HI5.out.n.net6
  obtain ⟨o, ho⟩ : ∃ o, office % N.offs.length = o := ⟨_, rfl⟩
  have hol : o < N.offs.length := by rw [← ho]; exact Nat.mod_lt _ (by have := Hn0.out; omega)
  have e1 : (office : Int) % (N.offs.length : Int) = (o : Int) := by rw [← ho]; simp
  have r2 : (N.offs.length : Int) ≠ 0 := by have := Hn0.out; omega
  have r3 : ¬ ((N.offs.length : Int) = 0) := by have := Hn0.out; omega
  have Hol := hide hol
  clear ho
  unfold Pln.cells at hw5 ⊢
  go_wp2_with (go_at_call 15; refine Stop.out ?_)
  clear hw5
  rw [e1]
  have hcall := groups_c N P (nextF' N fr till) (daysP N fr till) o w5
  unfold Net.cells Pln.cells at hcall
  refine Stop.go (hcall _ HGP.out hol ?_)
  intro w6 qG cG gF ss hb hss hG hF
  have hgr := grp_of hss
  have hgn : groupsN (nextF' N fr till) N.offs.length o = (ss.length : Int) + 1 := by
   unfold groupsN; rw [← hss.length_eq]; omega
  obtain ⟨G, hGe⟩ : ∃ G, (-1 : Int) :: ss.mergeSort (fun x y => decide (x ≤ y)) = G := ⟨_, rfl⟩
  have hGl : G.length = ss.length + 1 := by rw [← hGe, List.length_cons, List.length_mergeSort]
  obtain ⟨g, hg⟩ : ∃ g, ss.length + 1 = g := ⟨_, rfl⟩
  rw [hGe] at hgr hG hF
  rw [hg] at hGl ⊢
  have hgn : groupsN (nextF' N fr till) N.offs.length o = (g : Int) := by rw [hgn]; omega
  have HI6 := hide (HI5.out.next hb); have HKP6 := hide (HKP.out.next hb); have HGr := hide hgr; have HG6 := hide hG; have HF6 := hide hF; have HGl := hide hGl; have HGn := hide hgn
  clear hb hss hgr hG hF hGe hGl hg hgn hcall HI5 HKP x0 x1 x2 x3 y0 y1 y2 y3 y4 y5 r2 r3
  obtain ⟨y0, y1, y2, y3, y4, y5⟩ := HI6.out.n.net6
  have e2 : IntKind.i64.wrap (1440 * fr) = 1440 * fr := IntWalk.i64_in _ (by omega)
  have e3 : IntKind.i64.wrap (1440 * till) = 1440 * till := IntWalk.i64_in _ (by omega)
  go_wp2_with (go_at_call 16; refine Stop.out ?_)
  have hcall := rBounds_c N (1440 * fr) (1440 * till) w6
  unfold Net.cells at hcall
  refine Stop.go (hcall _ (HK.out.next HI6.out.below) HI6.out.nn hd2 (by omega) (by omega) (by omega) (by omega) ?_)
  intro w7 gB hb hB
  have HI7 := hide (HI6.out.next hb); have HKP7 := hide (HKP6.out.next hb); have HG7 := hide (HG6.out.keep (Keeps.of_below hb)); have HF7 := hide (HF6.out.keep (Keeps.of_below hb))
  have HB7 : Hid (MatAt w7 (some ⟨gB, 0, none⟩) N.offs.length (boundF N fr till)) := hide hB
  clear hb hB hcall HI6 HKP6 HG6 HF6 y0 y1 y2 y3 y4 y5 e2 e3
  have y3 := HI7.out.n.net6.2.2.2.1
  obtain ⟨bo, oo, x, hfp, hx, hor, o0, o1, o2, o3, o4, o5, o6⟩ := HI7.out.nn.off_ hol
  have hofx : offOf N (o : Int) = x := by unfold offOf; rw [show ((o : Int)).toNat = o by omega, getD_some hx]
  have hO := hsnd.offP (o := (o : Int)) (by omega) (by omega)
  rw [hofx] at hO
  obtain ⟨pn, hpn⟩ : ∃ pn : Nat, x.passes = (pn : Int) := ⟨x.passes.toNat, by have := hO.passes; omega⟩
  obtain ⟨pk, hpk⟩ : ∃ pk : Nat, x.pockets = (pk : Int) := ⟨x.pockets.toNat, by have := hO.pockets; omega⟩
  have hpk1 := hO.pockets; have hpn1 := hO.passes
  rw [hpk] at hpk1 o3; rw [hpn] at hpn1 o4
  have hgp : (g : Int) ≤ powF (pk : Int) pn := by
   have h1 := List.all_eq_true.1 HSo.out o (List.mem_range.2 hol)
   rw [hofx, hpn, hpk, HGn.out] at h1
   exact of_decide_eq_true h1
  have hg7 : g ≤ 7 := by
   have h1 := HGn.out
   unfold groupsN at h1
   have h3 := setL_len (usedL (nextF' N fr till) N.offs.length o)
   have h4 := usedL_len (nextF' N fr till) N.offs.length o
   have := (H6.out trivial).1
   omega
  have Hgp := hide hgp; have Hg7 := hide hg7; have Hpk1 := hide hpk1; have Hpn1 := hide hpn1
  rw [hfp] at y3
  have KB : Hid (∀ W', Below w7.heap.size w7 W' → W'.cell? ⟨w.heap.size, 3, none⟩ = some (.slice (some ⟨bo, oo, none⟩) N.offs.length N.fc) ∧ W'.cell? ⟨bo, oo + o * 7 + 3, none⟩ = some (.int .i64 (pk : Int)) ∧ W'.cell? ⟨bo, oo + o * 7 + 4, none⟩ = some (.int .i64 (pn : Int))) := hide (fun W' hb => ⟨cell_later hb y3, cell_later hb o3, cell_later hb o4⟩)
  have q1 : (0 : Int) ≤ (o : Int) := by omega
  have q2 : (o : Int) < (N.offs.length : Int) := by omega
  have Hfp := hide hfp
  have O7 := hide o3
  clear y3 o0 o1 o2 o3 o4 o5 o6 hx hor hofx hO hpn hpk hgp hfp
  go_wp2
  go_region_held3 (fun W' => W'.cell? ⟨w.heap.size, 3, none⟩ = some (.slice (some ⟨bo, oo, none⟩) N.offs.length N.fc) ∧ W'.cell? ⟨bo, oo + o * 7 + 3, none⟩ = some (.int .i64 (pk : Int)) ∧ W'.cell? ⟨bo, oo + o * 7 + 4, none⟩ = some (.int .i64 (pn : Int)))
   (first | exact KB.out _ (Below.refl _ _).drew | exact KB.out _ hb8)
   (first
   | (go_at_call 17
      refine scheme_c (pk : Int) pn g _ _ (by omega) (by omega) (by omega) (by omega) (by omega) (fun h => absurd h (by have := Hgp.out; omega)) ?_
      intro w8 q8 _ hbb hmr
      have hb8 : Below w7.heap.size w7 w8 := bseq (Below.refl _ _).drew hbb))
  have HI8 := hide (HI7.out.next hb8); have HG8 := hide (HG7.out.keep (Keeps.of_below hb8)); have HF8 := hide (HF7.out.keep (Keeps.of_below hb8)); have HB8 := hide (HB7.out.next hb8)
  have HM8 := hide hmr.rec_; have O8 := hide (cell_later hb8 O7.out)
  rename_i hge hheld
  clear hbb hmr hb8 hge hheld KB HI7 HG7 HF7 HB7 HKP7 O7
  have y3 := HI8.out.n.net6.2.2.2.1
  have s1 : ((N.offs.length : Int) != (N.offs.length : Int)) = false := by simp
  go_wp2
  clear y3 s1
  have hn12 := HSn.out.noff
  have hl20 : its.length ≤ 20 := by have := H20.out; omega
  have hofr := of_rg HGr.out
  have hgl := HGl.out
  have hg7 := Hg7.out
  have hds := kp_ds (its := its) (n := N.offs.length) (of := ofF (nextF' N fr till o) o G) (k := its.length)
  have hdr := kp_dr (its := its) (n := N.offs.length) (of := ofF (nextF' N fr till o) o G) (k := its.length) g o
  have htr := kp_tr (its := its) (n := N.offs.length) (of := ofF (nextF' N fr till o) o G) (k := its.length)
  have hok := bag_ok (its := its) (k := its.length) Hol.out hn12 HGr.out HGl.out (by omega) hl20
  have hz0 := fun i hi => bag_z0 (its := its) (k := its.length) HGr.out (i := i) hi
  have hz1 := fun i hi => bag_z1 (its := its) (k := its.length) HSn.out Hol.out HGr.out (i := i) hi
  have hkl := kpL_len (its := its) (n := N.offs.length) (of := ofF (nextF' N fr till o) o G) its.length
  have hg1 : 1 ≤ g := by obtain ⟨L, e, _⟩ := HGr.out.head; rw [← hgl, e, List.length_cons]; omega
  have hdn : ∀ x, ddF its N.offs.length x < N.offs.length := fun x => Nat.mod_lt _ (by have := Hn0.out; omega)
  refine bag_l0 N pi its.length ci w.heap.size o gF N.offs.length its (ofF (nextF' N fr till o) o G) rfl (by omega) rfl hl20 HI8.out.n (HIt.out.keep (Keeps.of_below HI8.out.below)) (fun x hx => HI8i.out x hx) HF8.out (fun d _ => by have h1 := hofr d; have := HGl.out; have := Hg7.out; omega) ?_
  intro _ _ _ _ _ _ _ _ _ _ _ _ _ _ _ _ _ _ _ _ _ _ _ _ _ _ _ _ _ _ _ _ _ _ _ _ _ _ _ w9 vt vd vb hL
  rw [htr, hds] at hL
  have hdq := hds.symm.trans hdr
  generalize kpL its N.offs.length (ofF (nextF' N fr till o) o G) its.length = kp at *
  generalize dstF its N.offs.length (ofF (nextF' N fr till o) o G) = dst at *
  obtain ⟨tn, htn⟩ : ∃ tn : Nat → Nat, ∀ i, ddF its N.offs.length (kp.getD i 0) = tn i := ⟨_, fun _ => rfl⟩
  have hdn : ∀ i, tn i < N.offs.length := fun i => by rw [← htn]; exact hdn _
  simp only [htn] at hL hz0 hz1
  obtain ⟨m, hm⟩ : ∃ m, kp.length = m := ⟨_, rfl⟩
  rw [hm] at hL hkl hdq
  simp only [hm] at hz0 hz1
  obtain ⟨mg, hmg⟩ : ∃ mg, m + g = mg := ⟨_, rfl⟩
  have hb0l := bg0_l kp g o dst
  have HOk := hide hok; have HZ0 := hide hz0; have HZ1 := hide hz1; have HDq := hide hdq; have HM := hide hm; have HMg := hide hmg; have HDn := hide hdn; have Hb0l := hide hb0l; have Hhg1 := hide hg1; have Hkl := hide (show m ≤ 20 by omega)
  have hbs : (kp.map (itB o)).length ≤ 20 := by rw [List.length_map, hm]; omega
  have hg20 : g ≤ 20 := by omega
  have Hg20 := hide hg20
  clear hok hz0 hz1 hdq hdn hb0l hds hdr htr hofr htn hm hkl hl20 hn12 hgl hg7 hg1 hmg HF8
  go_wp2
  refine bag_l1 w8 o g qG cG _ _ _ vt vd vb hg20 hbs hL ?_
  intro _ _ _ _ _ _ _ _ _ _ _ _ _ w10 vb2 hL2
  have hT := hL2.t; have hD := hL2.d; have hBx := hL2.b
  rw [List.length_map, List.length_range] at hT
  rw [intsN_len, List.length_map, HM.out] at hD
  rw [Hb0l.out, Bgd.len, show (bg0 kp g o dst).m = m from HM.out, show (bg0 kp g o dst).g = g from rfl, HMg.out] at hBx
  obtain ⟨pT, cT, hvt, _⟩ := own_val hT
  obtain ⟨pD, cD, hvd, _⟩ := own_val hD
  obtain ⟨gb, cb, hvb, _, _⟩ := own_form hBx (by have := HMg.out; have := Hhg1.out; omega)
  subst hvt; subst hvd; subst hvb
  have HI10 := hide (HI8.out.next hL2.below)
  have HT10 := hide (IntsAt.of_own hT); have HD10 := hide (IntsAt.of_own hD)
  have HE10 : Hid (EncAt 5 Bx.cells w10 (some ⟨gb, 0, none⟩) (bg0 kp g o dst).l) := hide (EncAt.of_own bx_len (by decide) hBx)
  have HG10 := hide (HG8.out.keep (Keeps.of_below hL2.below)); have HB10 := hide (HB8.out.next hL2.below); have HM10 := hide (HM8.out.next hL2.below)
  have O10 := hide (cell_later hL2.below O8.out)
  clear hL2 hT hD hBx HI8 HG8 HB8 HM8 O8 hL hbs hg20
  have y3 := HI10.out.n.net6.2.2.2.1
  rw [Hfp.out] at y3
  have o3 := O10.out
  go_wp2_with (go_at_call 19; refine Stop.out ?_)
  have hdl : (kp.map dst).length = m := by rw [List.length_map, HM.out]
  have hMr : RecAt w10 q8 pn g (fun k j => ((((schemeF (pk : Int) k j).toNat : Nat)) : Int)) := by rw [schE (by have := Hpk1.out; omega)]; exact HM10.out
  have hcall := run_c pk pn g (fun k j => (schemeF (pk : Int) k j).toNat) q8 pn pD cD (kp.map dst) w10
  rw [hdl] at hcall
  refine Stop.go (hcall _ (by have := Hpk1.out; omega) (by have := Hpk1.out; omega) (by have := Hpn1.out; omega) (by have := Hpn1.out; omega) (by have := Hg7.out; omega) hMr (fun k j _ _ => by have := schR (P := pk) (by have := Hpk1.out; omega) k j; omega) HD10.out (by have := Hkl.out; omega) (fun d hd => by
   obtain ⟨x, hx, rfl⟩ := List.mem_map.1 hd
   obtain ⟨i, hi⟩ := List.getElem?_of_mem hx
   have h1 := HOk.out.dest i (List.getElem?_eq_some_iff.1 hi).1
   have h2 : kp.getD i 0 = x := by rw [List.getD_eq_getElem?_getD, hi]; rfl
   have h3 : (bg0 kp g o dst).dest i = dst (kp.getD i 0) := rfl
   rw [h3, h2] at h1; exact h1) ?_)
  intro w11 pO cO ord hb hperm hIO
  rw [HDq.out] at HD10
  have HI11 := hide (HI10.out.next hb); have HT11 := hide (HT10.out.keep (Keeps.of_below hb)); have HD11 := hide (HD10.out.keep (Keeps.of_below hb)); have HE11 := hide (HE10.out.keep (Keeps.of_below hb)); have HG11 := hide (HG10.out.keep (Keeps.of_below hb)); have HB11 := hide (HB10.out.next hb)
  have HPe := hide hperm; have HIO := hide hIO
  clear hcall hMr hdl hb hperm hIO HI10 HT10 HD10 HE10 HG10 HB10 HM10 O10 y3 o3
  have s1 : ((m : Int) != (m : Int)) = false := by simp
  go_wp2
  clear s1
  refine bag_l2 (bg0 kp g o dst) m g mg pD pO cD cO gb cb ord HOk.out HM.out rfl HMg.out Hkl.out Hg20.out (fun _ => rfl) (fun _ => rfl) (fun _ => rfl) HE11.out HPe.out HIO.out HD11.out ?_
  intro _ _ _ _ _ _ _ _ _ _ _ _ _ _ _ _ _ _ _ _ _ _ _ _ _ _ _ _ _ _ _ _ _ _ _ _ _ _ _ _ _ _ _ _ _ w12 gb2 cb2 t hb hq hput hsh hpl hE
  have HI12 := hide (HI11.out.next hb); have HT12 := hide (HT11.out.keep (Keeps.of_below hb)); have HD12 := hide (HD11.out.keep (Keeps.of_below hb)); have HG12 := hide (HG11.out.keep (Keeps.of_below hb)); have HB12 := hide (HB11.out.next hb)
  have HTt : Hid (∃ t : Bgd, BgQ (bg0 kp g o dst) t ∧ (∀ i, i < m → t.put i = true) ∧ (∀ i, t.shut i = false) ∧ (∀ i, t.plc i = (bg0 kp g o dst).at_) ∧ EncAt 5 Bx.cells w12 (some ⟨gb2, 0, none⟩) t.l) := hide ⟨t, hq, hput, hsh, hpl, hE⟩
  clear hb hq hput hsh hpl hE HI11 HT11 HD11 HG11 HB11 HE11 HPe HIO t
  go_wp2
  refine bag_l3 N (bg0 kp g o dst) G m g mg w.heap.size pD qG cD cG gb2 cb2 HSn.out HI12.out.n HI12.out.nn HM.out rfl HMg.out Hkl.out Hg20.out Hhg1.out HGl.out HG12.out (fun j x hj hx => grp_lin Hol.out HGr.out hj hx) HTt ?_
  intro _ _ _ _ _ _ _ _ _ _ _ _ _ _ _ _ _ _ _ _ _ _ _ _ _ _ _ _ _ _ _ _ _ _ _ _ _ _ _ _ _ _ _ _ _ _ _ _ _ _ _ _ _ _ _ _ _ _ _ _ _ _ w13 gb3 cb3 t hb hq hput hplj hpl0 hE
  have HI13 := hide (HI12.out.next hb); have HT13 := hide (HT12.out.keep (Keeps.of_below hb)); have HD13 := hide (HD12.out.keep (Keeps.of_below hb)); have HB13 := hide (HB12.out.next hb)
  have Hq := hide hq; have Hput := hide hput; have Hplj := hide hplj; have Hpl0 := hide hpl0; have HE13 := hide hE
  clear hb hq hput hplj hpl0 hE HI12 HT12 HD12 HG12 HB12 HTt
  go_wp2
  refine bag_l4 t m g mg pD qG cD cG gb3 cb3 Hq.out.ok (Hq.out.m.trans HM.out) Hq.out.g HMg.out Hkl.out Hg20.out Hput.out HE13.out ?_
  intro _ _ _ _ _ _ _ _ _ _ _ _ _ _ _ w14 hb
  have HI14 := hide (HI13.out.next hb); have HT14 := hide (HT13.out.keep (Keeps.of_below hb)); have HE14 := hide (HE13.out.keep (Keeps.of_below hb)); have HB14 := hide (HB13.out.next hb)
  have HD14 : Hid (IntsAt .i64 w14 pD ((List.range m).map fun i => (t.dest i : Int))) := hide (by rw [Hq.out.dest]; exact HD13.out.keep (Keeps.of_below hb))
  clear hb HI13 HT13 HD13 HB13 HE13
  have s1 : ((m : Int) != (m : Int)) = false := by simp
  have s2 : ¬ ((mg : Int) < (m : Int)) := by have := HMg.out; omega
  go_wp2
  clear s1 s2
  refine bag_l5 t m g mg N.offs.length o gB (boundF N fr till) (plF N G o) tn pT pD cT cD gb3 cb3 Hq.out.ok (Hq.out.m.trans HM.out) Hq.out.g HMg.out Hkl.out Hg20.out Hol.out Hput.out HE14.out HB14.out HT14.out HD14.out (fun i _ => HDn.out i) (fun j hj => ?_) (fun i hi h => ?_) (fun i hi h => ?_) ?_
  ·have h1 := pl_rg HSn.out Hol.out HGr.out (j := j) (by rw [HGl.out]; exact hj)
   refine ⟨?_, h1.1⟩
   by_cases h0 : j = 0
   ·subst h0; rw [Hpl0.out]; rfl
   ·rw [Hplj.out j (by omega) hj]; exact (h1.2 (by omega)).symm
  ·rw [Hq.out.dest] at h
   exact HZ0.out i hi h
  ·rw [Hq.out.dest] at h ⊢
   exact HZ1.out i hi h
  intro _ _ _ _ _ _ _ _ _ _ _ _ _ _ _ _ _ _ _ _ _ _ _ _ _ _ _ _ _ _ _ _ _ _ _ _ _ _ _ _ _ _ _ _ _ _ _ _ _ _ _ _ _ _ _ _ _ _ _ _ _ _ _ _ _ _ _ _ _ _ _ _ _ _ _ _ _ _ _ _ _ _ _ _ _ _ _ _ _ _ _ _ _ _ _ _ _ _ _ _ _ _ _ _ _ _ _ _ _ _ _ _ w15 hb
  have HF := hide (HR.out w15 (bseq HI14.out.below hb))
  clear hb HI14 HT14 HD14 HE14 HB14
  go_wp2
  exact HF.out
end
section
open Go.ChangeShapes Go.WideShapes Go.ChangeAt Go.RowKit Go.Deep
section
variable {H : Type} {enc : TypeId × Value → H} {P : Program}
theorem trodAll_below {W W' : World} (hl : laidOutB P = true) (hb : Below W.heap.size W W') : ∀ (ts : List TypeId) (vs : List Value) (ds : List (DataW H)) (ps : List MemPlace),
  (ts.all fun t => P.readableRec t && decide (t < P.types.size)) = true → DataW.TrodAll enc P W 0 (fun _ => true) true ts vs ds ps →
  DataW.TrodAll enc P W' 0 (fun b => decide (b < W.heap.size)) true ts vs ds ps
 | [], vs, ds, ps, _, h => by obtain ⟨rfl, rfl, rfl⟩ := trodAll_nil h; exact trodAll_mk0
 | t :: ts, vs, ds, ps, hr, h => by
  simp only [List.all_cons, Bool.and_eq_true, decide_eq_true_eq] at hr
  obtain ⟨v, vs, d, ds, p, q, rfl, rfl, rfl, h0, h1⟩ := trodAll_cons h
  have lt : ∀ x ∈ p, x.block < W.heap.size := by obtain ⟨m, hm⟩ := h0; exact DataW.trod_lt m _ _ _ hm
  exact trodAll_cons_mk (Below.trod hl hr.1.1 hr.1.2 h0 hb lt) (trodAll_below hl hb ts vs ds q hr.2 h1)
theorem law_post {f : Func} {s : ChangeSpec} {W W' : World} {args : Array Value} {ds : List (DataW H)} {before p : List MemPlace} {tb : TypeId} (hl : laidOutB P = true) (hb : Below W.heap.size W W')
  (hvars : s.vars = []) (hW : DataW.Whole enc P f.params.toList s.vars false W args.toList ds [] before) (hA : DataW.TrodAll enc P W 0 (fun _ => true) true f.params.toList args.toList ds p)
  (hread : (f.params.toList.all fun t => P.readableRec t && decide (t < P.types.size)) = true) (hres : f.resultTypes = #[tb]) (htb : P.underlying tb = some .bool)
  (hs : (s.fn H ds).results = [.lit (.bool true)]) (ha : (s.fn H ds).args = ds) (hv : (s.fn H ds).vars = []) :
  s.post enc P f false true false false W args (.bool true) W' := by
 refine ⟨ds, [], before, [], p, [], hW, ?_, ?_, ?_, hb.frame _, fun h => by cases h⟩
 ·rw [List.append_nil, hs, hres]; exact trodAll_mk1 (shut_bool htb _)
 ·rw [List.append_nil, ha]; exact trodAll_below hl hb _ _ _ _ hread hA
 ·rw [List.append_nil, hv, hvars]; exact rfl
theorem addr_plain {w : World} {a : Addr} {v : Value} (h : w.cell? a = some v) : a = ⟨a.block, a.off, none⟩ := by
 obtain ⟨b, o, s⟩ := a
 cases s with
 | none => rfl
 | some s => exfalso; unfold World.cell? at h; split at h <;> simp at h
theorem open_ints' {w : World} {r : Reach} {b0 : Nat} {t e : TypeId} {k : IntKind} {v : Value} {d : DataW H} {p : List MemPlace} (ht : P.underlying t = some (.slice e)) (he : P.underlying e = some (.int k)) (hc : P.cellsOf e = 1)
  (hv : Value.okWide P w r b0 t v) (h : DataW.Trod enc P w 0 (fun _ => true) true t v d p) :
  ∃ a n cap l, v = .slice a n cap ∧ l.length = n ∧ n ≤ maxLen ∧ IntsAt k w a l ∧ (a = none → n = 0) ∧ ∀ x ∈ l, (Lit.int k x).wf = true := by
 obtain ⟨a, n, cap, rfl⟩ := okWide_slice ht hv
 obtain ⟨fuel, hf⟩ := h
 rcases open_ints ht he hc hf with ⟨hcs, _⟩ | ⟨x, l, c, zs, hcs, _, hl, hm, hz, _, hcell, hwz⟩
 ·simp [Value.cells] at hcs
  obtain ⟨rfl, rfl, rfl⟩ := hcs
  exact ⟨none, 0, 0, [], rfl, rfl, by decide, IntsAt.nil, fun _ => rfl, by simp⟩
 ·simp [Value.cells] at hcs
  obtain ⟨rfl, rfl, rfl⟩ := hcs
  rw [if_pos rfl] at hz
  refine ⟨_, _, _, zs.take n, rfl, by rw [List.length_take]; omega, Nat.le_trans hl hm, fun h0 => ?_, (fun h => by cases h), fun x hx => hwz x (List.mem_of_mem_take hx)⟩
  have hzl : 0 < zs.length := by rw [List.length_take] at h0; omega
  have h00 := hcell 0 hzl
  rw [Addr.add_zero'] at h00
  have hx := addr_plain h00
  refine ⟨x.block, x.off, by rw [← hx], fun i y hy => ?_⟩
  rw [List.getElem?_take] at hy
  split at hy
  ·have hi := (List.getElem?_eq_some_iff.1 hy).1
   have h1 := hcell i hi
   rw [hx, Addr.add_lit, getD_at hy] at h1
   exact h1
  ·cases hy
where
 getD_at {l : List Int} {k : Nat} {x : Int} (h : l[k]? = some x) : l.getD k 0 = x := by rw [List.getD_eq_getElem?_getD, h]; rfl
end
theorem Tryz.own : ownKnob Tryz.prog.godebug = none := by kernel_rfl
theorem Tryz.laidOut : laidOutB Tryz.prog = true := by kernel_rfl
end
end Go.Proofs.YtgfhcmidnbahjaaGreatDoor
