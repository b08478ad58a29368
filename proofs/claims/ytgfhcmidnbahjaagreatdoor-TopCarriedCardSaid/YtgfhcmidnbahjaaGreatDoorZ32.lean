/- Compile: its first step. Compile: the steps that choose lines, promise, certify. Compile: the step that certifies. Compile: what stands between its steps. -/
import Derived.Test.YtgfhcmidnbahjaaGreatDoorZ29
import Derived.Test.YtgfhcmidnbahjaaGreatDoorZ30
import Derived.Test.YtgfhcmidnbahjaaGreatDoorZ31
set_option linter.unusedVariables false
set_option linter.unusedSimpArgs false
namespace Go.Proofs.YtgfhcmidnbahjaaGreatDoor
open Go.RowKit Go.Shelf
attribute [local go_sem] Oper.semAt_some run_store_func

set_option maxRecDepth 100000 in
theorem cdays_c (fr till : Int) (w : World) (R) (hR : R (.returned (.bool (daysOk fr till))) w) : Calls Tryz.prog 108 #[.int .i64 fr, .int .i64 till] w R := by
  by_cases h1 : 0 ≤ fr
  · by_cases h2 : fr < till
    · by_cases h3 : till ≤ 600
      · have e1 : IntKind.i64.wrap (till - fr) = till - fr := IntWalk.i64_in _ (by omega)
        by_cases h4 : till - fr ≤ 60
        · have e : daysOk fr till = true := by unfold daysOk; simp [h1, h2, h3, h4]
          rw [e] at hR
          have HR := hide hR
          clear hR e
          go_enter Tryz.func108, Tryz.ntmps108
          go_wp2
          exact HR.out
        · have e : daysOk fr till = false := by unfold daysOk; simp [h4]
          rw [e] at hR
          have HR := hide hR
          have h5 : 60 < till - fr := by omega
          clear hR e
          go_enter Tryz.func108, Tryz.ntmps108
          go_wp2
          exact HR.out
      · have e : daysOk fr till = false := by unfold daysOk; simp [h3]
        rw [e] at hR
        have HR := hide hR
        have h5 : 600 < till := by omega
        clear hR e
        go_enter Tryz.func108, Tryz.ntmps108
        go_wp2
        exact HR.out
    · have e : daysOk fr till = false := by unfold daysOk; simp [h2]
      rw [e] at hR
      have HR := hide hR
      have h5 : till ≤ fr := by omega
      clear hR e
      go_enter Tryz.func108, Tryz.ntmps108
      go_wp2
      exact HR.out
  · have e : daysOk fr till = false := by unfold daysOk; simp [h1]
    rw [e] at hR
    have HR := hide hR
    have h5 : fr < 0 := by omega
    clear hR e
    go_enter Tryz.func108, Tryz.ntmps108
    go_wp2
    exact HR.out
set_option maxRecDepth 100000 in
theorem csound_c (N : Net) (w : World) (R) (hk : KwAt w) (hN : NetAt w N) (hR : ∀ w', Below w.heap.size w w' → R (.returned (.bool (soundB N))) w') : Calls Tryz.prog 61 #[.agg N.cells] w R := by
  obtain ⟨w1, hw1, hb1, k1, hs1⟩ := net_box N w
  have HR := hide hR; have HN := hide hN; have HK := hide hk; have HB1 := hide hb1
  obtain ⟨y0, y1, y2, y3, y4, y5⟩ := k1.net6
  unfold Net.cells at hw1
  clear hR hN hk hb1 k1 hs1
  unfold Net.cells
  go_enter Tryz.func61, Tryz.ntmps61
  go_wp2_with (go_at_call 115; refine Stop.out ?_)
  refine Stop.go (check_c N w1 _ (HK.out.next HB1.out) (HN.out.next HB1.out) ?_)
  intro w' p n cap hb h0 hn
  have HF := hide (HR.out _ (bseq HB1.out hb))
  clear hb y0 y1 y2 y3 y4 y5 hw1
  rcases zero_iff h0 with ⟨hs, rfl⟩ | ⟨hs, hpos⟩
  · rw [hs] at HF
    clear h0 hs
    go_wp2
    exact HF.out
  · rw [hs] at HF
    have q1 : ((n : Int) == (0 : Int)) = false := by simp; omega
    clear h0 hs
    go_wp2
    exact HF.out
set_option maxRecDepth 100000 in
set_option maxHeartbeats 1000000 in
theorem cCheck_c (N : Net) (P : Pln) (ct : List Value) (g : Nat) (w : World) (R) (hw : Blk w g (workC N P ct) 92) (hk : KwAt w) (hN : NetAt w N)
    (hR : ∀ w', Below w.heap.size w w' → R (.returned (.int .i64 (if (daysOk P.fr P.till && soundB N) = true then 0 else 1))) w') :
    Calls Tryz.prog 35 #[.pointer (some ⟨g, 0, none⟩)] w R := by
  have HR := hide hR; have HN := hide hN; have HK := hide hk
  obtain ⟨y0, y1, y2, y3, y4, y5⟩ := hw.workN
  obtain ⟨p0, p1, p2, p3⟩ := hw.workP
  have KB : Hid (∀ W', Below w.heap.size w W' → W'.cell? ⟨g, 0, none⟩ = some (.slice N.cp N.cals.length N.cc) ∧ W'.cell? ⟨g, 1, none⟩ = some (.slice N.np N.names.length N.nc) ∧ W'.cell? ⟨g, 2, none⟩ = some (.slice N.op N.oprs.length N.oc) ∧ W'.cell? ⟨g, 3, none⟩ = some (.slice N.fp N.offs.length N.fc) ∧ W'.cell? ⟨g, 4, none⟩ = some (.slice N.lp N.lins.length N.lc) ∧ W'.cell? ⟨g, 5, none⟩ = some (.slice N.kp N.clss.length N.kc) ∧ W'.cell? ⟨g, 6, none⟩ = some (.int .i64 P.fr) ∧ W'.cell? ⟨g, 7, none⟩ = some (.int .i64 P.till)) :=
    hide (fun W' hb => ⟨cell_later hb y0, cell_later hb y1, cell_later hb y2, cell_later hb y3, cell_later hb y4, cell_later hb y5, cell_later hb p0, cell_later hb p1⟩)
  clear hR hN hk hw y0 y1 y2 y3 y4 y5 p0 p1 p2 p3
  go_enter Tryz.func35, Tryz.ntmps35
  go_wp2
  cases hd : daysOk P.fr P.till with
  | true =>
    rw [hd] at HR
    have Hd := hide hd
    clear hd
    go_region_held3 (fun W' => W'.cell? ⟨g, 0, none⟩ = some (.slice N.cp N.cals.length N.cc) ∧ W'.cell? ⟨g, 1, none⟩ = some (.slice N.np N.names.length N.nc) ∧ W'.cell? ⟨g, 2, none⟩ = some (.slice N.op N.oprs.length N.oc) ∧ W'.cell? ⟨g, 3, none⟩ = some (.slice N.fp N.offs.length N.fc) ∧ W'.cell? ⟨g, 4, none⟩ = some (.slice N.lp N.lins.length N.lc) ∧ W'.cell? ⟨g, 5, none⟩ = some (.slice N.kp N.clss.length N.kc) ∧ W'.cell? ⟨g, 6, none⟩ = some (.int .i64 P.fr) ∧ W'.cell? ⟨g, 7, none⟩ = some (.int .i64 P.till))
      (first | exact KB.out _ (Below.refl _ _).drew | exact KB.out _ hbb)
      (first
      | (go_at_call 108
         refine cdays_c P.fr P.till _ _ ?_
         rw [Hd.out])
      | (go_at_call 61
         refine csound_c N _ _ (HK.out.next (Below.refl _ _).drew) (HN.out.next (Below.refl _ _).drew) (fun W' hb => ?_)
         have hbb : Below w.heap.size w W' := bseq (Below.refl _ _).drew hb))
    have HF := hide (HR.out _ hbb)
    clear hbb hb KB
    cases hs : soundB N with
    | true =>
      rw [hs] at HF
      go_wp2
      exact HF.out
    | false =>
      rw [hs] at HF
      go_wp2
      exact HF.out
  | false =>
    rw [hd] at HR
    have Hd := hide hd
    obtain ⟨y0, y1, y2, y3, y4, y5, p0, p1⟩ := KB.out _ (Below.refl _ _)
    clear hd
    go_quiet ((go_at_call 108; refine cdays_c P.fr P.till _ _ ⟨by rw [Hd.out], _, rfl⟩))
    go_wp2
    exact HR.out _ (below_drewN' (Below.refl _ _) _)
end Go.Proofs.YtgfhcmidnbahjaaGreatDoor

namespace Go.Proofs.YtgfhcmidnbahjaaGreatDoor
open Go.RowKit Go.Shelf
attribute [local go_sem] Oper.semAt_some run_store_func

def WkS (g : Nat) (N : Net) (fr till : Int) (W : World) : Prop :=
  W.cell? ⟨g, 0, none⟩ = some (.slice N.cp N.cals.length N.cc) ∧ W.cell? ⟨g, 1, none⟩ = some (.slice N.np N.names.length N.nc) ∧ W.cell? ⟨g, 2, none⟩ = some (.slice N.op N.oprs.length N.oc) ∧ W.cell? ⟨g, 3, none⟩ = some (.slice N.fp N.offs.length N.fc) ∧ W.cell? ⟨g, 4, none⟩ = some (.slice N.lp N.lins.length N.lc) ∧ W.cell? ⟨g, 5, none⟩ = some (.slice N.kp N.clss.length N.kc) ∧ W.cell? ⟨g, 6, none⟩ = some (.int .i64 fr) ∧ W.cell? ⟨g, 7, none⟩ = some (.int .i64 till)
theorem workC_S {W : World} {g : Nat} {N : Net} {P : Pln} {ct : List Value} (h : Blk W g (workC N P ct) 92) : WkS g N P.fr P.till W := by
  obtain ⟨y0, y1, y2, y3, y4, y5⟩ := h.workN
  obtain ⟨p0, p1, _, _⟩ := h.workP
  exact ⟨y0, y1, y2, y3, y4, y5, p0, p1⟩
theorem workC_set8 (N : Net) (P : Pln) (ct : List Value) (p : Option Addr) (n c : Nat) : (workC N P ct).setIfInBounds 8 (.slice p n c) = workC N { P with np := p, nn := n, nc := c } ct := rfl
theorem workC_set9 (N : Net) (P : Pln) (ct : List Value) (p : Option Addr) (n c : Nat) : (workC N P ct).setIfInBounds 9 (.slice p n c) = workC N { P with dp := p, dn := n, dc := c } ct := rfl
theorem workC_set10 (N : Net) (P : Pln) (u v x y : Value) : ((workC N P [u, v]).setIfInBounds 10 x).setIfInBounds 11 y = workC N P [x, y] := rfl
theorem WkS8 {W : World} {g : Nat} {N : Net} {P : Pln} {ct : List Value} (h : Blk W g (workC N P ct) 92) (p : Option Addr) (n c : Nat) : WkS g N P.fr P.till (W.setCell ⟨g, 8, none⟩ (.slice p n c)) := by
  have := h.set 8 (.slice p n c)
  rw [workC_set8] at this
  exact workC_S (P := { P with np := p, nn := n, nc := c }) this
theorem WkS9 {W : World} {g : Nat} {N : Net} {P : Pln} {ct : List Value} (h : Blk W g (workC N P ct) 92) (p : Option Addr) (n c : Nat) : WkS g N P.fr P.till (W.setCell ⟨g, 9, none⟩ (.slice p n c)) := by
  have := h.set 9 (.slice p n c)
  rw [workC_set9] at this
  exact workC_S (P := { P with dp := p, dn := n, dc := c }) this
set_option maxRecDepth 100000 in
set_option maxHeartbeats 1000000 in
theorem cRoute_c (N : Net) (P : Pln) (ct : List Value) (g : Nat) (w : World) (R) (hw : Blk w g (workC N P ct) 92) (hk : KwAt w) (hN : NetAt w N) (hS : soundB N = true) (hd : daysOk P.fr P.till = true)
    (hR : ∀ w2 gm, Below w.heap.size w w2 → MtO w.heap.size w2 gm N.offs.length (nextF' N P.fr P.till) → R (.returned (.int .i64 0)) (w2.setCell ⟨g, 8, none⟩ (.slice (some ⟨gm, 0, none⟩) N.offs.length N.offs.length))) :
    Calls Tryz.prog 36 #[.pointer (some ⟨g, 0, none⟩)] w R := by
  have HR := hide hR; have HN := hide hN; have HK := hide hk; have HS := hide hS; have HW := hide hw
  have hS0 := workC_S hw
  have hdd : 0 ≤ P.fr ∧ P.fr < P.till ∧ P.till ≤ 600 ∧ P.till - P.fr ≤ 60 := by
    unfold daysOk at hd; simp only [Bool.and_eq_true, decide_eq_true_eq] at hd; exact ⟨hd.1.1.1, hd.1.1.2, hd.1.2, hd.2⟩
  obtain ⟨d1, d2, d3, d4⟩ := hdd
  have KB : Hid (∀ W', Below w.heap.size w W' → WkS g N P.fr P.till W') := hide (fun W' hb => workC_S (hw.next hb))
  have e1 : IntKind.i64.wrap (1440 * P.fr) = 1440 * P.fr := IntWalk.i64_in _ (by omega)
  have e2 : IntKind.i64.wrap (1440 * P.till) = 1440 * P.till := IntWalk.i64_in _ (by omega)
  clear hR hN hk hw hS hd hS0
  go_enter Tryz.func36, Tryz.ntmps36
  go_wp2
  go_region_held3 (fun W' => W'.cell? ⟨g, 0, none⟩ = some (.slice N.cp N.cals.length N.cc) ∧ W'.cell? ⟨g, 1, none⟩ = some (.slice N.np N.names.length N.nc) ∧ W'.cell? ⟨g, 2, none⟩ = some (.slice N.op N.oprs.length N.oc) ∧ W'.cell? ⟨g, 3, none⟩ = some (.slice N.fp N.offs.length N.fc) ∧ W'.cell? ⟨g, 4, none⟩ = some (.slice N.lp N.lins.length N.lc) ∧ W'.cell? ⟨g, 5, none⟩ = some (.slice N.kp N.clss.length N.kc) ∧ W'.cell? ⟨g, 6, none⟩ = some (.int .i64 P.fr) ∧ W'.cell? ⟨g, 7, none⟩ = some (.int .i64 P.till))
    (first | exact KB.out _ (Below.refl _ _).drew | exact KB.out _ hbb | exact WkS8 HW2.out _ _ _)
    (first
    | (go_at_call 109
       refine next_c N (1440 * P.fr) (1440 * P.till) _ _ (HK.out.next (Below.refl _ _).drew) (HN.out.next (Below.refl _ _).drew) HS.out (by omega) (by omega) (by omega) (by omega) (fun W' gm hb hm => ?_)
       have hbb : Below w.heap.size w W' := bseq (Below.refl _ _).drew hb
       have HW2 := hide (HW.out.next hbb)
       have HM2 := hide hm
       have c8 := HW2.out.workP.2.2.1
       have f8 := HW2.out.free 8
       clear hm))
  have HF := hide (HR.out _ gm hbb HM2.out)
  clear hbb hb KB c8 f8 HW2 HM2
  go_wp2
  exact HF.out
set_option maxRecDepth 100000 in
set_option maxHeartbeats 1000000 in
theorem cPromise_c (N : Net) (P : Pln) (ct : List Value) (nx : Mat) (g : Nat) (w : World) (R) (hw : Blk w g (workC N P ct) 92) (hk : KwAt w) (hN : NetAt w N) (hS : soundB N = true) (hd : daysOk P.fr P.till = true) (hnn : P.nn = N.offs.length) (hM : MatAt w P.np N.offs.length nx) (hF : Formed N nx)
    (hR : ∀ w2 gd, Below w.heap.size w w2 → CubeB w2 N.clss.length N.offs.length (fun k o d => mostF N nx k o d P.fr P.till) gd → R (.returned (.int .i64 0)) (w2.setCell ⟨g, 9, none⟩ (.slice (some ⟨gd, 0, none⟩) N.clss.length N.clss.length))) :
    Calls Tryz.prog 38 #[.pointer (some ⟨g, 0, none⟩)] w R := by
  have HR := hide hR; have HN := hide hN; have HK := hide hk; have HS := hide hS; have HW := hide hw; have HM := hide hM; have HF := hide hF
  have hdd : 0 ≤ P.fr ∧ P.fr < P.till ∧ P.till ≤ 600 ∧ P.till - P.fr ≤ 60 := by
    unfold daysOk at hd; simp only [Bool.and_eq_true, decide_eq_true_eq] at hd; exact ⟨hd.1.1.1, hd.1.1.2, hd.1.2, hd.2⟩
  obtain ⟨d1, d2, d3, d4⟩ := hdd
  have KB : Hid (∀ W', Below w.heap.size w W' → W'.cell? ⟨g, 0, none⟩ = some (.slice N.cp N.cals.length N.cc) ∧ W'.cell? ⟨g, 1, none⟩ = some (.slice N.np N.names.length N.nc) ∧ W'.cell? ⟨g, 2, none⟩ = some (.slice N.op N.oprs.length N.oc) ∧ W'.cell? ⟨g, 3, none⟩ = some (.slice N.fp N.offs.length N.fc) ∧ W'.cell? ⟨g, 4, none⟩ = some (.slice N.lp N.lins.length N.lc) ∧ W'.cell? ⟨g, 5, none⟩ = some (.slice N.kp N.clss.length N.kc) ∧ W'.cell? ⟨g, 6, none⟩ = some (.int .i64 P.fr) ∧ W'.cell? ⟨g, 7, none⟩ = some (.int .i64 P.till) ∧ W'.cell? ⟨g, 8, none⟩ = some (.slice P.np N.offs.length P.nc)) := hide (fun W' hb => by
    obtain ⟨a1, a2, a3, a4, a5, a6, a7, a8⟩ := workC_S (hw.next hb)
    exact ⟨a1, a2, a3, a4, a5, a6, a7, a8, by have := (hw.next hb).workP.2.2.1; rwa [hnn] at this⟩)
  have KC : Hid (∀ (W' : World) v, Blk W' g (workC N P ct) 92 → (W'.setCell ⟨g, 9, none⟩ v).cell? ⟨g, 8, none⟩ = some (.slice P.np N.offs.length P.nc)) := hide (fun W' v h => by rw [← hnn]; exact (h.set 9 v).cell rfl)
  clear hR hN hk hw hS hd hM hF
  go_enter Tryz.func38, Tryz.ntmps38
  go_wp2
  go_region_held3 (fun W' => W'.cell? ⟨g, 0, none⟩ = some (.slice N.cp N.cals.length N.cc) ∧ W'.cell? ⟨g, 1, none⟩ = some (.slice N.np N.names.length N.nc) ∧ W'.cell? ⟨g, 2, none⟩ = some (.slice N.op N.oprs.length N.oc) ∧ W'.cell? ⟨g, 3, none⟩ = some (.slice N.fp N.offs.length N.fc) ∧ W'.cell? ⟨g, 4, none⟩ = some (.slice N.lp N.lins.length N.lc) ∧ W'.cell? ⟨g, 5, none⟩ = some (.slice N.kp N.clss.length N.kc) ∧ W'.cell? ⟨g, 6, none⟩ = some (.int .i64 P.fr) ∧ W'.cell? ⟨g, 7, none⟩ = some (.int .i64 P.till) ∧ W'.cell? ⟨g, 8, none⟩ = some (.slice P.np N.offs.length P.nc))
    (first | exact KB.out _ (Below.refl _ _).drew | exact KB.out _ hbb | exact ⟨HA.out.1, HA.out.2.1, HA.out.2.2.1, HA.out.2.2.2.1, HA.out.2.2.2.2.1, HA.out.2.2.2.2.2.1, HA.out.2.2.2.2.2.2.1, HA.out.2.2.2.2.2.2.2, KC.out _ _ HW2.out⟩)
    (first
    | (go_at_call 111
       refine pTable_c N P.np P.nc nx P.fr P.till _ _ (HK.out.next (Below.refl _ _).drew) (HN.out.next (Below.refl _ _).drew) HS.out (HM.out.next (Below.refl _ _).drew) HF.out d1 d2 d3 d4 (fun W' gd hb hm => ?_)
       have hbb : Below w.heap.size w W' := bseq (Below.refl _ _).drew hb
       have HW2 := hide (HW.out.next hbb)
       have HM2 := hide hm
       have HA := hide (WkS9 HW2.out (some ⟨gd, 0, none⟩) N.clss.length N.clss.length)
       have c8 := HW2.out.workP.2.2.2
       have f8 := HW2.out.free 9
       clear hm))
  have HF2 := hide (HR.out _ gd hbb HM2.out)
  clear hbb hb KB KC c8 f8 HW2 HM2 HA
  go_wp2
  exact HF2.out
end Go.Proofs.YtgfhcmidnbahjaaGreatDoor

namespace Go.Proofs.YtgfhcmidnbahjaaGreatDoor
open Go.RowKit Go.Shelf
attribute [local go_sem] Oper.semAt_some run_store_func

def WkT (g : Nat) (N : Net) (P : Pln) (W : World) : Prop :=
  W.cell? ⟨g, 0, none⟩ = some (.slice N.cp N.cals.length N.cc) ∧ W.cell? ⟨g, 1, none⟩ = some (.slice N.np N.names.length N.nc) ∧ W.cell? ⟨g, 2, none⟩ = some (.slice N.op N.oprs.length N.oc) ∧ W.cell? ⟨g, 3, none⟩ = some (.slice N.fp N.offs.length N.fc) ∧ W.cell? ⟨g, 4, none⟩ = some (.slice N.lp N.lins.length N.lc) ∧ W.cell? ⟨g, 5, none⟩ = some (.slice N.kp N.clss.length N.kc) ∧ W.cell? ⟨g, 6, none⟩ = some (.int .i64 P.fr) ∧ W.cell? ⟨g, 7, none⟩ = some (.int .i64 P.till) ∧ W.cell? ⟨g, 8, none⟩ = some (.slice P.np P.nn P.nc) ∧ W.cell? ⟨g, 9, none⟩ = some (.slice P.dp P.dn P.dc)
theorem workC_T {W : World} {g : Nat} {N : Net} {P : Pln} {ct : List Value} (h : Blk W g (workC N P ct) 92) : WkT g N P W := by
  obtain ⟨y0, y1, y2, y3, y4, y5⟩ := h.workN
  obtain ⟨p0, p1, p2, p3⟩ := h.workP
  exact ⟨y0, y1, y2, y3, y4, y5, p0, p1, p2, p3⟩
theorem WkT10 {W : World} {g : Nat} {N : Net} {P : Pln} {u v : Value} (h : Blk W g (workC N P [u, v]) 92) (x y : Value) : WkT g N P ((W.setCell ⟨g, 10, none⟩ x).setCell ⟨g, 11, none⟩ y) := by
  have := (h.set 10 x).set 11 y
  rw [workC_set10] at this
  exact workC_T this
set_option maxRecDepth 100000 in
set_option maxHeartbeats 1000000 in
theorem cCertify_c (N : Net) (P : Pln) (u v : Value) (nx : Mat) (C : Cube) (g : Nat) (w : World) (R) (hw : Blk w g (workC N P [u, v]) 92) (hk : KwAt w) (hN : NetAt w N) (hS : soundB N = true) (hM : MatAt w P.np N.offs.length nx) (hC : CubeAt w P.dp N.clss.length N.offs.length C) (hP : WrP N P nx C)
    (hok : ∀ w2 p cap, (numsF N nx C P.fr P.till).length ≤ 40000 → Below w.heap.size w w2 → w2.ownsRow w.heap.size 3 1 (.slice p (numsF N nx C P.fr P.till).length cap) (numsF N nx C P.fr P.till).length ((numsF N nx C P.fr P.till).map (Value.int .i64)) →
      R (.returned (.int .i64 0)) ((w2.setCell ⟨g, 10, none⟩ (.slice p (numsF N nx C P.fr P.till).length cap)).setCell ⟨g, 11, none⟩ (.int .i64 (sealF (numsF N nx C P.fr P.till)))))
    (her : ∀ w2, 40000 < (numsF N nx C P.fr P.till).length → Below w.heap.size w w2 → R (.returned (.int .i64 2)) ((w2.setCell ⟨g, 10, none⟩ (.slice none 0 0)).setCell ⟨g, 11, none⟩ (.int .i64 0))) :
    Calls Tryz.prog 39 #[.pointer (some ⟨g, 0, none⟩)] w R := by
  have HOk := hide hok; have HEr := hide her; have HN := hide hN; have HK := hide hk; have HS := hide hS; have HW := hide hw; have HM := hide hM; have HC := hide hC; have HP := hide hP
  have KB : Hid (∀ W', Below w.heap.size w W' → WkT g N P W') := hide (fun W' hb => workC_T (hw.next hb))
  obtain ⟨xs, hxs⟩ : ∃ xs, numsF N nx C P.fr P.till = xs := ⟨_, rfl⟩
  rw [hxs] at HOk HEr
  have Hxs := hide hxs
  clear hok her hN hk hS hw hM hC hP hxs
  by_cases hbig : xs.length ≤ 40000
  · have Hbig := hide hbig
    clear hbig
    go_enter Tryz.func39, Tryz.ntmps39
    go_wp2
    go_region_held3 (fun W' => W'.cell? ⟨g, 0, none⟩ = some (.slice N.cp N.cals.length N.cc) ∧ W'.cell? ⟨g, 1, none⟩ = some (.slice N.np N.names.length N.nc) ∧ W'.cell? ⟨g, 2, none⟩ = some (.slice N.op N.oprs.length N.oc) ∧ W'.cell? ⟨g, 3, none⟩ = some (.slice N.fp N.offs.length N.fc) ∧ W'.cell? ⟨g, 4, none⟩ = some (.slice N.lp N.lins.length N.lc) ∧ W'.cell? ⟨g, 5, none⟩ = some (.slice N.kp N.clss.length N.kc) ∧ W'.cell? ⟨g, 6, none⟩ = some (.int .i64 P.fr) ∧ W'.cell? ⟨g, 7, none⟩ = some (.int .i64 P.till) ∧ W'.cell? ⟨g, 8, none⟩ = some (.slice P.np P.nn P.nc) ∧ W'.cell? ⟨g, 9, none⟩ = some (.slice P.dp P.dn P.dc))
      (first | exact KB.out _ (Below.refl _ _).drew | exact KB.out _ hbb | exact WkT10 HW2.out _ _)
      (first
      | (go_at_call 112
         refine wWrite_c N P nx C _ _ (HK.out.next (Below.refl _ _).drew) (HN.out.next (Below.refl _ _).drew) HS.out (HM.out.next (Below.refl _ _).drew) (HC.out.next (Below.refl _ _).drew) HP.out (fun W' p cap hl hb hrow => ?_) (fun W' hl hb => absurd (Hbig.out) (by rw [Hxs.out] at hl; omega))
         rw [Hxs.out]
         rw [Hxs.out] at hrow
         have hbb : Below w.heap.size w W' := bseq (Below.refl _ _).drew hb
         have HW2 := hide (HW.out.next hbb)
         have HRow := hide hrow
         have c10 := HW2.out.cell (k := 10) (v := u) rfl; have c11 := HW2.out.cell (k := 11) (v := v) rfl
         have f10 := HW2.out.free 10; have f11 := HW2.out.free 11
         clear hrow hl))
    have HF := hide (HOk.out _ p cap Hbig.out hbb HRow.out)
    clear hbb hb KB c10 c11 f10 f11 HW2 HRow
    go_wp2
    exact HF.out
  · have Hbig := hide (show 40000 < xs.length by omega)
    clear hbig
    go_enter Tryz.func39, Tryz.ntmps39
    go_wp2
    go_region_held3 (fun W' => W'.cell? ⟨g, 0, none⟩ = some (.slice N.cp N.cals.length N.cc) ∧ W'.cell? ⟨g, 1, none⟩ = some (.slice N.np N.names.length N.nc) ∧ W'.cell? ⟨g, 2, none⟩ = some (.slice N.op N.oprs.length N.oc) ∧ W'.cell? ⟨g, 3, none⟩ = some (.slice N.fp N.offs.length N.fc) ∧ W'.cell? ⟨g, 4, none⟩ = some (.slice N.lp N.lins.length N.lc) ∧ W'.cell? ⟨g, 5, none⟩ = some (.slice N.kp N.clss.length N.kc) ∧ W'.cell? ⟨g, 6, none⟩ = some (.int .i64 P.fr) ∧ W'.cell? ⟨g, 7, none⟩ = some (.int .i64 P.till) ∧ W'.cell? ⟨g, 8, none⟩ = some (.slice P.np P.nn P.nc) ∧ W'.cell? ⟨g, 9, none⟩ = some (.slice P.dp P.dn P.dc))
      (first | exact KB.out _ (Below.refl _ _).drew | exact KB.out _ hbb | exact WkT10 HW2.out _ _)
      (first
      | (go_at_call 112
         refine wWrite_c N P nx C _ _ (HK.out.next (Below.refl _ _).drew) (HN.out.next (Below.refl _ _).drew) HS.out (HM.out.next (Below.refl _ _).drew) (HC.out.next (Below.refl _ _).drew) HP.out (fun W' p cap hl hb hrow => absurd (Hbig.out) (by rw [Hxs.out] at hl; omega)) (fun W' hl hb => ?_)
         have hbb : Below w.heap.size w W' := bseq (Below.refl _ _).drew hb
         have HW2 := hide (HW.out.next hbb)
         have c10 := HW2.out.cell (k := 10) (v := u) rfl; have c11 := HW2.out.cell (k := 11) (v := v) rfl
         have f10 := HW2.out.free 10; have f11 := HW2.out.free 11
         clear hl))
    have HF := hide (HEr.out _ Hbig.out hbb)
    clear hbb hb KB c10 c11 f10 f11 HW2
    go_wp2
    exact HF.out
end Go.Proofs.YtgfhcmidnbahjaaGreatDoor

namespace Go.Proofs.YtgfhcmidnbahjaaGreatDoor
open Go.RowKit Go.Shelf

theorem countF_range (c : Cal) (a b : Int) : -1 ≤ countF c a b ∧ countF c a b ≤ 2000 := by
  unfold countF
  split
  · omega
  · have : (daysF c (a + 1) (b - a).toNat).length ≤ (b - a).toNat := by
      unfold daysF
      exact Nat.le_trans (List.length_filter_le _ _) (by simp)
    omega
theorem needF_range {N : Net} {nx : Mat} {k o d : Nat} {cut y : Int} (h : needF N nx k o d cut = .ok y) : 0 ≤ y ∧ y ≤ 2000 := by
  obtain ⟨l, t, _, _, rfl, h0⟩ := need_ok h
  exact ⟨h0, (countF_range _ _ _).2⟩
theorem mostL_range {f : Int → Except Int Int} (hf : ∀ c y, f c = .ok y → y ≤ 2000) : ∀ (l : List Int) (m x : Int), -1 ≤ m → m ≤ 2000 → mostL f l m = some x → -1 ≤ x ∧ x ≤ 2000
  | [], m, x, h1, h2, h => by rw [mostL] at h; injection h with h; omega
  | c :: l, m, x, h1, h2, h => by
    rw [mostL] at h
    cases hc : f c with
    | error e => rw [hc] at h; cases h
    | ok y =>
      rw [hc] at h
      have := hf c y hc
      exact mostL_range hf l _ x (by omega) (by omega) h
theorem mostF_range (N : Net) (nx : Mat) (k o d : Nat) (fr till : Int) : -1 ≤ mostF N nx k o d fr till ∧ mostF N nx k o d fr till ≤ 2000 := by
  unfold mostF
  cases h : mostL (needF N nx k o d) (cutsOf N k o (1440 * fr) (1440 * till)) (-1) with
  | none => exact ⟨by decide, by decide⟩
  | some x => exact mostL_range (fun c y hc => (needF_range hc).2) _ _ _ (by decide) (by decide) h
theorem daysOk_iff {fr till : Int} : daysOk fr till = true ↔ 0 ≤ fr ∧ fr < till ∧ till ≤ 600 ∧ till - fr ≤ 60 := by
  unfold daysOk; simp only [Bool.and_eq_true, decide_eq_true_eq]
  exact ⟨fun h => ⟨h.1.1.1, h.1.1.2, h.1.2, h.2⟩, fun h => ⟨⟨⟨h.1, h.2.1⟩, h.2.2.1⟩, h.2.2.2⟩⟩
theorem plan_wrP {N : Net} {P : Pln} (hS : soundB N = true) (hd : daysOk P.fr P.till = true) (hn : P.nn = N.offs.length) (hk : P.dn = N.clss.length) : WrP N P (nextF' N P.fr P.till) (daysP N P.fr P.till) := by
  obtain ⟨d1, d2, d3, d4⟩ := daysOk_iff.1 hd
  refine ⟨snd_of hS, next_formed, hn, hk, fun k o d => ?_, d1, d2, d3, d4, fun k o d hk ho hd h => most_need h⟩
  have := mostF_range N (nextF' N P.fr P.till) k o d P.fr P.till
  exact ⟨this.1, by unfold daysP; omega⟩
/-! ### Matrices, tables, rows stay behind a store into a block of another type -/
section
variable {W : World} {g : Nat} {cs : Array Value} {t : TypeId}
theorem RowB.farT {n : Nat} {f : Nat → Int} {b : Nat} (h : RowB W n f b) (hg : Blk W g cs t) (ht : t ≠ 3) (j : Nat) (u : Value) : RowB (W.setCell ⟨g, j, none⟩ u) n f b := by
  obtain ⟨ds, h1, h2, h3⟩ := h
  exact ⟨ds, h1.far (p := ⟨g, j, none⟩) (Blk.ne_ h1 hg (fun e => ht e.symm)) u, h2, h3⟩
theorem MatB.farT {n : Nat} {M : Nat → Nat → Int} {b : Nat} (h : MatB W n M b) (hg : Blk W g cs t) (ht : t ≠ 3) (ht2 : t ≠ 40) (j : Nat) (u : Value) : MatB (W.setCell ⟨g, j, none⟩ u) n M b := by
  obtain ⟨ds, h1, h2, h3⟩ := h
  exact ⟨ds, h1.far (p := ⟨g, j, none⟩) (Blk.ne_ h1 hg (fun e => ht2 e.symm)) u, h2, fun i hi => by obtain ⟨gi, k1, k2, k3⟩ := h3 i hi; exact ⟨gi, k1, k2, k3.farT hg ht j u⟩⟩
theorem CubeB.farT {nk n : Nat} {C : Cube} {b : Nat} (h : CubeB W nk n C b) (hg : Blk W g cs t) (ht : t ≠ 3) (ht2 : t ≠ 40) (ht3 : t ≠ 36) (j : Nat) (u : Value) : CubeB (W.setCell ⟨g, j, none⟩ u) nk n C b := by
  obtain ⟨ds, h1, h2, h3⟩ := h
  exact ⟨ds, h1.far (p := ⟨g, j, none⟩) (Blk.ne_ h1 hg (fun e => ht3 e.symm)) u, h2, fun i hi => by obtain ⟨gi, k1, k2⟩ := h3 i hi; exact ⟨gi, k1, k2.farT hg ht ht2 j u⟩⟩
theorem CubeB.next {W' : World} {nk n : Nat} {C : Cube} {b : Nat} (h : CubeB W nk n C b) (hb : Below W.heap.size W W') : CubeB W' nk n C b := by
  obtain ⟨ds, h1, h2, h3⟩ := h
  exact ⟨ds, h1.next hb, h2, fun i hi => by obtain ⟨gi, k1, k2⟩ := h3 i hi; exact ⟨gi, k1, k2.next hb⟩⟩
theorem MtO.farT {A n b : Nat} {M : Nat → Nat → Int} (h : MtO A W b n M) (hg : Blk W g cs t) (ht : t ≠ 3) (ht2 : t ≠ 40) (j : Nat) (u : Value) : MtO A (W.setCell ⟨g, j, none⟩ u) b n M := by
  obtain ⟨h0, os, B, h1, h2, r, h3, hd⟩ := h
  refine ⟨h0, os, B, h1.far (p := ⟨g, j, none⟩) (Blk.ne_ h1 hg (fun e => ht2 e.symm)) u, h2, r, fun i hi => ?_, hd⟩
  obtain ⟨k1, k0, k2, ds, k3, k4⟩ := h3 i hi
  exact ⟨k1, k0, k2, ds, k3.far (p := ⟨g, j, none⟩) (Blk.ne_ k3 hg (fun e => ht e.symm)) u, k4⟩
theorem row_farT {base n : Nat} {v : Value} {xs : List Value} (h : W.ownsRow base 3 1 v n xs) (hg : Blk W g cs t) (ht : t ≠ 3) (j : Nat) (u : Value) : (W.setCell ⟨g, j, none⟩ u).ownsRow base 3 1 v n xs :=
  ownsRow_setCell_other h (a := ⟨g, j, none⟩) (fun e => own_ne_blk h hg (fun e => ht e.symm) e.symm) u
end
/-! ### Between the steps -/
def zeroP : Array Value := #[.int .i64 0, .int .i64 0, .slice none 0 0, .slice none 0 0]
def stepF (f : FuncId) : Value := .func (.func f) #[] #[]
structure CpB (B : Nat) (W : World) : Prop where
  pl : Blk W (B + 1) zeroP 39
  ce : Blk W (B + 1 + 1) #[.slice none 0 0, .int .i64 0] 42
  st : Blk W (B + 1 + 1 + 1 + 1) #[stepF 35, stepF 36, stepF 37, stepF 38, stepF 39] 96
theorem CpB.next {B : Nat} {W W' : World} (h : CpB B W) (hb : Below W.heap.size W W') : CpB B W' := ⟨h.pl.next hb, h.ce.next hb, h.st.next hb⟩
theorem CpB.set {B : Nat} {W : World} (h : CpB B W) (j : Nat) (u : Value) : CpB B (W.setCell ⟨B + 1 + 1 + 1, j, none⟩ u) :=
  ⟨h.pl.far (p := ⟨B + 1 + 1 + 1, j, none⟩) (show B + 1 ≠ B + 1 + 1 + 1 by omega) u, h.ce.far (p := ⟨B + 1 + 1 + 1, j, none⟩) (show B + 1 + 1 ≠ B + 1 + 1 + 1 by omega) u, h.st.far (p := ⟨B + 1 + 1 + 1, j, none⟩) (show B + 1 + 1 + 1 + 1 ≠ B + 1 + 1 + 1 by omega) u⟩
def plan0 (fr till : Int) : Pln := ⟨fr, till, none, 0, 0, none, 0, 0⟩
def plan1 (fr till : Int) (gm n : Nat) : Pln := ⟨fr, till, some ⟨gm, 0, none⟩, n, n, none, 0, 0⟩
def plan2 (fr till : Int) (gm n gd nk : Nat) : Pln := ⟨fr, till, some ⟨gm, 0, none⟩, n, n, some ⟨gd, 0, none⟩, nk, nk⟩
def ct0 : List Value := [.slice none 0 0, .int .i64 0]
def CpW (B : Nat) (N : Net) (P : Pln) (ct : List Value) (W : World) : Prop := Blk W (B + 1 + 1 + 1) (workC N P ct) 92
/-- What stands behind i steps. -/
def CpS (w : World) (N : Net) (fr till : Int) : Nat → World → Prop
  | 0, W => Below w.heap.size w W ∧ CpB w.heap.size W ∧ CpW w.heap.size N (plan0 fr till) ct0 W
  | 1, W => (daysOk fr till = true ∧ soundB N = true) ∧ Below w.heap.size w W ∧ CpB w.heap.size W ∧ CpW w.heap.size N (plan0 fr till) ct0 W
  | 2, W => (daysOk fr till = true ∧ soundB N = true) ∧ Below w.heap.size w W ∧ CpB w.heap.size W ∧ ∃ gm, CpW w.heap.size N (plan1 fr till gm N.offs.length) ct0 W ∧ MtO w.heap.size W gm N.offs.length (nextF' N fr till)
  | 3, W => (daysOk fr till = true ∧ soundB N = true ∧ sortB N (nextF' N fr till) = true) ∧ Below w.heap.size w W ∧ CpB w.heap.size W ∧ ∃ gm, CpW w.heap.size N (plan1 fr till gm N.offs.length) ct0 W ∧ MtO w.heap.size W gm N.offs.length (nextF' N fr till)
  | 4, W => (daysOk fr till = true ∧ soundB N = true ∧ sortB N (nextF' N fr till) = true) ∧ Below w.heap.size w W ∧ CpB w.heap.size W ∧ ∃ gm gd, CpW w.heap.size N (plan2 fr till gm N.offs.length gd N.clss.length) ct0 W ∧ MtO w.heap.size W gm N.offs.length (nextF' N fr till) ∧ CubeB W N.clss.length N.offs.length (daysP N fr till) gd
  | 5, W => (compErr N fr till = 0) ∧ Below w.heap.size w W ∧ CpB w.heap.size W ∧ ∃ gm gd p cap, CpW w.heap.size N (plan2 fr till gm N.offs.length gd N.clss.length) [.slice p (certF N fr till).length cap, .int .i64 (sealF (certF N fr till))] W ∧ MtO w.heap.size W gm N.offs.length (nextF' N fr till) ∧ CubeB W N.clss.length N.offs.length (daysP N fr till) gd ∧
      W.ownsRow w.heap.size 3 1 (.slice p (certF N fr till).length cap) (certF N fr till).length ((certF N fr till).map (Value.int .i64))
  | _, _ => False
theorem CpS.lt {w : World} {N : Net} {fr till : Int} {i : Nat} {W : World} (h : CpS w N fr till i W) : i ≤ 5 := by
  match i, h with
  | 0, _ => omega
  | 1, _ => omega
  | 2, _ => omega
  | 3, _ => omega
  | 4, _ => omega
  | 5, _ => omega
theorem CpS.bl {w : World} {N : Net} {fr till : Int} {i : Nat} {W : World} (h : CpS w N fr till i W) : Below w.heap.size w W ∧ CpB w.heap.size W := by
  match i, h with
  | 0, h => exact ⟨h.1, h.2.1⟩
  | 1, h => exact ⟨h.2.1, h.2.2.1⟩
  | 2, h => exact ⟨h.2.1, h.2.2.1⟩
  | 3, h => exact ⟨h.2.1, h.2.2.1⟩
  | 4, h => exact ⟨h.2.1, h.2.2.1⟩
  | 5, h => exact ⟨h.2.1, h.2.2.1⟩
theorem CpS.next {w : World} {N : Net} {fr till : Int} {i : Nat} {W W' : World} (h : CpS w N fr till i W) (hb : Below W.heap.size W W') : CpS w N fr till i W' := by
  match i, h with
  | 0, h => exact ⟨bseq h.1 hb, h.2.1.next hb, Blk.next h.2.2 hb⟩
  | 1, h => exact ⟨h.1, bseq h.2.1 hb, h.2.2.1.next hb, Blk.next h.2.2.2 hb⟩
  | 2, h => obtain ⟨h1, h2, h3, gm, h4, h5⟩ := h; exact ⟨h1, bseq h2 hb, h3.next hb, gm, Blk.next h4 hb, MrO.next h5 hb⟩
  | 3, h => obtain ⟨h1, h2, h3, gm, h4, h5⟩ := h; exact ⟨h1, bseq h2 hb, h3.next hb, gm, Blk.next h4 hb, MrO.next h5 hb⟩
  | 4, h => obtain ⟨h1, h2, h3, gm, gd, h4, h5, h6⟩ := h; exact ⟨h1, bseq h2 hb, h3.next hb, gm, gd, Blk.next h4 hb, MrO.next h5 hb, h6.next hb⟩
  | 5, h => obtain ⟨h1, h2, h3, gm, gd, p, cap, h4, h5, h6, h7⟩ := h; exact ⟨h1, bseq h2 hb, h3.next hb, gm, gd, p, cap, Blk.next h4 hb, MrO.next h5 hb, h6.next hb, own_below h7 hb⟩
end Go.Proofs.YtgfhcmidnbahjaaGreatDoor
