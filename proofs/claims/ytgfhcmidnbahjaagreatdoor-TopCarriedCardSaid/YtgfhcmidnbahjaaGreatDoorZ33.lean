/- Compile: each step, from state to state. Compile: the plan of a network for some days, with its certificate; or the error. Transition: demand, code, what recovers (printed by genTB.py from promise's texts). Transition: networks alike, plans usable. -/
import Derived.Test.YtgfhcmidnbahjaaGreatDoorZ32
import Derived.Test.YtgfhcmidnbahjaaGreatDoorZ23
set_option linter.unusedVariables false
set_option linter.unusedSimpArgs false
namespace Go.Proofs.YtgfhcmidnbahjaaGreatDoor
open Go.RowKit Go.Shelf

def stepFn : Nat → FuncId
  | 0 => 35
  | 1 => 36
  | 2 => 37
  | 3 => 38
  | _ => 39
theorem stepFn_at {i : Nat} (h : i < 5) : (#[stepF 35, stepF 36, stepF 37, stepF 38, stepF 39] : Array Value)[i]? = some (.func (.func (stepFn i)) #[] #[]) := by
  match i, h with
  | 0, _ => rfl
  | 1, _ => rfl
  | 2, _ => rfl
  | 3, _ => rfl
  | 4, _ => rfl
theorem stepFn_enters {i : Nat} (h : i < 5) : ∀ args w, (callFunc (stepFn i) args).run Tryz.prog w = .ok (.enter (stepFn i) args) w := by
  match i, h with
  | 0, _ => exact enters_of Tryz.func35 (by kernel_rfl) rfl
  | 1, _ => exact enters_of Tryz.func36 (by kernel_rfl) rfl
  | 2, _ => exact enters_of Tryz.func37 (by kernel_rfl) rfl
  | 3, _ => exact enters_of Tryz.func38 (by kernel_rfl) rfl
  | 4, _ => exact enters_of Tryz.func39 (by kernel_rfl) rfl
theorem compErr_1 {N : Net} {fr till : Int} (h : ¬ (daysOk fr till && soundB N) = true) : compErr N fr till = 1 := by
  unfold compErr
  cases hx : (daysOk fr till && soundB N) with
  | true => exact absurd hx h
  | false => rfl
theorem compErr_140 {N : Net} {fr till : Int} (h : daysOk fr till = true) (h2 : soundB N = true) (h3 : ¬ sortB N (nextF' N fr till) = true) : compErr N fr till = 140 := by
  unfold compErr
  rw [h, h2]
  cases hx : sortB N (nextF' N fr till) with
  | true => exact absurd hx h3
  | false => rfl
theorem compErr_last {N : Net} {fr till : Int} (h : daysOk fr till = true) (h2 : soundB N = true) (h3 : sortB N (nextF' N fr till) = true) : compErr N fr till = if 40000 < (certF N fr till).length then 2 else 0 := by
  unfold compErr
  rw [h, h2, h3]; rfl
set_option maxHeartbeats 1000000 in
theorem step_c (w : World) (N : Net) (fr till : Int) (i : Nat) (W : World) (R) (hi : i < 5) (hk : KwAt w) (hN : NetAt w N) (hS : CpS w N fr till i W)
    (hok : ∀ W', CpS w N fr till (i + 1) W' → R (.returned (.int .i64 0)) W') (her : ∀ e W', compErr N fr till = e → e ≠ 0 → Below w.heap.size w W' → CpB w.heap.size W' → R (.returned (.int .i64 e)) W') :
    Calls Tryz.prog (stepFn i) #[.pointer (some ⟨w.heap.size + 1 + 1 + 1, 0, none⟩)] W R := by
  obtain ⟨hB, hCp⟩ := hS.bl
  have hkW := hk.next hB
  have hNW := hN.next hB
  match i, hi, hS with
  | 0, _, hS =>
    obtain ⟨_, _, hw⟩ := hS
    refine cCheck_c N (plan0 fr till) ct0 _ W R hw hkW hNW (fun W' hb => ?_)
    show R (.returned (.int .i64 (if (daysOk fr till && soundB N) = true then 0 else 1))) W'
    by_cases hc : (daysOk fr till && soundB N) = true
    · rw [if_pos hc]
      have hc2 := hc
      simp only [Bool.and_eq_true] at hc2
      exact hok W' ⟨hc2, bseq hB hb, hCp.next hb, Blk.next hw hb⟩
    · rw [if_neg hc]
      exact her 1 W' (compErr_1 hc) (by decide) (bseq hB hb) (hCp.next hb)
  | 1, _, hS =>
    obtain ⟨⟨hd, hs⟩, _, _, hw⟩ := hS
    refine cRoute_c N (plan0 fr till) ct0 _ W R hw hkW hNW hs hd (fun w2 gm hb hm => ?_)
    have hw2 : Blk w2 _ (workC N (plan0 fr till) ct0) 92 := Blk.next hw hb
    have hw3 := hw2.set 8 (.slice (some ⟨gm, 0, none⟩) N.offs.length N.offs.length)
    rw [workC_set8] at hw3
    exact hok _ ⟨⟨hd, hs⟩, (bseq hB hb).setCell (p := ⟨w.heap.size + 1 + 1 + 1, 8, none⟩) (show w.heap.size ≤ w.heap.size + 1 + 1 + 1 by omega) _, (hCp.next hb).set _ _, gm, hw3, MtO.farT (MrO.mono hm hB.size) hw2 (by decide) (by decide) _ _⟩
  | 2, _, hS =>
    obtain ⟨⟨hd, hs⟩, _, _, gm, hw, hm⟩ := hS
    have hSn := snd_of hs
    refine cSort_c N (plan1 fr till gm N.offs.length) ct0 (nextF' N fr till) _ W R hw hNW hSn (MtO.mat hm) rfl (fun o d ho hd' => ?_) (fun W' hb => ?_)
    · have := (next_formed (N := N) (cost := costsF N fr till) (bound := boundF N fr till)).range hSn.nlin ho hd'
      have e : nextF' N fr till o d = nextM N (costsF N fr till) (boundF N fr till) o d := rfl
      rw [e]; omega
    · by_cases hc : sortB N (nextF' N fr till) = true
      · rw [if_pos hc]
        exact hok W' ⟨⟨hd, hs, hc⟩, bseq hB hb, hCp.next hb, gm, Blk.next hw hb, MrO.next hm hb⟩
      · rw [if_neg hc]
        exact her 140 W' (compErr_140 hd hs hc) (by decide) (bseq hB hb) (hCp.next hb)
  | 3, _, hS =>
    obtain ⟨⟨hd, hs, hso⟩, _, _, gm, hw, hm⟩ := hS
    refine cPromise_c N (plan1 fr till gm N.offs.length) ct0 (nextF' N fr till) _ W R hw hkW hNW hs hd rfl (MtO.mat hm) next_formed (fun w2 gd hb hc => ?_)
    have hw2 : Blk w2 _ (workC N (plan1 fr till gm N.offs.length) ct0) 92 := Blk.next hw hb
    have hw3 := hw2.set 9 (.slice (some ⟨gd, 0, none⟩) N.clss.length N.clss.length)
    rw [workC_set9] at hw3
    exact hok _ ⟨⟨hd, hs, hso⟩, (bseq hB hb).setCell (p := ⟨w.heap.size + 1 + 1 + 1, 9, none⟩) (show w.heap.size ≤ w.heap.size + 1 + 1 + 1 by omega) _, (hCp.next hb).set _ _, gm, gd, hw3, MtO.farT (MrO.next hm hb) hw2 (by decide) (by decide) _ _, CubeB.farT hc hw2 (by decide) (by decide) (by decide) _ _⟩
  | 4, _, hS =>
    obtain ⟨⟨hd, hs, hso⟩, _, _, gm, gd, hw, hm, hc⟩ := hS
    refine cCertify_c N (plan2 fr till gm N.offs.length gd N.clss.length) (.slice none 0 0) (.int .i64 0) (nextF' N fr till) (daysP N fr till) _ W R hw hkW hNW hs (MtO.mat hm) hc.at_ (plan_wrP (P := plan2 fr till gm N.offs.length gd N.clss.length) hs hd rfl rfl) (fun w2 p cap hl hb hrow => ?_) (fun w2 hl hb => ?_)
    · have hl' : ¬ 40000 < (certF N fr till).length := Nat.not_lt.2 hl
      have hw2 : Blk w2 _ (workC N (plan2 fr till gm N.offs.length gd N.clss.length) [.slice none 0 0, .int .i64 0]) 92 := Blk.next hw hb
      have hw3 := hw2.set 10 (.slice p (certF N fr till).length cap)
      have hw4 := hw3.set 11 (.int .i64 (sealF (certF N fr till)))
      rw [workC_set10] at hw4
      refine hok _ ⟨by rw [compErr_last hd hs hso, if_neg hl'], ((bseq hB hb).setCell (p := ⟨w.heap.size + 1 + 1 + 1, 10, none⟩) (show w.heap.size ≤ w.heap.size + 1 + 1 + 1 by omega) _).setCell (p := ⟨w.heap.size + 1 + 1 + 1, 11, none⟩) (show w.heap.size ≤ w.heap.size + 1 + 1 + 1 by omega) _, ((hCp.next hb).set _ _).set _ _, gm, gd, p, cap, hw4, ?_, ?_, ?_⟩
      · exact MtO.farT (MtO.farT (MrO.next hm hb) hw2 (by decide) (by decide) _ _) hw3 (by decide) (by decide) _ _
      · exact CubeB.farT (CubeB.farT (CubeB.next hc hb) hw2 (by decide) (by decide) (by decide) _ _) hw3 (by decide) (by decide) (by decide) _ _
      · exact row_farT (row_farT (own_mono hrow hB.size) hw2 (by decide) _ _) hw3 (by decide) _ _
    · have hl' : 40000 < (certF N fr till).length := hl
      exact her 2 _ (by rw [compErr_last hd hs hso, if_pos hl']) (by decide) (((bseq hB hb).setCell (p := ⟨w.heap.size + 1 + 1 + 1, 10, none⟩) (show w.heap.size ≤ w.heap.size + 1 + 1 + 1 by omega) _).setCell (p := ⟨w.heap.size + 1 + 1 + 1, 11, none⟩) (show w.heap.size ≤ w.heap.size + 1 + 1 + 1 by omega) _) (((hCp.next hb).set _ _).set _ _)
end Go.Proofs.YtgfhcmidnbahjaaGreatDoor

namespace Go.Proofs.YtgfhcmidnbahjaaGreatDoor
open Go.RowKit Go.Shelf
attribute [local go_sem] Oper.semAt_some run_store_func

/-- What Compile hands back: the plan, with its tables, and the certificate. -/
structure PlanAt (base : Nat) (N : Net) (fr till : Int) (P : Pln) (p : Option Addr) (cap : Nat) (W : World) : Prop where
  pfr : P.fr = fr
  ptill : P.till = till
  nn : P.nn = N.offs.length
  dn : P.dn = N.clss.length
  next : MatAt W P.np N.offs.length (nextF' N fr till)
  days : CubeAt W P.dp N.clss.length N.offs.length (daysP N fr till)
  cert : W.ownsRow base 3 1 (.slice p (certF N fr till).length cap) (certF N fr till).length ((certF N fr till).map (Value.int .i64))
  nnc : P.nn ≤ P.nc
  dnc : P.dn ≤ P.dc
/-- The results are laid. -/
def layR (B : Nat) (x0 x1 x2 x3 y0 y1 : Value) (W : World) : World :=
  (((((W.setCell ⟨B + 1, 0, none⟩ x0).setCell ⟨B + 1, 1, none⟩ x1).setCell ⟨B + 1, 2, none⟩ x2).setCell ⟨B + 1, 3, none⟩ x3).setCell ⟨B + 1 + 1, 0, none⟩ y0).setCell ⟨B + 1 + 1, 1, none⟩ y1
theorem layR_blk {B : Nat} {W : World} {x0 x1 x2 x3 y0 y1 u0 u1 u2 u3 v0 v1 : Value} (h : Blk W (B + 1) #[u0, u1, u2, u3] 39) (k : Blk W (B + 1 + 1) #[v0, v1] 42) :
    Blk (layR B x0 x1 x2 x3 y0 y1 W) (B + 1) #[x0, x1, x2, x3] 39 ∧ Blk (layR B x0 x1 x2 x3 y0 y1 W) (B + 1 + 1) #[y0, y1] 42 := by
  have n1 : B + 1 ≠ B + 1 + 1 := by omega
  have n2 : B + 1 + 1 ≠ B + 1 := by omega
  unfold layR
  exact ⟨((((((h.set 0 x0).set 1 x1).set 2 x2).set 3 x3).far (p := ⟨B + 1 + 1, 0, none⟩) n1 y0).far (p := ⟨B + 1 + 1, 1, none⟩) n1 y1),
    ((((((k.far (p := ⟨B + 1, 0, none⟩) n2 x0).far (p := ⟨B + 1, 1, none⟩) n2 x1).far (p := ⟨B + 1, 2, none⟩) n2 x2).far (p := ⟨B + 1, 3, none⟩) n2 x3).set 0 y0).set 1 y1)⟩
theorem layR_below {w W : World} {x0 x1 x2 x3 y0 y1 : Value} (h : Below w.heap.size w W) : Below w.heap.size w (layR w.heap.size x0 x1 x2 x3 y0 y1 W) := by
  have n1 : w.heap.size ≤ w.heap.size + 1 := by omega
  have n2 : w.heap.size ≤ w.heap.size + 1 + 1 := by omega
  unfold layR
  exact (((((h.setCell (p := ⟨w.heap.size + 1, 0, none⟩) n1 _).setCell (p := ⟨w.heap.size + 1, 1, none⟩) n1 _).setCell (p := ⟨w.heap.size + 1, 2, none⟩) n1 _).setCell (p := ⟨w.heap.size + 1, 3, none⟩) n1 _).setCell (p := ⟨w.heap.size + 1 + 1, 0, none⟩) n2 _).setCell (p := ⟨w.heap.size + 1 + 1, 1, none⟩) n2 _
theorem mem_layR {W : World} {B : Nat} {x0 x1 x2 x3 y0 y1 u0 u1 u2 u3 v0 v1 : Value} (h : Blk W (B + 1) #[u0, u1, u2, u3] 39) (k : Blk W (B + 1 + 1) #[v0, v1] 42) {g n : Nat} {M : Nat → Nat → Int} {A : Nat} (hm : MtO A W g n M) : MtO A (layR B x0 x1 x2 x3 y0 y1 W) g n M := by
  have n2 : B + 1 + 1 ≠ B + 1 := by omega
  unfold layR
  have k1 := k.far (p := ⟨B + 1, 0, none⟩) n2 x0
  have k2 := k1.far (p := ⟨B + 1, 1, none⟩) n2 x1
  have k3 := k2.far (p := ⟨B + 1, 2, none⟩) n2 x2
  have k4 := k3.far (p := ⟨B + 1, 3, none⟩) n2 x3
  exact MtO.farT (MtO.farT (MtO.farT (MtO.farT (MtO.farT (MtO.farT hm h (by decide) (by decide) _ _) (h.set 0 x0) (by decide) (by decide) _ _) ((h.set 0 x0).set 1 x1) (by decide) (by decide) _ _) (((h.set 0 x0).set 1 x1).set 2 x2) (by decide) (by decide) _ _) k4 (by decide) (by decide) _ _) (k4.set 0 y0) (by decide) (by decide) _ _
theorem cube_layR {W : World} {B : Nat} {x0 x1 x2 x3 y0 y1 u0 u1 u2 u3 v0 v1 : Value} (h : Blk W (B + 1) #[u0, u1, u2, u3] 39) (k : Blk W (B + 1 + 1) #[v0, v1] 42) {g nk n : Nat} {C : Cube} (hm : CubeB W nk n C g) : CubeB (layR B x0 x1 x2 x3 y0 y1 W) nk n C g := by
  have n2 : B + 1 + 1 ≠ B + 1 := by omega
  unfold layR
  have k1 := k.far (p := ⟨B + 1, 0, none⟩) n2 x0
  have k2 := k1.far (p := ⟨B + 1, 1, none⟩) n2 x1
  have k3 := k2.far (p := ⟨B + 1, 2, none⟩) n2 x2
  have k4 := k3.far (p := ⟨B + 1, 3, none⟩) n2 x3
  exact CubeB.farT (CubeB.farT (CubeB.farT (CubeB.farT (CubeB.farT (CubeB.farT hm h (by decide) (by decide) (by decide) _ _) (h.set 0 x0) (by decide) (by decide) (by decide) _ _) ((h.set 0 x0).set 1 x1) (by decide) (by decide) (by decide) _ _) (((h.set 0 x0).set 1 x1).set 2 x2) (by decide) (by decide) (by decide) _ _) k4 (by decide) (by decide) (by decide) _ _) (k4.set 0 y0) (by decide) (by decide) (by decide) _ _
theorem row_layR {W : World} {B : Nat} {x0 x1 x2 x3 y0 y1 u0 u1 u2 u3 v0 v1 : Value} (h : Blk W (B + 1) #[u0, u1, u2, u3] 39) (k : Blk W (B + 1 + 1) #[v0, v1] 42) {base n : Nat} {v : Value} {xs : List Value} (hm : W.ownsRow base 3 1 v n xs) : (layR B x0 x1 x2 x3 y0 y1 W).ownsRow base 3 1 v n xs := by
  have n2 : B + 1 + 1 ≠ B + 1 := by omega
  unfold layR
  have k1 := k.far (p := ⟨B + 1, 0, none⟩) n2 x0
  have k2 := k1.far (p := ⟨B + 1, 1, none⟩) n2 x1
  have k3 := k2.far (p := ⟨B + 1, 2, none⟩) n2 x2
  have k4 := k3.far (p := ⟨B + 1, 3, none⟩) n2 x3
  exact row_farT (row_farT (row_farT (row_farT (row_farT (row_farT hm h (by decide) _ _) (h.set 0 x0) (by decide) _ _) ((h.set 0 x0).set 1 x1) (by decide) _ _) (((h.set 0 x0).set 1 x1).set 2 x2) (by decide) _ _) k4 (by decide) _ _) (k4.set 0 y0) (by decide) _ _
/-- What the work holds at the end. -/
def WkE (B : Nat) (fr till : Int) (gm n gd nk : Nat) (p : Option Addr) (l cap : Nat) (s : Int) (W : World) : Prop :=
  W.cell? ⟨B + 1 + 1 + 1, 6, none⟩ = some (.int .i64 fr) ∧ W.cell? ⟨B + 1 + 1 + 1, 7, none⟩ = some (.int .i64 till) ∧ W.cell? ⟨B + 1 + 1 + 1, 8, none⟩ = some (.slice (some ⟨gm, 0, none⟩) n n) ∧ W.cell? ⟨B + 1 + 1 + 1, 9, none⟩ = some (.slice (some ⟨gd, 0, none⟩) nk nk) ∧
  W.cell? ⟨B + 1 + 1 + 1, 10, none⟩ = some (.slice p l cap) ∧ W.cell? ⟨B + 1 + 1 + 1, 11, none⟩ = some (.int .i64 s)
set_option maxRecDepth 100000 in
set_option maxHeartbeats 1000000 in
theorem compile_c (N : Net) (fr till : Int) (w : World) (R) (hk : KwAt w) (hN : NetAt w N)
    (hok : ∀ w' P p cap, compErr N fr till = 0 → Below w.heap.size w w' → PlanAt w.heap.size N fr till P p cap w' → R (.returned (.tuple #[.agg P.cells.toArray, .agg #[.slice p (certF N fr till).length cap, .int .i64 (sealF (certF N fr till))], .int .i64 0])) w')
    (her : ∀ w', compErr N fr till ≠ 0 → Below w.heap.size w w' → R (.returned (.tuple #[.agg zeroP, .agg #[.slice none 0 0, .int .i64 0], .int .i64 (compErr N fr till)])) w') :
    Calls Tryz.prog 9 #[.agg N.cells, .int .i64 fr, .int .i64 till] w R := by
  have HOk := hide hok; have HEr := hide her; have HN := hide hN; have HK := hide hk
  obtain ⟨w1, hw1⟩ : ∃ w1, ((w.alloc (.cells N.cells 29)).alloc (.cells zeroP 39)).alloc (.cells #[.slice none 0 0, .int .i64 0] 42) = w1 := ⟨_, rfl⟩
  have kN : Blk w1 w.heap.size N.cells 29 := by rw [← hw1]; repeat (first | exact Blk.new_at (by simp) | refine Blk.alloc ?_ _)
  obtain ⟨y0, y1, y2, y3, y4, y5⟩ := kN.net6
  have hs1 : w1.heap.size = w.heap.size + 1 + 1 + 1 := by rw [← hw1]; simp
  have H0 : Hid (CpS w N fr till 0 ((w1.alloc (.cells (workC N (plan0 fr till) ct0) 92)).alloc (.cells #[stepF 35, stepF 36, stepF 37, stepF 38, stepF 39] 96))) := hide (by
    have hb1 : Below w.heap.size w w1 := hw1 ▸ balloc (balloc (balloc (Below.refl _ _) _) _) _
    refine ⟨balloc (balloc hb1 _) _, ⟨?_, ?_, ?_⟩, ?_⟩
    · rw [← hw1]; repeat (first | exact Blk.new_at (by simp) | refine Blk.alloc ?_ _)
    · rw [← hw1]; repeat (first | exact Blk.new_at (by simp) | refine Blk.alloc ?_ _)
    · exact Blk.new_at (by simp [hs1])
    · exact Blk.alloc (Blk.new_at (by omega)) _)
  unfold Net.cells zeroP at hw1
  clear hok her hN hk kN
  unfold Net.cells
  go_enter Tryz.func9, Tryz.ntmps9
  go_wp2
  clear y0 y1 y2 y3 y4 y5
  have H0' := H0.out
  unfold workC Net.cells Pln.cells plan0 ct0 stepF at H0'
  change CpS w N fr till 0 ((w1.alloc (.cells #[.slice N.cp N.cals.length N.cc, .slice N.np N.names.length N.nc, .slice N.op N.oprs.length N.oc, .slice N.fp N.offs.length N.fc, .slice N.lp N.lins.length N.lc, .slice N.kp N.clss.length N.kc, .int .i64 fr, .int .i64 till, .slice none 0 0, .slice none 0 0, .slice none 0 0, .int .i64 0] 92)).alloc (.cells #[.func (.func 35) #[] #[], .func (.func 36) #[] #[], .func (.func 37) #[] #[], .func (.func 38) #[] #[], .func (.func 39) #[] #[]] 96)) at H0'
  have H0 := hide H0'
  clear H0' hs1 hw1
  go_loopw [28] (fun si wr => ∃ i : Nat, i ≤ 5 ∧ si = .int .i64 (i : Int) ∧ Hid (CpS w N fr till i wr)) (fun si _ => 5 - (intOf si).toNat)
  case atStart => exact ⟨0, by decide, rfl, H0⟩
  case round =>
    clear H0
    obtain ⟨i, hi, rfl, HS⟩ := hrel
    by_cases hlt : i < 5
    · have q1 : (0 : Int) ≤ (i : Int) := by omega
      have q2 : (i : Int) < 5 := by omega
      have c0 := HS.out.bl.2.st.cell (stepFn_at hlt)
      have eg := stepFn_enters hlt
      have HS1 := hide (HS.out.next (balloc (Below.refl wr.heap.size wr) (.cells #[.func (.func (stepFn i)) #[] #[]] 96)))
      have Hlt := hide hlt
      clear c0
      have c0 := HS.out.bl.2.st.cell (stepFn_at hlt)
      go_wp2
      refine step_c w N fr till i _ _ Hlt.out HK.out HN.out HS1.out (fun W' hS' => ?_) (fun e W' he hne hb hC => ?_)
      · have HS2 := hide hS'
        clear hS' c0 eg HS HS1
        go_wp2
        go_roundw
        case rel => exact ⟨i + 1, Hlt.out, by go_num, HS2⟩
        case measure => have := Hlt.out; simp [intOf]; omega
      · have HF := hide HEr.out
        rw [he] at HF
        have HB := hide hb; have HC := hide hC; have Hne := hide hne
        have a0 := hC.pl.cell (k := 0) (v := .int .i64 0) rfl; have a1 := hC.pl.cell (k := 1) (v := .int .i64 0) rfl; have a2 := hC.pl.cell (k := 2) (v := .slice none 0 0) rfl; have a3 := hC.pl.cell (k := 3) (v := .slice none 0 0) rfl
        have f0 := hC.pl.free 0; have f1 := hC.pl.free 1; have f2 := hC.pl.free 2; have f3 := hC.pl.free 3
        have b0 := hC.ce.cell (k := 0) (v := .slice none 0 0) rfl; have b1 := hC.ce.cell (k := 1) (v := .int .i64 0) rfl
        have g0 := hC.ce.free 0; have g1 := hC.ce.free 1
        have t1 : (e != (0 : Int)) = true := by simpa using hne
        clear c0 eg HS HS1 he hne hb hC
        go_wp2
        obtain ⟨z, zz⟩ := layR_blk (x0 := .int .i64 0) (x1 := .int .i64 0) (x2 := .slice none 0 0) (x3 := .slice none 0 0) (y0 := .slice none 0 0) (y1 := .int .i64 0) HC.out.pl HC.out.ce
        refine bodyPost_ret (v := .tuple #[.agg zeroP, .agg #[.slice none 0 0, .int .i64 0], .int .i64 e]) ?_ rfl (HF.out _ Hne.out (layR_below (x0 := .int .i64 0) (x1 := .int .i64 0) (x2 := .slice none 0 0) (x3 := .slice none 0 0) (y0 := .slice none 0 0) (y1 := .int .i64 0) HB.out))
        have z0 := z.cell (k := 0) rfl; have z1 := z.cell (k := 1) rfl; have z2 := z.cell (k := 2) rfl; have z3 := z.cell (k := 3) rfl
        have z4 := zz.cell (k := 0) rfl; have z5 := zz.cell (k := 1) rfl
        unfold layR at z0 z1 z2 z3 z4 z5
        clear z zz a0 a1 a2 a3 b0 b1 f0 f1 f2 f3 g0 g1
        simp [results, Tryz.results9, go_sem, z0, z1, z2, z3, z4, z5, zeroP]
    · obtain rfl : i = 5 := by omega
      obtain ⟨hce, hB, hC, gm, gd, p, cap, hw, hm, hcu, hrow⟩ := HS.out
      obtain ⟨cn, hcn⟩ : ∃ cn, certF N fr till = cn := ⟨_, rfl⟩
      rw [hcn] at hw hrow
      have Hcn := hide hcn
      have Hce := hide hce; have HB := hide hB; have HC := hide hC; have Hm := hide hm; have Hcu := hide hcu; have Hrow := hide hrow
      obtain ⟨p0, p1, p2, p3⟩ := Blk.workP hw
      have p10 : wr.cell? ⟨w.heap.size + 1 + 1 + 1, 10, none⟩ = some (.slice p cn.length cap) := Blk.cell hw rfl
      have p11 : wr.cell? ⟨w.heap.size + 1 + 1 + 1, 11, none⟩ = some (.int .i64 (sealF cn)) := Blk.cell hw rfl
      have a0 := hC.pl.cell (k := 0) (v := .int .i64 0) rfl; have a1 := hC.pl.cell (k := 1) (v := .int .i64 0) rfl; have a2 := hC.pl.cell (k := 2) (v := .slice none 0 0) rfl; have a3 := hC.pl.cell (k := 3) (v := .slice none 0 0) rfl
      have f0 := hC.pl.free 0; have f1 := hC.pl.free 1; have f2 := hC.pl.free 2; have f3 := hC.pl.free 3
      have b0 := hC.ce.cell (k := 0) (v := .slice none 0 0) rfl; have b1 := hC.ce.cell (k := 1) (v := .int .i64 0) rfl
      have g0 := hC.ce.free 0; have g1 := hC.ce.free 1
      unfold plan2 at p0 p1 p2 p3
      simp only at p0 p1 p2 p3
      clear hce hB hC hw hm hcu hrow hcn HS hi hlt
      go_wp2
      go_region
      all_goals
        obtain ⟨z, zz⟩ := layR_blk (x0 := .int .i64 fr) (x1 := .int .i64 till) (x2 := .slice (some ⟨gm, 0, none⟩) N.offs.length N.offs.length) (x3 := .slice (some ⟨gd, 0, none⟩) N.clss.length N.clss.length) (y0 := .slice p cn.length cap) (y1 := .int .i64 (sealF cn)) HC.out.pl HC.out.ce
        have hm2 := mem_layR (x0 := .int .i64 fr) (x1 := .int .i64 till) (x2 := .slice (some ⟨gm, 0, none⟩) N.offs.length N.offs.length) (x3 := .slice (some ⟨gd, 0, none⟩) N.clss.length N.clss.length) (y0 := .slice p cn.length cap) (y1 := .int .i64 (sealF cn)) HC.out.pl HC.out.ce Hm.out
        have hc2 := cube_layR (x0 := .int .i64 fr) (x1 := .int .i64 till) (x2 := .slice (some ⟨gm, 0, none⟩) N.offs.length N.offs.length) (x3 := .slice (some ⟨gd, 0, none⟩) N.clss.length N.clss.length) (y0 := .slice p cn.length cap) (y1 := .int .i64 (sealF cn)) HC.out.pl HC.out.ce Hcu.out
        have hr2 := row_layR (x0 := .int .i64 fr) (x1 := .int .i64 till) (x2 := .slice (some ⟨gm, 0, none⟩) N.offs.length N.offs.length) (x3 := .slice (some ⟨gd, 0, none⟩) N.clss.length N.clss.length) (y0 := .slice p cn.length cap) (y1 := .int .i64 (sealF cn)) HC.out.pl HC.out.ce Hrow.out
        have hb2 := layR_below (x0 := .int .i64 fr) (x1 := .int .i64 till) (x2 := .slice (some ⟨gm, 0, none⟩) N.offs.length N.offs.length) (x3 := .slice (some ⟨gd, 0, none⟩) N.clss.length N.clss.length) (y0 := .slice p cn.length cap) (y1 := .int .i64 (sealF cn)) HB.out
        have hPl : PlanAt w.heap.size N fr till (plan2 fr till gm N.offs.length gd N.clss.length) p cap (layR w.heap.size (.int .i64 fr) (.int .i64 till) (.slice (some ⟨gm, 0, none⟩) N.offs.length N.offs.length) (.slice (some ⟨gd, 0, none⟩) N.clss.length N.clss.length) (.slice p cn.length cap) (.int .i64 (sealF cn)) wr).drew :=
          ⟨rfl, rfl, rfl, rfl, (MtO.mat hm2).next (Below.refl _ _).drew, (CubeB.at_ hc2).next (Below.refl _ _).drew, by rw [Hcn.out]; exact own_below hr2 (Below.refl _ _).drew, Nat.le_refl _, Nat.le_refl _⟩
        have HF := hide (HOk.out _ _ p cap Hce.out (bseq hb2 (Below.refl _ _).drew) hPl)
        rw [Hcn.out] at HF
        have Hz := hide (And.intro z zz)
        clear z zz hm2 hc2 hr2 hb2 hPl a0 a1 a2 a3 b0 b1 f0 f1 f2 f3 g0 g1 p0 p1 p2 p3 p10 p11
        go_wp2
        refine bodyPost_ret (v := .tuple #[.agg (plan2 fr till gm N.offs.length gd N.clss.length).cells.toArray, .agg #[.slice p cn.length cap, .int .i64 (sealF cn)], .int .i64 0]) ?_ rfl HF.out
        obtain ⟨z, zz⟩ := Hz.out
        have z0 := z.cell (k := 0) rfl; have z1 := z.cell (k := 1) rfl; have z2 := z.cell (k := 2) rfl; have z3 := z.cell (k := 3) rfl
        have z4 := zz.cell (k := 0) rfl; have z5 := zz.cell (k := 1) rfl
        unfold layR at z0 z1 z2 z3 z4 z5
        clear z zz HF Hz
        simp [results, Tryz.results9, go_sem, z0, z1, z2, z3, z4, z5, plan2, Pln.cells]
end Go.Proofs.YtgfhcmidnbahjaaGreatDoor

namespace Go.Proofs.YtgfhcmidnbahjaaGreatDoor
open Go.RowKit Go.Shelf

theorem tdemand_ok (w : World) (R) (hR : ∀ v, R (.returned v) w) : Calls Tryz.prog 42 #[.bool true] w R := by
  have HR := hide hR
  clear hR
  go_enter Tryz.func42, Tryz.ntmps42
  go_wp2
  first
  | exact HR.out _
  | exact bodyPost_end (results_none Tryz.results42 _ _ _) rfl (HR.out _)
theorem tdemand_err (w : World) (R : Ending → World → Prop) (hR : R (.panicked [{ v := .iface 43 (.int .i64 1), recovered := false }]) w) : Calls Tryz.prog 42 #[.bool false] w R := by
  have HR := hide hR
  clear hR
  go_enter Tryz.func42, Tryz.ntmps42
  go_wp2
  exact ⟨rfl, HR.out⟩
set_option maxRecDepth 100000 in
theorem tcode_c (e : Int) (w : World) (R) (hR : R (.returned (.int .i64 e)) w) : Calls Tryz.prog 41 #[.iface 43 (.int .i64 e)] w R := by
  have HR := hide hR
  have hta := run_assert_errno e
  clear hR
  go_enter Tryz.func41, Tryz.ntmps41
  go_wp2
  exact HR.out
theorem carry_calm (n : Nat) (p q : Addr) (w : World) :
    CallsDIn Fence.wide n Tryz.prog 48 #[.pointer (some p), .pointer (some q)] .returning w fun e u' w' => e = .returned (.tuple #[]) ∧ u' = .returning ∧ w' = w := by
  refine callsDIn_of_wpSIn Tryz.func48 rfl trivial fun c₀ cs hu => ?_
  apply wpSIn_seq
  apply wpSIn_region
  simp [wpOpsSIn, go_sem, recoverD, hu, Tryz.ntmps48, Exit.thenS]
  apply wpSIn_seq
  apply wpSIn_region
  simp [wpOpsSIn, go_sem, hu, Exit.thenS]
  refine wpSIn_cond (t := false) (by simp [Act.eval, Array.replicate]) ?_
  simp only [Bool.false_eq_true, if_false]
  refine wpSIn_of_wpIn rfl (wpIn_skip ?_)
  cases c₀
  simp_all [bodyPostS, results, Tryz.results48]
theorem carry_catch (n : Nat) (p q : Addr) (x y : Value) (e : Int) (older : List PanicEntry) (w : World) (hc : w.cell? p = some x) (hz : w.frozen? p = false) (hc2 : w.cell? q = some y) (hz2 : w.frozen? q = false) (hne : p ≠ q) :
    CallsDIn Fence.wide n Tryz.prog 48 #[.pointer (some p), .pointer (some q)] (.panicking ({ v := .iface 43 (.int .i64 e), recovered := false } :: older)) w fun e' u' w' =>
      e' = .returned (.tuple #[]) ∧ u' = .panicking ({ v := .iface 43 (.int .i64 e), recovered := true } :: older) ∧ w' = (w.setCell p (.slice none 0 0)).setCell q (.int .i64 e) := by
  refine callsDIn_of_wpSIn Tryz.func48 rfl trivial fun c₀ cs hu => ?_
  apply wpSIn_seq
  apply wpSIn_region
  simp [wpOpsSIn, go_sem, recoverD, hu, Tryz.ntmps48, Exit.thenS]
  apply wpSIn_seq
  apply wpSIn_region
  simp [wpOpsSIn, go_sem, hu, Exit.thenS]
  refine wpSIn_cond (t := true) (by simp [Act.eval, Array.replicate]) ?_
  simp only [if_true]
  refine wpSIn_of_wpIn rfl ?_
  refine wpIn_wide.2 ?_
  have c2 : (w.setCell p (.slice none 0 0)).cell? q = some y := (World.cell?_setCell_other w p q _ hne).trans hc2
  have z2 : (w.setCell p (.slice none 0 0)).frozen? q = false := (World.frozen?_setCell w p q _).trans hz2
  go_wp2_with (go_at_call 41; refine Stop.out ?_)
  refine Stop.go (tcode_c e _ _ ?_)
  go_wp2
  simp [bodyPostS, results, Tryz.results48]
theorem tinside_yes (i n : Nat) (h : i < n) (w : World) (R) (hR : R (.returned (.bool true)) w) : Calls Tryz.prog 117 #[.int .i64 (i : Int), .int .i64 (n : Int)] w R := by
  have HR := hide hR
  have q1 : (0 : Int) ≤ (i : Int) := by omega
  have q2 : (i : Int) < (n : Int) := by omega
  clear hR h
  go_enter Tryz.func117, Tryz.ntmps117
  go_wp2
  exact HR.out
theorem safe_calm (n : Nat) (p : Addr) (w : World) :
    CallsDIn Fence.wide n Tryz.prog 40 #[.pointer (some p)] .returning w fun e u' w' => e = .returned (.tuple #[]) ∧ u' = .returning ∧ w' = w := by
  refine callsDIn_of_wpSIn Tryz.func40 rfl trivial fun c₀ cs hu => ?_
  apply wpSIn_seq
  apply wpSIn_region
  simp [wpOpsSIn, go_sem, recoverD, hu, Tryz.ntmps40, Exit.thenS]
  apply wpSIn_seq
  apply wpSIn_region
  simp [wpOpsSIn, go_sem, hu, Exit.thenS]
  refine wpSIn_cond (t := false) (by simp [Act.eval, Array.replicate]) ?_
  simp only [Bool.false_eq_true, if_false]
  refine wpSIn_of_wpIn rfl (wpIn_skip ?_)
  cases c₀
  simp_all [bodyPostS, results, Tryz.results40]
theorem safe_catch (n : Nat) (q : Addr) (y : Value) (e : Int) (older : List PanicEntry) (w : World) (hc2 : w.cell? q = some y) (hz2 : w.frozen? q = false) :
    CallsDIn Fence.wide n Tryz.prog 40 #[.pointer (some q)] (.panicking ({ v := .iface 43 (.int .i64 e), recovered := false } :: older)) w fun e' u' w' =>
      e' = .returned (.tuple #[]) ∧ u' = .panicking ({ v := .iface 43 (.int .i64 e), recovered := true } :: older) ∧ w' = w.setCell q (.int .i64 e) := by
  refine callsDIn_of_wpSIn Tryz.func40 rfl trivial fun c₀ cs hu => ?_
  apply wpSIn_seq
  apply wpSIn_region
  simp [wpOpsSIn, go_sem, recoverD, hu, Tryz.ntmps40, Exit.thenS]
  apply wpSIn_seq
  apply wpSIn_region
  simp [wpOpsSIn, go_sem, hu, Exit.thenS]
  refine wpSIn_cond (t := true) (by simp [Act.eval, Array.replicate]) ?_
  simp only [if_true]
  refine wpSIn_of_wpIn rfl ?_
  refine wpIn_wide.2 ?_
  go_wp2_with (go_at_call 41; refine Stop.out ?_)
  refine Stop.go (tcode_c e _ _ ?_)
  go_wp2
  simp [bodyPostS, results, Tryz.results40]
theorem inTime_yes (t : Int) (h1 : 0 ≤ t) (h2 : t ≤ 1000000) (w : World) (R) (hR : R (.returned (.bool true)) w) : Calls Tryz.prog 43 #[.int .i64 t] w R := by
  have HR := hide hR
  clear hR
  go_enter Tryz.func43, Tryz.ntmps43
  go_wp2
  exact HR.out
end Go.Proofs.YtgfhcmidnbahjaaGreatDoor

namespace Go.Proofs.YtgfhcmidnbahjaaGreatDoor
open Go.RowKit Go.Shelf
attribute [local go_sem] Oper.semAt_some run_store_func

theorem alike1_c (x : Off) (w : World) (R) (hn : x.name.size ≤ maxLen) (hR : ∀ w', Below w.heap.size w w' → R (.returned (.bool true)) w') : Calls Tryz.prog 114 #[.agg x.cells.toArray, .agg x.cells.toArray] w R := by
  obtain ⟨w1, hw1⟩ : ∃ w1, (w.alloc (.cells x.cells.toArray 65)).alloc (.cells x.cells.toArray 65) = w1 := ⟨_, rfl⟩
  have HR := hide (hR w1 (hw1 ▸ balloc (balloc (Below.refl _ _) _) _))
  have k0 : Blk w1 w.heap.size x.cells.toArray 65 := by rw [← hw1]; exact Blk.alloc (Blk.new_at rfl) _
  have k1 : Blk w1 (w.heap.size + 1) x.cells.toArray 65 := by rw [← hw1]; exact Blk.new_at (by simp)
  have c0 := k0.cell (k := 0) (v := .string x.name) rfl; have c1 := k1.cell (k := 0) (v := .string x.name) rfl
  unfold Off.cells at hw1 ⊢
  clear hR k0 k1
  go_enter Tryz.func114, Tryz.ntmps114
  go_wp2
  first
  | exact HR.out
  | (have e : (x.name == x.name) = true := by simp
     simpa [e] using HR.out)
set_option maxRecDepth 100000 in
set_option maxHeartbeats 1000000 in
theorem equalOff_c (p : Option Addr) (c c2 : Nat) (l : List Off) (w : World) (R) (hA : OffsAt w p l) (hn : ∀ x ∈ l, x.name.size ≤ maxLen) (hl : l.length ≤ 1000) (hR : ∀ w', Below w.heap.size w w' → R (.returned (.bool true)) w') :
    Calls Tryz.prog 113 #[.slice p l.length c, .slice p l.length c2, .func (.func 114) #[] #[]] w R := by
  have HR := hide hR; have HA := hide hA; have Hn := hide hn
  have eg := enters_of Tryz.func114 (by kernel_rfl) rfl
  clear hR hA hn
  go_enter Tryz.func113, Tryz.ntmps113
  go_wp2
  go_loopw [17] (fun si wr => ∃ k : Nat, k ≤ l.length ∧ si = .int .i64 k ∧ Hid (Below w.heap.size w wr)) (fun si _ => l.length - (intOf si).toNat)
  case atStart => exact ⟨0, Nat.zero_le _, rfl, hide (Below.refl _ _)⟩
  case round =>
    obtain ⟨k, hk, rfl, HB⟩ := hrel
    by_cases hlt : k < l.length
    · obtain ⟨b2, o2, x, hp2, hx, hcell⟩ := (HA.out.keep (Keeps.of_below HB.out)).at_ hlt
      have m0 : wr.cell? ⟨b2, o2 + k * 7, none⟩ = some (.string x.name) := hcell 0 _ rfl; have m1 := hcell 1 _ rfl; have m2 := hcell 2 _ rfl; have m3 := hcell 3 _ rfl; have m4 := hcell 4 _ rfl; have m5 := hcell 5 _ rfl; have m6 := hcell 6 _ rfl
      obtain ⟨w1, hw1⟩ : ∃ w1, wr.alloc (.cells x.cells.toArray 65) = w1 := ⟨_, rfl⟩
      have hb1 : Below wr.heap.size wr w1 := hw1 ▸ balloc (Below.refl _ _) _
      have k0 : Blk w1 wr.heap.size x.cells.toArray 65 := hw1 ▸ Blk.new _ _ _
      have m0' := cell_later hb1 m0; have m1' := cell_later hb1 m1; have m2' := cell_later hb1 m2; have m3' := cell_later hb1 m3; have m4' := cell_later hb1 m4; have m5' := cell_later hb1 m5; have m6' := cell_later hb1 m6
      obtain ⟨w2, hw2⟩ : ∃ w2, w1.alloc (.cells x.cells.toArray 65) = w2 := ⟨_, rfl⟩
      have hb2 : Below wr.heap.size wr w2 := hw2 ▸ balloc hb1 _
      have k1 : Blk w2 wr.heap.size x.cells.toArray 65 := hw2 ▸ k0.alloc _
      have k2 : Blk w2 w1.heap.size x.cells.toArray 65 := hw2 ▸ Blk.new _ _ _
      have n0 := k1.cell (k := 0) (v := .string x.name) rfl; have n1 := k1.cell (k := 1) (v := .int .i64 x.operator) rfl; have n2 := k1.cell (k := 2) (v := .int .i64 x.calendar) rfl; have n3 := k1.cell (k := 3) (v := .int .i64 x.pockets) rfl; have n4 := k1.cell (k := 4) (v := .int .i64 x.passes) rfl; have n5 := k1.cell (k := 5) (v := .int .i64 x.minutes) rfl; have n6 := k1.cell (k := 6) (v := .slice x.cp x.codes.length x.cc) rfl
      have r0 := k2.cell (k := 0) (v := .string x.name) rfl; have r1 := k2.cell (k := 1) (v := .int .i64 x.operator) rfl; have r2 := k2.cell (k := 2) (v := .int .i64 x.calendar) rfl; have r3 := k2.cell (k := 3) (v := .int .i64 x.pockets) rfl; have r4 := k2.cell (k := 4) (v := .int .i64 x.passes) rfl; have r5 := k2.cell (k := 5) (v := .int .i64 x.minutes) rfl; have r6 := k2.cell (k := 6) (v := .slice x.cp x.codes.length x.cc) rfl
      have HB2 := hide (bseq HB.out hb2)
      have HX := hide (Hn.out x (List.mem_of_getElem? hx))
      have q1 : (0 : Int) ≤ (k : Int) := by omega
      have q2 : (k : Int) < (l.length : Int) := by omega
      have Hlt := hide hlt
      have Hp := hide hp2
      rw [hp2]
      unfold Off.cells at hw1 hw2
      clear hcell hx k0 k1 k2 hb1 hb2 hp2
      go_wp2_with (go_at_call 114; refine Stop.out ?_)
      refine Stop.go (alike1_c x w2 _ HX.out ?_)
      intro w3 hb
      have HB3 := hide (bseq HB2.out hb)
      clear hb n0 n1 n2 n3 n4 n5 n6 r0 r1 r2 r3 r4 r5 r6 m0 m1 m2 m3 m4 m5 m6 m0' m1' m2' m3' m4' m5' m6' hw1 hw2
      go_wp2
      go_roundw
      case rel => exact ⟨k + 1, Hlt.out, by go_num, HB3⟩
      case measure => have := Hlt.out; simp [intOf]; omega
    · have q1 : ¬ (k : Int) < (l.length : Int) := by omega
      have HE := hide (HR.out _ HB.out)
      go_wp2
      exact HE.out
set_option maxRecDepth 100000 in
set_option maxHeartbeats 1000000 in
theorem alike_c (N M : Net) (gn gm : Nat) (w : World) (R) (h1 : Blk w gn N.cells 29) (h2 : Blk w gm M.cells 29) (hN : NetAt w N) (hp : M.fp = N.fp) (ho : M.offs = N.offs) (hl : N.offs.length ≤ 1000) (hR : ∀ w', Below w.heap.size w w' → R (.returned (.bool true)) w') :
    Calls Tryz.prog 44 #[.pointer (some ⟨gn, 0, none⟩), .pointer (some ⟨gm, 0, none⟩)] w R := by
  have HR := hide hR; have HN := hide hN
  have y := h1.net6.2.2.2.1
  have z := h2.net6.2.2.2.1
  rw [hp, ho] at z
  have KB : Hid (∀ W', Below w.heap.size w W' → W'.cell? ⟨gn, 3, none⟩ = some (.slice N.fp N.offs.length N.fc) ∧ W'.cell? ⟨gm, 3, none⟩ = some (.slice N.fp N.offs.length M.fc)) := hide (fun W' hb => ⟨cell_later hb y, cell_later hb z⟩)
  clear hR hN h1 h2 y z
  go_enter Tryz.func44, Tryz.ntmps44
  go_wp2
  go_region_held3 (fun W' => W'.cell? ⟨gn, 3, none⟩ = some (.slice N.fp N.offs.length N.fc) ∧ W'.cell? ⟨gm, 3, none⟩ = some (.slice N.fp N.offs.length M.fc))
    (first | exact KB.out _ (Below.refl _ _).drew | exact KB.out _ hbb)
    (first
    | (go_at_call 113
       refine equalOff_c N.fp N.fc M.fc N.offs _ _ (HN.out.next (Below.refl _ _).drew).offs (fun x hx => (HN.out.off x hx).name) hl (fun W' hb => ?_)
       have hbb : Below w.heap.size w W' := bseq (Below.refl _ _).drew hb))
  have HF := hide (HR.out _ hbb)
  clear hbb hb KB
  go_wp2
  exact HF.out
end Go.Proofs.YtgfhcmidnbahjaaGreatDoor
