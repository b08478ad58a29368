/- Compile: what stands between its steps. Compile: each step, from state to state. Compile: the plan of a network for some days, with its certificate; or the error. The fixed network, made. -/
import Derived.Test.YtgfhcmidnbahjaaGreatDoorJ30
import Derived.Test.YtgfhcmidnbahjaaGreatDoorJ5
set_option linter.unusedVariables false
set_option linter.unusedSimpArgs false
namespace Go.Proofs.YtgfhcmidnbahjaaGreatDoor
section
open Go.RowKit Go.Shelf
theorem countF_range (c : Cal) (a b : Int) : -1 ≤ countF c a b ∧ countF c a b ≤ 2000 := by
 unfold countF
 split
 ·omega
 ·have : (daysF c (a + 1) (b - a).toNat).length ≤ (b - a).toNat := by
   unfold daysF
   exact Nat.le_trans (List.length_filter_le _ _) (by simp)
  omega
theorem needF_range {N : Net} {nx : Mat} {k o d : Nat} {cut y : Int} (h : needF N nx k o d cut = .ok y) : 0 ≤ y ∧ y ≤ 2000 := by
 obtain ⟨l, t, _, _, rfl, h0⟩ := need_ok h
 exact ⟨h0, (countF_range _ _ _).2⟩
theorem mostL_range {f : Int → Except Int Int} (hf : ∀ c y, f c = .ok y → y ≤ 2000) : ∀ (l : List Int) (m x : Int), -1 ≤ m → m ≤ 2000 → mostL f l m = some x → -1 ≤ x ∧ x ≤ 2000
 | [], m, x, h1, h2, h => by rw [mostL] at h; injection h with h; omega
 | c :: l, m, x, h1, h2, h => by
  rw [mostL] at h
  cases hc : f c with
  | error e => rw [hc] at h; cases h
  | ok y =>
   rw [hc] at h
   have := hf c y hc
   exact mostL_range hf l _ x (by omega) (by omega) h
theorem mostF_range (N : Net) (nx : Mat) (k o d : Nat) (fr till : Int) : -1 ≤ mostF N nx k o d fr till ∧ mostF N nx k o d fr till ≤ 2000 := by
 unfold mostF
 cases h : mostL (needF N nx k o d) (cutsOf N k o (1440 * fr) (1440 * till)) (-1) with
 | none => exact ⟨by decide, by decide⟩
 | some x => exact mostL_range (fun c y hc => (needF_range hc).2) _ _ _ (by decide) (by decide) h
theorem daysOk_iff {fr till : Int} : daysOk fr till = true ↔ 0 ≤ fr ∧ fr < till ∧ till ≤ 600 ∧ till - fr ≤ 60 := by
 unfold daysOk; simp only [Bool.and_eq_true, decide_eq_true_eq]
 exact ⟨fun h => ⟨h.1.1.1, h.1.1.2, h.1.2, h.2⟩, fun h => ⟨⟨⟨h.1, h.2.1⟩, h.2.2.1⟩, h.2.2.2⟩⟩
theorem plan_wrP {N : Net} {P : Pln} (hS : soundB N = true) (hd : daysOk P.fr P.till = true) (hn : P.nn = N.offs.length) (hk : P.dn = N.clss.length) : WrP N P (nextF' N P.fr P.till) (daysP N P.fr P.till) := by
 obtain ⟨d1, d2, d3, d4⟩ := daysOk_iff.1 hd
 refine ⟨snd_of hS, next_formed, hn, hk, fun k o d => ?_, d1, d2, d3, d4, fun k o d hk ho hd h => most_need h⟩
 have := mostF_range N (nextF' N P.fr P.till) k o d P.fr P.till
 exact ⟨this.1, by unfold daysP; omega⟩
section
variable {W : World} {g : Nat} {cs : Array Value} {t : TypeId}
theorem RowB.farT {n : Nat} {f : Nat → Int} {b : Nat} (h : RowB W n f b) (hg : Blk W g cs t) (ht : t ≠ 3) (j : Nat) (u : Value) : RowB (W.setCell ⟨g, j, none⟩ u) n f b := by
 obtain ⟨ds, h1, h2, h3⟩ := h
 exact ⟨ds, h1.far (p := ⟨g, j, none⟩) (Blk.ne_ h1 hg (fun e => ht e.symm)) u, h2, h3⟩
theorem MatB.farT {n : Nat} {M : Nat → Nat → Int} {b : Nat} (h : MatB W n M b) (hg : Blk W g cs t) (ht : t ≠ 3) (ht2 : t ≠ 40) (j : Nat) (u : Value) : MatB (W.setCell ⟨g, j, none⟩ u) n M b := by
 obtain ⟨ds, h1, h2, h3⟩ := h
 exact ⟨ds, h1.far (p := ⟨g, j, none⟩) (Blk.ne_ h1 hg (fun e => ht2 e.symm)) u, h2, fun i hi => by obtain ⟨gi, k1, k2, k3⟩ := h3 i hi; exact ⟨gi, k1, k2, k3.farT hg ht j u⟩⟩
theorem CubeB.farT {nk n : Nat} {C : Cube} {b : Nat} (h : CubeB W nk n C b) (hg : Blk W g cs t) (ht : t ≠ 3) (ht2 : t ≠ 40) (ht3 : t ≠ 36) (j : Nat) (u : Value) : CubeB (W.setCell ⟨g, j, none⟩ u) nk n C b := by
 obtain ⟨ds, h1, h2, h3⟩ := h
 exact ⟨ds, h1.far (p := ⟨g, j, none⟩) (Blk.ne_ h1 hg (fun e => ht3 e.symm)) u, h2, fun i hi => by obtain ⟨gi, k1, k2⟩ := h3 i hi; exact ⟨gi, k1, k2.farT hg ht ht2 j u⟩⟩
theorem CubeB.next {W' : World} {nk n : Nat} {C : Cube} {b : Nat} (h : CubeB W nk n C b) (hb : Below W.heap.size W W') : CubeB W' nk n C b := by
 obtain ⟨ds, h1, h2, h3⟩ := h
 exact ⟨ds, h1.next hb, h2, fun i hi => by obtain ⟨gi, k1, k2⟩ := h3 i hi; exact ⟨gi, k1, k2.next hb⟩⟩
theorem MtO.farT {A n b : Nat} {M : Nat → Nat → Int} (h : MtO A W b n M) (hg : Blk W g cs t) (ht : t ≠ 3) (ht2 : t ≠ 40) (j : Nat) (u : Value) : MtO A (W.setCell ⟨g, j, none⟩ u) b n M := by
 obtain ⟨h0, os, B, h1, h2, r, h3, hd⟩ := h
 refine ⟨h0, os, B, h1.far (p := ⟨g, j, none⟩) (Blk.ne_ h1 hg (fun e => ht2 e.symm)) u, h2, r, fun i hi => ?_, hd⟩
 obtain ⟨k1, k0, k2, ds, k3, k4⟩ := h3 i hi
 exact ⟨k1, k0, k2, ds, k3.far (p := ⟨g, j, none⟩) (Blk.ne_ k3 hg (fun e => ht e.symm)) u, k4⟩
theorem row_farT {base n : Nat} {v : Value} {xs : List Value} (h : W.ownsRow base 3 1 v n xs) (hg : Blk W g cs t) (ht : t ≠ 3) (j : Nat) (u : Value) : (W.setCell ⟨g, j, none⟩ u).ownsRow base 3 1 v n xs :=
 ownsRow_setCell_other h (a := ⟨g, j, none⟩) (fun e => own_ne_blk h hg (fun e => ht e.symm) e.symm) u
end
def zeroP : Array Value := #[.int .i64 0, .int .i64 0, .slice none 0 0, .slice none 0 0]
def stepF (f : FuncId) : Value := .func (.func f) #[] #[]
structure CpB (B : Nat) (W : World) : Prop where
 pl : Blk W (B + 1) zeroP 39
 ce : Blk W (B + 1 + 1) #[.slice none 0 0, .int .i64 0] 42
 st : Blk W (B + 1 + 1 + 1 + 1) #[stepF 35, stepF 36, stepF 37, stepF 38, stepF 39] 96
theorem CpB.next {B : Nat} {W W' : World} (h : CpB B W) (hb : Below W.heap.size W W') : CpB B W' := ⟨h.pl.next hb, h.ce.next hb, h.st.next hb⟩
theorem CpB.set {B : Nat} {W : World} (h : CpB B W) (j : Nat) (u : Value) : CpB B (W.setCell ⟨B + 1 + 1 + 1, j, none⟩ u) :=
 ⟨h.pl.far (p := ⟨B + 1 + 1 + 1, j, none⟩) (show B + 1 ≠ B + 1 + 1 + 1 by omega) u, h.ce.far (p := ⟨B + 1 + 1 + 1, j, none⟩) (show B + 1 + 1 ≠ B + 1 + 1 + 1 by omega) u, h.st.far (p := ⟨B + 1 + 1 + 1, j, none⟩) (show B + 1 + 1 + 1 + 1 ≠ B + 1 + 1 + 1 by omega) u⟩
def plan0 (fr till : Int) : Pln := ⟨fr, till, none, 0, 0, none, 0, 0⟩
def plan1 (fr till : Int) (gm n : Nat) : Pln := ⟨fr, till, some ⟨gm, 0, none⟩, n, n, none, 0, 0⟩
def plan2 (fr till : Int) (gm n gd nk : Nat) : Pln := ⟨fr, till, some ⟨gm, 0, none⟩, n, n, some ⟨gd, 0, none⟩, nk, nk⟩
def ct0 : List Value := [.slice none 0 0, .int .i64 0]
def CpW (B : Nat) (N : Net) (P : Pln) (ct : List Value) (W : World) : Prop := Blk W (B + 1 + 1 + 1) (workC N P ct) 92
def CpS (w : World) (N : Net) (fr till : Int) : Nat → World → Prop
 | 0, W => Below w.heap.size w W ∧ CpB w.heap.size W ∧ CpW w.heap.size N (plan0 fr till) ct0 W
 | 1, W => (daysOk fr till = true ∧ soundB N = true) ∧ Below w.heap.size w W ∧ CpB w.heap.size W ∧ CpW w.heap.size N (plan0 fr till) ct0 W
 | 2, W => (daysOk fr till = true ∧ soundB N = true) ∧ Below w.heap.size w W ∧ CpB w.heap.size W ∧ ∃ gm, CpW w.heap.size N (plan1 fr till gm N.offs.length) ct0 W ∧ MtO w.heap.size W gm N.offs.length (nextF' N fr till)
 | 3, W => (daysOk fr till = true ∧ soundB N = true ∧ sortB N (nextF' N fr till) = true) ∧ Below w.heap.size w W ∧ CpB w.heap.size W ∧ ∃ gm, CpW w.heap.size N (plan1 fr till gm N.offs.length) ct0 W ∧ MtO w.heap.size W gm N.offs.length (nextF' N fr till)
 | 4, W => (daysOk fr till = true ∧ soundB N = true ∧ sortB N (nextF' N fr till) = true) ∧ Below w.heap.size w W ∧ CpB w.heap.size W ∧ ∃ gm gd, CpW w.heap.size N (plan2 fr till gm N.offs.length gd N.clss.length) ct0 W ∧ MtO w.heap.size W gm N.offs.length (nextF' N fr till) ∧ CubeB W N.clss.length N.offs.length (daysP N fr till) gd
 | 5, W => (compErr N fr till = 0) ∧ Below w.heap.size w W ∧ CpB w.heap.size W ∧ ∃ gm gd p cap, CpW w.heap.size N (plan2 fr till gm N.offs.length gd N.clss.length) [.slice p (certF N fr till).length cap, .int .i64 (sealF (certF N fr till))] W ∧ MtO w.heap.size W gm N.offs.length (nextF' N fr till) ∧ CubeB W N.clss.length N.offs.length (daysP N fr till) gd ∧
   W.ownsRow w.heap.size 3 1 (.slice p (certF N fr till).length cap) (certF N fr till).length ((certF N fr till).map (Value.int .i64))
 | _, _ => False
theorem CpS.lt {w : World} {N : Net} {fr till : Int} {i : Nat} {W : World} (h : CpS w N fr till i W) : i ≤ 5 := by
 match i, h with
 | 0, _ => omega
 | 1, _ => omega
 | 2, _ => omega
 | 3, _ => omega
 | 4, _ => omega
 | 5, _ => omega
theorem CpS.bl {w : World} {N : Net} {fr till : Int} {i : Nat} {W : World} (h : CpS w N fr till i W) : Below w.heap.size w W ∧ CpB w.heap.size W := by
 match i, h with
 | 0, h => exact ⟨h.1, h.2.1⟩
 | 1, h => exact ⟨h.2.1, h.2.2.1⟩
 | 2, h => exact ⟨h.2.1, h.2.2.1⟩
 | 3, h => exact ⟨h.2.1, h.2.2.1⟩
 | 4, h => exact ⟨h.2.1, h.2.2.1⟩
 | 5, h => exact ⟨h.2.1, h.2.2.1⟩
theorem CpS.next {w : World} {N : Net} {fr till : Int} {i : Nat} {W W' : World} (h : CpS w N fr till i W) (hb : Below W.heap.size W W') : CpS w N fr till i W' := by
 match i, h with
 | 0, h => exact ⟨bseq h.1 hb, h.2.1.next hb, Blk.next h.2.2 hb⟩
 | 1, h => exact ⟨h.1, bseq h.2.1 hb, h.2.2.1.next hb, Blk.next h.2.2.2 hb⟩
 | 2, h => obtain ⟨h1, h2, h3, gm, h4, h5⟩ := h; exact ⟨h1, bseq h2 hb, h3.next hb, gm, Blk.next h4 hb, MrO.next h5 hb⟩
 | 3, h => obtain ⟨h1, h2, h3, gm, h4, h5⟩ := h; exact ⟨h1, bseq h2 hb, h3.next hb, gm, Blk.next h4 hb, MrO.next h5 hb⟩
 | 4, h => obtain ⟨h1, h2, h3, gm, gd, h4, h5, h6⟩ := h; exact ⟨h1, bseq h2 hb, h3.next hb, gm, gd, Blk.next h4 hb, MrO.next h5 hb, h6.next hb⟩
 | 5, h => obtain ⟨h1, h2, h3, gm, gd, p, cap, h4, h5, h6, h7⟩ := h; exact ⟨h1, bseq h2 hb, h3.next hb, gm, gd, p, cap, Blk.next h4 hb, MrO.next h5 hb, h6.next hb, own_below h7 hb⟩
end
section
open Go.RowKit Go.Shelf
def stepFn : Nat → FuncId
 | 0 => 35
 | 1 => 36
 | 2 => 37
 | 3 => 38
 | _ => 39
theorem stepFn_at {i : Nat} (h : i < 5) : (#[stepF 35, stepF 36, stepF 37, stepF 38, stepF 39] : Array Value)[i]? = some (.func (.func (stepFn i)) #[] #[]) := by
 match i, h with
 | 0, _ => rfl
 | 1, _ => rfl
 | 2, _ => rfl
 | 3, _ => rfl
 | 4, _ => rfl
theorem stepFn_enters {i : Nat} (h : i < 5) : ∀ args w, (callFunc (stepFn i) args).run Tryz.prog w = .ok (.enter (stepFn i) args) w := by
 match i, h with
 | 0, _ => exact enters_of Tryz.func35 (by kernel_rfl) rfl
 | 1, _ => exact enters_of Tryz.func36 (by kernel_rfl) rfl
 | 2, _ => exact enters_of Tryz.func37 (by kernel_rfl) rfl
 | 3, _ => exact enters_of Tryz.func38 (by kernel_rfl) rfl
 | 4, _ => exact enters_of Tryz.func39 (by kernel_rfl) rfl
theorem compErr_1 {N : Net} {fr till : Int} (h : ¬ (daysOk fr till && soundB N) = true) : compErr N fr till = 1 := by
 unfold compErr
 cases hx : (daysOk fr till && soundB N) with
 | true => exact absurd hx h
 | false => rfl
theorem compErr_140 {N : Net} {fr till : Int} (h : daysOk fr till = true) (h2 : soundB N = true) (h3 : ¬ sortB N (nextF' N fr till) = true) : compErr N fr till = 140 := by
 unfold compErr
 rw [h, h2]
 cases hx : sortB N (nextF' N fr till) with
 | true => exact absurd hx h3
 | false => rfl
theorem compErr_last {N : Net} {fr till : Int} (h : daysOk fr till = true) (h2 : soundB N = true) (h3 : sortB N (nextF' N fr till) = true) : compErr N fr till = if 40000 < (certF N fr till).length then 2 else 0 := by
 unfold compErr
 rw [h, h2, h3]; rfl
set_option maxHeartbeats 1000000 in
theorem step_c (w : World) (N : Net) (fr till : Int) (i : Nat) (W : World) (R) (hi : i < 5) (hk : KwAt w) (hN : NetAt w N) (hS : CpS w N fr till i W)
  (hok : ∀ W', CpS w N fr till (i + 1) W' → R (.returned (.int .i64 0)) W') (her : ∀ e W', compErr N fr till = e → e ≠ 0 → Below w.heap.size w W' → CpB w.heap.size W' → R (.returned (.int .i64 e)) W') :
  Calls Tryz.prog (stepFn i) #[.pointer (some ⟨w.heap.size + 1 + 1 + 1, 0, none⟩)] W R := by
 obtain ⟨hB, hCp⟩ := hS.bl
 have hkW := hk.next hB
 have hNW := hN.next hB
 match i, hi, hS with
 | 0, _, hS =>
  obtain ⟨_, _, hw⟩ := hS
  refine cCheck_c N (plan0 fr till) ct0 _ W R hw hkW hNW (fun W' hb => ?_)
  show R (.returned (.int .i64 (if (daysOk fr till && soundB N) = true then 0 else 1))) W'
  by_cases hc : (daysOk fr till && soundB N) = true
  ·rw [if_pos hc]
   have hc2 := hc
   simp only [Bool.and_eq_true] at hc2
   exact hok W' ⟨hc2, bseq hB hb, hCp.next hb, Blk.next hw hb⟩
  ·rw [if_neg hc]
   exact her 1 W' (compErr_1 hc) (by decide) (bseq hB hb) (hCp.next hb)
 | 1, _, hS =>
  obtain ⟨⟨hd, hs⟩, _, _, hw⟩ := hS
  refine cRoute_c N (plan0 fr till) ct0 _ W R hw hkW hNW hs hd (fun w2 gm hb hm => ?_)
  have hw2 : Blk w2 _ (workC N (plan0 fr till) ct0) 92 := Blk.next hw hb
  have hw3 := hw2.set 8 (.slice (some ⟨gm, 0, none⟩) N.offs.length N.offs.length)
  rw [workC_set8] at hw3
  exact hok _ ⟨⟨hd, hs⟩, (bseq hB hb).setCell (p := ⟨w.heap.size + 1 + 1 + 1, 8, none⟩) (show w.heap.size ≤ w.heap.size + 1 + 1 + 1 by omega) _, (hCp.next hb).set _ _, gm, hw3, MtO.farT (MrO.mono hm hB.size) hw2 (by decide) (by decide) _ _⟩
 | 2, _, hS =>
  obtain ⟨⟨hd, hs⟩, _, _, gm, hw, hm⟩ := hS
  have hSn := snd_of hs
  refine cSort_c N (plan1 fr till gm N.offs.length) ct0 (nextF' N fr till) _ W R hw hNW hSn (MtO.mat hm) rfl (fun o d ho hd' => ?_) (fun W' hb => ?_)
  ·have := (next_formed (N := N) (cost := costsF N fr till) (bound := boundF N fr till)).range hSn.nlin ho hd'
   have e : nextF' N fr till o d = nextM N (costsF N fr till) (boundF N fr till) o d := rfl
   rw [e]; omega
  ·by_cases hc : sortB N (nextF' N fr till) = true
   ·rw [if_pos hc]
    exact hok W' ⟨⟨hd, hs, hc⟩, bseq hB hb, hCp.next hb, gm, Blk.next hw hb, MrO.next hm hb⟩
   ·rw [if_neg hc]
    exact her 140 W' (compErr_140 hd hs hc) (by decide) (bseq hB hb) (hCp.next hb)
 | 3, _, hS =>
  obtain ⟨⟨hd, hs, hso⟩, _, _, gm, hw, hm⟩ := hS
  refine cPromise_c N (plan1 fr till gm N.offs.length) ct0 (nextF' N fr till) _ W R hw hkW hNW hs hd rfl (MtO.mat hm) next_formed (fun w2 gd hb hc => ?_)
  have hw2 : Blk w2 _ (workC N (plan1 fr till gm N.offs.length) ct0) 92 := Blk.next hw hb
  have hw3 := hw2.set 9 (.slice (some ⟨gd, 0, none⟩) N.clss.length N.clss.length)
  rw [workC_set9] at hw3
  exact hok _ ⟨⟨hd, hs, hso⟩, (bseq hB hb).setCell (p := ⟨w.heap.size + 1 + 1 + 1, 9, none⟩) (show w.heap.size ≤ w.heap.size + 1 + 1 + 1 by omega) _, (hCp.next hb).set _ _, gm, gd, hw3, MtO.farT (MrO.next hm hb) hw2 (by decide) (by decide) _ _, CubeB.farT hc hw2 (by decide) (by decide) (by decide) _ _⟩
 | 4, _, hS =>
  obtain ⟨⟨hd, hs, hso⟩, _, _, gm, gd, hw, hm, hc⟩ := hS
  refine cCertify_c N (plan2 fr till gm N.offs.length gd N.clss.length) (.slice none 0 0) (.int .i64 0) (nextF' N fr till) (daysP N fr till) _ W R hw hkW hNW hs (MtO.mat hm) hc.at_ (plan_wrP (P := plan2 fr till gm N.offs.length gd N.clss.length) hs hd rfl rfl) (fun w2 p cap hl hb hrow => ?_) (fun w2 hl hb => ?_)
  ·have hl' : ¬ 40000 < (certF N fr till).length := Nat.not_lt.2 hl
   have hw2 : Blk w2 _ (workC N (plan2 fr till gm N.offs.length gd N.clss.length) [.slice none 0 0, .int .i64 0]) 92 := Blk.next hw hb
   have hw3 := hw2.set 10 (.slice p (certF N fr till).length cap)
   have hw4 := hw3.set 11 (.int .i64 (sealF (certF N fr till)))
   rw [workC_set10] at hw4
   refine hok _ ⟨by rw [compErr_last hd hs hso, if_neg hl'], ((bseq hB hb).setCell (p := ⟨w.heap.size + 1 + 1 + 1, 10, none⟩) (show w.heap.size ≤ w.heap.size + 1 + 1 + 1 by omega) _).setCell (p := ⟨w.heap.size + 1 + 1 + 1, 11, none⟩) (show w.heap.size ≤ w.heap.size + 1 + 1 + 1 by omega) _, ((hCp.next hb).set _ _).set _ _, gm, gd, p, cap, hw4, ?_, ?_, ?_⟩
   ·exact MtO.farT (MtO.farT (MrO.next hm hb) hw2 (by decide) (by decide) _ _) hw3 (by decide) (by decide) _ _
   ·exact CubeB.farT (CubeB.farT (CubeB.next hc hb) hw2 (by decide) (by decide) (by decide) _ _) hw3 (by decide) (by decide) (by decide) _ _
   ·exact row_farT (row_farT (own_mono hrow hB.size) hw2 (by decide) _ _) hw3 (by decide) _ _
  ·have hl' : 40000 < (certF N fr till).length := hl
   exact her 2 _ (by rw [compErr_last hd hs hso, if_pos hl']) (by decide) (((bseq hB hb).setCell (p := ⟨w.heap.size + 1 + 1 + 1, 10, none⟩) (show w.heap.size ≤ w.heap.size + 1 + 1 + 1 by omega) _).setCell (p := ⟨w.heap.size + 1 + 1 + 1, 11, none⟩) (show w.heap.size ≤ w.heap.size + 1 + 1 + 1 by omega) _) (((hCp.next hb).set _ _).set _ _)
end
section
open Go.RowKit Go.Shelf
attribute [local go_sem] Oper.semAt_some run_store_func
structure PlanAt (base : Nat) (N : Net) (fr till : Int) (P : Pln) (p : Option Addr) (cap : Nat) (W : World) : Prop where
 pfr : P.fr = fr
 ptill : P.till = till
 nn : P.nn = N.offs.length
 dn : P.dn = N.clss.length
 next : MatAt W P.np N.offs.length (nextF' N fr till)
 days : CubeAt W P.dp N.clss.length N.offs.length (daysP N fr till)
 cert : W.ownsRow base 3 1 (.slice p (certF N fr till).length cap) (certF N fr till).length ((certF N fr till).map (Value.int .i64))
 nnc : P.nn ≤ P.nc
 dnc : P.dn ≤ P.dc
def layR (B : Nat) (x0 x1 x2 x3 y0 y1 : Value) (W : World) : World :=
 (((((W.setCell ⟨B + 1, 0, none⟩ x0).setCell ⟨B + 1, 1, none⟩ x1).setCell ⟨B + 1, 2, none⟩ x2).setCell ⟨B + 1, 3, none⟩ x3).setCell ⟨B + 1 + 1, 0, none⟩ y0).setCell ⟨B + 1 + 1, 1, none⟩ y1
theorem layR_blk {B : Nat} {W : World} {x0 x1 x2 x3 y0 y1 u0 u1 u2 u3 v0 v1 : Value} (h : Blk W (B + 1) #[u0, u1, u2, u3] 39) (k : Blk W (B + 1 + 1) #[v0, v1] 42) :
  Blk (layR B x0 x1 x2 x3 y0 y1 W) (B + 1) #[x0, x1, x2, x3] 39 ∧ Blk (layR B x0 x1 x2 x3 y0 y1 W) (B + 1 + 1) #[y0, y1] 42 := by
 have n1 : B + 1 ≠ B + 1 + 1 := by omega
 have n2 : B + 1 + 1 ≠ B + 1 := by omega
 unfold layR
 exact ⟨((((((h.set 0 x0).set 1 x1).set 2 x2).set 3 x3).far (p := ⟨B + 1 + 1, 0, none⟩) n1 y0).far (p := ⟨B + 1 + 1, 1, none⟩) n1 y1),
  ((((((k.far (p := ⟨B + 1, 0, none⟩) n2 x0).far (p := ⟨B + 1, 1, none⟩) n2 x1).far (p := ⟨B + 1, 2, none⟩) n2 x2).far (p := ⟨B + 1, 3, none⟩) n2 x3).set 0 y0).set 1 y1)⟩
theorem layR_below {w W : World} {x0 x1 x2 x3 y0 y1 : Value} (h : Below w.heap.size w W) : Below w.heap.size w (layR w.heap.size x0 x1 x2 x3 y0 y1 W) := by
 have n1 : w.heap.size ≤ w.heap.size + 1 := by omega
 have n2 : w.heap.size ≤ w.heap.size + 1 + 1 := by omega
 unfold layR
 exact (((((h.setCell (p := ⟨w.heap.size + 1, 0, none⟩) n1 _).setCell (p := ⟨w.heap.size + 1, 1, none⟩) n1 _).setCell (p := ⟨w.heap.size + 1, 2, none⟩) n1 _).setCell (p := ⟨w.heap.size + 1, 3, none⟩) n1 _).setCell (p := ⟨w.heap.size + 1 + 1, 0, none⟩) n2 _).setCell (p := ⟨w.heap.size + 1 + 1, 1, none⟩) n2 _
theorem mem_layR {W : World} {B : Nat} {x0 x1 x2 x3 y0 y1 u0 u1 u2 u3 v0 v1 : Value} (h : Blk W (B + 1) #[u0, u1, u2, u3] 39) (k : Blk W (B + 1 + 1) #[v0, v1] 42) {g n : Nat} {M : Nat → Nat → Int} {A : Nat} (hm : MtO A W g n M) : MtO A (layR B x0 x1 x2 x3 y0 y1 W) g n M := by
 have n2 : B + 1 + 1 ≠ B + 1 := by omega
 unfold layR
 have k1 := k.far (p := ⟨B + 1, 0, none⟩) n2 x0
 have k2 := k1.far (p := ⟨B + 1, 1, none⟩) n2 x1
 have k3 := k2.far (p := ⟨B + 1, 2, none⟩) n2 x2
 have k4 := k3.far (p := ⟨B + 1, 3, none⟩) n2 x3
 exact MtO.farT (MtO.farT (MtO.farT (MtO.farT (MtO.farT (MtO.farT hm h (by decide) (by decide) _ _) (h.set 0 x0) (by decide) (by decide) _ _) ((h.set 0 x0).set 1 x1) (by decide) (by decide) _ _) (((h.set 0 x0).set 1 x1).set 2 x2) (by decide) (by decide) _ _) k4 (by decide) (by decide) _ _) (k4.set 0 y0) (by decide) (by decide) _ _
theorem cube_layR {W : World} {B : Nat} {x0 x1 x2 x3 y0 y1 u0 u1 u2 u3 v0 v1 : Value} (h : Blk W (B + 1) #[u0, u1, u2, u3] 39) (k : Blk W (B + 1 + 1) #[v0, v1] 42) {g nk n : Nat} {C : Cube} (hm : CubeB W nk n C g) : CubeB (layR B x0 x1 x2 x3 y0 y1 W) nk n C g := by
 have n2 : B + 1 + 1 ≠ B + 1 := by omega
 unfold layR
 have k1 := k.far (p := ⟨B + 1, 0, none⟩) n2 x0
 have k2 := k1.far (p := ⟨B + 1, 1, none⟩) n2 x1
 have k3 := k2.far (p := ⟨B + 1, 2, none⟩) n2 x2
 have k4 := k3.far (p := ⟨B + 1, 3, none⟩) n2 x3
 exact CubeB.farT (CubeB.farT (CubeB.farT (CubeB.farT (CubeB.farT (CubeB.farT hm h (by decide) (by decide) (by decide) _ _) (h.set 0 x0) (by decide) (by decide) (by decide) _ _) ((h.set 0 x0).set 1 x1) (by decide) (by decide) (by decide) _ _) (((h.set 0 x0).set 1 x1).set 2 x2) (by decide) (by decide) (by decide) _ _) k4 (by decide) (by decide) (by decide) _ _) (k4.set 0 y0) (by decide) (by decide) (by decide) _ _
theorem row_layR {W : World} {B : Nat} {x0 x1 x2 x3 y0 y1 u0 u1 u2 u3 v0 v1 : Value} (h : Blk W (B + 1) #[u0, u1, u2, u3] 39) (k : Blk W (B + 1 + 1) #[v0, v1] 42) {base n : Nat} {v : Value} {xs : List Value} (hm : W.ownsRow base 3 1 v n xs) : (layR B x0 x1 x2 x3 y0 y1 W).ownsRow base 3 1 v n xs := by
 have n2 : B + 1 + 1 ≠ B + 1 := by omega
 unfold layR
 have k1 := k.far (p := ⟨B + 1, 0, none⟩) n2 x0
 have k2 := k1.far (p := ⟨B + 1, 1, none⟩) n2 x1
 have k3 := k2.far (p := ⟨B + 1, 2, none⟩) n2 x2
 have k4 := k3.far (p := ⟨B + 1, 3, none⟩) n2 x3
 exact row_farT (row_farT (row_farT (row_farT (row_farT (row_farT hm h (by decide) _ _) (h.set 0 x0) (by decide) _ _) ((h.set 0 x0).set 1 x1) (by decide) _ _) (((h.set 0 x0).set 1 x1).set 2 x2) (by decide) _ _) k4 (by decide) _ _) (k4.set 0 y0) (by decide) _ _
def WkE (B : Nat) (fr till : Int) (gm n gd nk : Nat) (p : Option Addr) (l cap : Nat) (s : Int) (W : World) : Prop :=
 W.cell? ⟨B + 1 + 1 + 1, 6, none⟩ = some (.int .i64 fr) ∧ W.cell? ⟨B + 1 + 1 + 1, 7, none⟩ = some (.int .i64 till) ∧ W.cell? ⟨B + 1 + 1 + 1, 8, none⟩ = some (.slice (some ⟨gm, 0, none⟩) n n) ∧ W.cell? ⟨B + 1 + 1 + 1, 9, none⟩ = some (.slice (some ⟨gd, 0, none⟩) nk nk) ∧
 W.cell? ⟨B + 1 + 1 + 1, 10, none⟩ = some (.slice p l cap) ∧ W.cell? ⟨B + 1 + 1 + 1, 11, none⟩ = some (.int .i64 s)
set_option maxRecDepth 100000 in
set_option maxHeartbeats 1000000 in
theorem compile_c (N : Net) (fr till : Int) (w : World) (R) (hk : KwAt w) (hN : NetAt w N)
  (hok : ∀ w' P p cap, compErr N fr till = 0 → Below w.heap.size w w' → PlanAt w.heap.size N fr till P p cap w' → R (.returned (.tuple #[.agg P.cells.toArray, .agg #[.slice p (certF N fr till).length cap, .int .i64 (sealF (certF N fr till))], .int .i64 0])) w')
  (her : ∀ w', compErr N fr till ≠ 0 → Below w.heap.size w w' → R (.returned (.tuple #[.agg zeroP, .agg #[.slice none 0 0, .int .i64 0], .int .i64 (compErr N fr till)])) w') :
  Calls Tryz.prog 9 #[.agg N.cells, .int .i64 fr, .int .i64 till] w R := by
 have HOk := hide hok; have HEr := hide her; have HN := hide hN; have HK := hide hk
 obtain ⟨w1, hw1⟩ : ∃ w1, ((w.alloc (.cells N.cells 29)).alloc (.cells zeroP 39)).alloc (.cells #[.slice none 0 0, .int .i64 0] 42) = w1 := ⟨_, rfl⟩
 have kN : Blk w1 w.heap.size N.cells 29 := by rw [← hw1]; repeat (first | exact Blk.new_at (by simp) | refine Blk.alloc ?_ _)
 obtain ⟨y0, y1, y2, y3, y4, y5⟩ := kN.net6
 have hs1 : w1.heap.size = w.heap.size + 1 + 1 + 1 := by rw [← hw1]; simp
 have H0 : Hid (CpS w N fr till 0 ((w1.alloc (.cells (workC N (plan0 fr till) ct0) 92)).alloc (.cells #[stepF 35, stepF 36, stepF 37, stepF 38, stepF 39] 96))) := hide (by
  have hb1 : Below w.heap.size w w1 := hw1 ▸ balloc (balloc (balloc (Below.refl _ _) _) _) _
  refine ⟨balloc (balloc hb1 _) _, ⟨?_, ?_, ?_⟩, ?_⟩
  ·rw [← hw1]; repeat (first | exact Blk.new_at (by simp) | refine Blk.alloc ?_ _)
  ·rw [← hw1]; repeat (first | exact Blk.new_at (by simp) | refine Blk.alloc ?_ _)
  ·exact Blk.new_at (by simp [hs1])
  ·exact Blk.alloc (Blk.new_at (by omega)) _)
 unfold Net.cells zeroP at hw1
 clear hok her hN hk kN
 unfold Net.cells
 go_enter Tryz.func9, Tryz.ntmps9
 go_wp2
 clear y0 y1 y2 y3 y4 y5
 have H0' := H0.out
 unfold workC Net.cells Pln.cells plan0 ct0 stepF at H0'
 change CpS w N fr till 0 ((w1.alloc (.cells #[.slice N.cp N.cals.length N.cc, .slice N.np N.names.length N.nc, .slice N.op N.oprs.length N.oc, .slice N.fp N.offs.length N.fc, .slice N.lp N.lins.length N.lc, .slice N.kp N.clss.length N.kc, .int .i64 fr, .int .i64 till, .slice none 0 0, .slice none 0 0, .slice none 0 0, .int .i64 0] 92)).alloc (.cells #[.func (.func 35) #[] #[], .func (.func 36) #[] #[], .func (.func 37) #[] #[], .func (.func 38) #[] #[], .func (.func 39) #[] #[]] 96)) at H0'
 have H0 := hide H0'
 clear H0' hs1 hw1
 go_loopw [28] (fun si wr => ∃ i : Nat, i ≤ 5 ∧ si = .int .i64 (i : Int) ∧ Hid (CpS w N fr till i wr)) (fun si _ => 5 - (intOf si).toNat)
 case atStart => exact ⟨0, by decide, rfl, H0⟩
 case round =>
  clear H0
  obtain ⟨i, hi, rfl, HS⟩ := hrel
  by_cases hlt : i < 5
  ·have q1 : (0 : Int) ≤ (i : Int) := by omega
   have q2 : (i : Int) < 5 := by omega
   have c0 := HS.out.bl.2.st.cell (stepFn_at hlt)
   have eg := stepFn_enters hlt
   have HS1 := hide (HS.out.next (balloc (Below.refl wr.heap.size wr) (.cells #[.func (.func (stepFn i)) #[] #[]] 96)))
   have Hlt := hide hlt
   clear c0
   have c0 := HS.out.bl.2.st.cell (stepFn_at hlt)
   go_wp2
   refine step_c w N fr till i _ _ Hlt.out HK.out HN.out HS1.out (fun W' hS' => ?_) (fun e W' he hne hb hC => ?_)
   ·have HS2 := hide hS'
    clear hS' c0 eg HS HS1
    go_wp2
    go_roundw
    case rel => exact ⟨i + 1, Hlt.out, by go_num, HS2⟩
    case measure => have := Hlt.out; simp [intOf]; omega
   ·have HF := hide HEr.out
    rw [he] at HF
    have HB := hide hb; have HC := hide hC; have Hne := hide hne
    have a0 := hC.pl.cell (k := 0) (v := .int .i64 0) rfl; have a1 := hC.pl.cell (k := 1) (v := .int .i64 0) rfl; have a2 := hC.pl.cell (k := 2) (v := .slice none 0 0) rfl; have a3 := hC.pl.cell (k := 3) (v := .slice none 0 0) rfl
    have f0 := hC.pl.free 0; have f1 := hC.pl.free 1; have f2 := hC.pl.free 2; have f3 := hC.pl.free 3
    have b0 := hC.ce.cell (k := 0) (v := .slice none 0 0) rfl; have b1 := hC.ce.cell (k := 1) (v := .int .i64 0) rfl
    have g0 := hC.ce.free 0; have g1 := hC.ce.free 1
    have t1 : (e != (0 : Int)) = true := by simpa using hne
    clear c0 eg HS HS1 he hne hb hC
    go_wp2
    obtain ⟨z, zz⟩ := layR_blk (x0 := .int .i64 0) (x1 := .int .i64 0) (x2 := .slice none 0 0) (x3 := .slice none 0 0) (y0 := .slice none 0 0) (y1 := .int .i64 0) HC.out.pl HC.out.ce
    refine bodyPost_ret (v := .tuple #[.agg zeroP, .agg #[.slice none 0 0, .int .i64 0], .int .i64 e]) ?_ rfl (HF.out _ Hne.out (layR_below (x0 := .int .i64 0) (x1 := .int .i64 0) (x2 := .slice none 0 0) (x3 := .slice none 0 0) (y0 := .slice none 0 0) (y1 := .int .i64 0) HB.out))
    have z0 := z.cell (k := 0) rfl; have z1 := z.cell (k := 1) rfl; have z2 := z.cell (k := 2) rfl; have z3 := z.cell (k := 3) rfl
    have z4 := zz.cell (k := 0) rfl; have z5 := zz.cell (k := 1) rfl
    unfold layR at z0 z1 z2 z3 z4 z5
    clear z zz a0 a1 a2 a3 b0 b1 f0 f1 f2 f3 g0 g1
    simp [results, Tryz.results9, go_sem, z0, z1, z2, z3, z4, z5, zeroP]
  ·obtain rfl : i = 5 := by omega
   obtain ⟨hce, hB, hC, gm, gd, p, cap, hw, hm, hcu, hrow⟩ := HS.out
   obtain ⟨cn, hcn⟩ : ∃ cn, certF N fr till = cn := ⟨_, rfl⟩
   rw [hcn] at hw hrow
   have Hcn := hide hcn
   have Hce := hide hce; have HB := hide hB; have HC := hide hC; have Hm := hide hm; have Hcu := hide hcu; have Hrow := hide hrow
   obtain ⟨p0, p1, p2, p3⟩ := Blk.workP hw
   have p10 : wr.cell? ⟨w.heap.size + 1 + 1 + 1, 10, none⟩ = some (.slice p cn.length cap) := Blk.cell hw rfl
   have p11 : wr.cell? ⟨w.heap.size + 1 + 1 + 1, 11, none⟩ = some (.int .i64 (sealF cn)) := Blk.cell hw rfl
   have a0 := hC.pl.cell (k := 0) (v := .int .i64 0) rfl; have a1 := hC.pl.cell (k := 1) (v := .int .i64 0) rfl; have a2 := hC.pl.cell (k := 2) (v := .slice none 0 0) rfl; have a3 := hC.pl.cell (k := 3) (v := .slice none 0 0) rfl
   have f0 := hC.pl.free 0; have f1 := hC.pl.free 1; have f2 := hC.pl.free 2; have f3 := hC.pl.free 3
   have b0 := hC.ce.cell (k := 0) (v := .slice none 0 0) rfl; have b1 := hC.ce.cell (k := 1) (v := .int .i64 0) rfl
   have g0 := hC.ce.free 0; have g1 := hC.ce.free 1
   unfold plan2 at p0 p1 p2 p3
   simp only at p0 p1 p2 p3
   clear hce hB hC hw hm hcu hrow hcn HS hi hlt
   go_wp2
   go_region
   all_goals
    obtain ⟨z, zz⟩ := layR_blk (x0 := .int .i64 fr) (x1 := .int .i64 till) (x2 := .slice (some ⟨gm, 0, none⟩) N.offs.length N.offs.length) (x3 := .slice (some ⟨gd, 0, none⟩) N.clss.length N.clss.length) (y0 := .slice p cn.length cap) (y1 := .int .i64 (sealF cn)) HC.out.pl HC.out.ce
    have hm2 := mem_layR (x0 := .int .i64 fr) (x1 := .int .i64 till) (x2 := .slice (some ⟨gm, 0, none⟩) N.offs.length N.offs.length) (x3 := .slice (some ⟨gd, 0, none⟩) N.clss.length N.clss.length) (y0 := .slice p cn.length cap) (y1 := .int .i64 (sealF cn)) HC.out.pl HC.out.ce Hm.out
    have hc2 := cube_layR (x0 := .int .i64 fr) (x1 := .int .i64 till) (x2 := .slice (some ⟨gm, 0, none⟩) N.offs.length N.offs.length) (x3 := .slice (some ⟨gd, 0, none⟩) N.clss.length N.clss.length) (y0 := .slice p cn.length cap) (y1 := .int .i64 (sealF cn)) HC.out.pl HC.out.ce Hcu.out
    have hr2 := row_layR (x0 := .int .i64 fr) (x1 := .int .i64 till) (x2 := .slice (some ⟨gm, 0, none⟩) N.offs.length N.offs.length) (x3 := .slice (some ⟨gd, 0, none⟩) N.clss.length N.clss.length) (y0 := .slice p cn.length cap) (y1 := .int .i64 (sealF cn)) HC.out.pl HC.out.ce Hrow.out
    have hb2 := layR_below (x0 := .int .i64 fr) (x1 := .int .i64 till) (x2 := .slice (some ⟨gm, 0, none⟩) N.offs.length N.offs.length) (x3 := .slice (some ⟨gd, 0, none⟩) N.clss.length N.clss.length) (y0 := .slice p cn.length cap) (y1 := .int .i64 (sealF cn)) HB.out
    have hPl : PlanAt w.heap.size N fr till (plan2 fr till gm N.offs.length gd N.clss.length) p cap (layR w.heap.size (.int .i64 fr) (.int .i64 till) (.slice (some ⟨gm, 0, none⟩) N.offs.length N.offs.length) (.slice (some ⟨gd, 0, none⟩) N.clss.length N.clss.length) (.slice p cn.length cap) (.int .i64 (sealF cn)) wr).drew :=
     ⟨rfl, rfl, rfl, rfl, (MtO.mat hm2).next (Below.refl _ _).drew, (CubeB.at_ hc2).next (Below.refl _ _).drew, by rw [Hcn.out]; exact own_below hr2 (Below.refl _ _).drew, Nat.le_refl _, Nat.le_refl _⟩
    have HF := hide (HOk.out _ _ p cap Hce.out (bseq hb2 (Below.refl _ _).drew) hPl)
    rw [Hcn.out] at HF
    have Hz := hide (And.intro z zz)
    clear z zz hm2 hc2 hr2 hb2 hPl a0 a1 a2 a3 b0 b1 f0 f1 f2 f3 g0 g1 p0 p1 p2 p3 p10 p11
    go_wp2
    refine bodyPost_ret (v := .tuple #[.agg (plan2 fr till gm N.offs.length gd N.clss.length).cells.toArray, .agg #[.slice p cn.length cap, .int .i64 (sealF cn)], .int .i64 0]) ?_ rfl HF.out
    obtain ⟨z, zz⟩ := Hz.out
    have z0 := z.cell (k := 0) rfl; have z1 := z.cell (k := 1) rfl; have z2 := z.cell (k := 2) rfl; have z3 := z.cell (k := 3) rfl
    have z4 := zz.cell (k := 0) rfl; have z5 := zz.cell (k := 1) rfl
    unfold layR at z0 z1 z2 z3 z4 z5
    clear z zz HF Hz
    simp [results, Tryz.results9, go_sem, z0, z1, z2, z3, z4, z5, plan2, Pln.cells]
end
section
open Go.RowKit Go.Shelf
attribute [local go_sem] Oper.semAt_some run_store_func
theorem EncAt.of_blk {α : Type} {k : Nat} {enc : α → List Value} {w : World} {l : List α} (hk : ∀ x, (enc x).length = k) {g : Nat} {t : TypeId} {cs : Array Value} (h : Blk w g cs t) (hc : cs = (l.flatMap enc).toArray) : EncAt k enc w (some ⟨g, 0, none⟩) l :=
 EncAt.of_flat hk fun j u hu => h.cell (by rw [hc]; simpa using hu)
structure Net9At (w : World) (wk ca na op of li cl : Nat) : Prop where
 week : Blk w wk #[.bool true, .bool true, .bool true, .bool true, .bool true, .bool false, .bool false] 4
 cal : Blk w ca #[.int .i64 0, .slice (some ⟨wk, 0, none⟩) 7 7, .slice none 0 0] 164
 nam : Blk w na #[.string (str1 99)] 9
 opr : Blk w op #[.string (str1 112), .string (str1 113)] 166
 off : Blk w of #[.string (str1 97), .int .i64 0, .int .i64 0, .int .i64 2, .int .i64 1, .int .i64 10, .slice none 0 0, .string (str1 98), .int .i64 1, .int .i64 0, .int .i64 2, .int .i64 1, .int .i64 10, .slice none 0 0] 65
 lin : Blk w li #[.string (str1 108), .int .i64 0, .int .i64 1, .int .i64 480, .int .i64 120, .int .i64 1, .string (str1 109), .int .i64 1, .int .i64 0, .int .i64 600, .int .i64 60, .int .i64 1] 55
 cls : Blk w cl #[.string (str1 107), .int .i64 1020, .int .i64 720] 168
theorem Net9At.net {w : World} {wk ca na op of li cl : Nat} (h : Net9At w wk ca na op of li cl) : NetAt w (net9 wk ca na op of li cl) := by
 have a1 : CalsAt w (some ⟨ca, 0, none⟩) (net9 wk ca na op of li cl).cals := EncAt.of_blk (enc := Cal.cells) (k := 3) (fun _ => rfl) h.cal rfl
 have a2 : EncAt 1 (fun s => [Value.string s]) w (some ⟨na, 0, none⟩) (net9 wk ca na op of li cl).names := EncAt.of_blk (enc := fun s => [Value.string s]) (k := 1) (fun _ => rfl) h.nam rfl
 have a3 : EncAt 1 (fun s => [Value.string s]) w (some ⟨op, 0, none⟩) (net9 wk ca na op of li cl).oprs := EncAt.of_blk (enc := fun s => [Value.string s]) (k := 1) (fun _ => rfl) h.opr rfl
 have a4 : OffsAt w (some ⟨of, 0, none⟩) (net9 wk ca na op of li cl).offs := EncAt.of_blk (enc := Off.cells) (k := 7) (fun _ => rfl) h.off rfl
 have a5 : LinsAt w (some ⟨li, 0, none⟩) (net9 wk ca na op of li cl).lins := EncAt.of_blk (enc := Lin.cells) (k := 6) (fun _ => rfl) h.lin rfl
 have a6 : ClssAt w (some ⟨cl, 0, none⟩) (net9 wk ca na op of li cl).clss := EncAt.of_blk (enc := Cls.cells) (k := 3) (fun _ => rfl) h.cls rfl
 refine ⟨a1, ?_, ⟨a2, ?_, (by decide : (1 : Nat) ≤ maxLen)⟩, ⟨a3, ?_, (by decide : (2 : Nat) ≤ maxLen)⟩, a4, ?_, a5, ?_, a6, ?_, ⟨(by decide : (1 : Nat) ≤ maxLen), (by decide : (2 : Nat) ≤ maxLen), (by decide : (2 : Nat) ≤ maxLen), (by decide : (1 : Nat) ≤ maxLen)⟩⟩
 ·intro c hc
  obtain rfl := List.mem_singleton.1 hc
  exact ⟨EncAt.of_blk (enc := fun b : Bool => [Value.bool b]) (k := 1) (l := [true, true, true, true, true, false, false]) (fun _ => rfl) h.week rfl, fun hl => absurd hl (by simp), (by decide : (7 : Nat) ≤ maxLen), (by decide : (0 : Nat) ≤ maxLen), (by unfold I64; decide : I64 0), fun x hx => by cases hx⟩
 ·intro s hs; obtain rfl := List.mem_singleton.1 hs; decide
 ·intro s hs
  rcases List.mem_cons.1 hs with rfl | hs
  ·decide
  ·obtain rfl := List.mem_singleton.1 hs; decide
 ·intro c hc
  rcases List.mem_cons.1 hc with rfl | hc
  ·exact ⟨StrsAt.nil, by decide, by unfold I64; decide⟩
  ·obtain rfl := List.mem_singleton.1 hc; exact ⟨StrsAt.nil, by decide, by unfold I64; decide⟩
 ·intro c hc
  rcases List.mem_cons.1 hc with rfl | hc
  ·unfold LinR I64; decide
  ·obtain rfl := List.mem_singleton.1 hc; unfold LinR I64; decide
 ·intro c hc
  obtain rfl := List.mem_singleton.1 hc
  unfold ClsR I64; decide
set_option maxRecDepth 100000 in
set_option maxHeartbeats 4000000 in
theorem net9_c (w : World) (R) (hR : ∀ w' wk ca na op of li cl, Below w.heap.size w w' → NetAt w' (net9 wk ca na op of li cl) → R (.returned (.agg (net9 wk ca na op of li cl).cells)) w') : Calls Tryz.prog 32 #[] w R := by
 have HR := hide hR
 clear hR
 go_enter Tryz.func32, Tryz.ntmps32
 go_wp2
 refine bodyPost_ret (v := .agg (net9 (w.heap.size + 1) (w.heap.size + 1 + 1) (w.heap.size + 1 + 1 + 1) (w.heap.size + 1 + 1 + 1 + 1) (w.heap.size + 1 + 1 + 1 + 1 + 1 + 1) (w.heap.size + 1 + 1 + 1 + 1 + 1 + 1 + 1) (w.heap.size + 1 + 1 + 1 + 1 + 1 + 1 + 1 + 1)).cells) ?_ rfl (HR.out _ _ _ _ _ _ _ _ ?_ (Net9At.net ⟨?_, ?_, ?_, ?_, ?_, ?_, ?_⟩))
 ·rw [results_cell1 (p := 0) (ty := 29) Tryz.results32]
  simp [go_sem, net9, Net.cells]
 ·exact balloc (balloc (balloc (balloc (balloc (balloc (balloc (balloc (balloc (Below.refl _ _) _) _) _) _) _) _) _) _) _
 all_goals repeat (first | exact Blk.new_at (by simp) | refine Blk.alloc ?_ _)
end
end Go.Proofs.YtgfhcmidnbahjaaGreatDoor
