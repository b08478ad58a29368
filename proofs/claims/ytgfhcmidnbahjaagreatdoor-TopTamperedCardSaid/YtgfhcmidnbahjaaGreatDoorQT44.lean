/- Top: small networks and few days, of the law. inspect.Plan of a sealed certificate. -/
import Derived.Test.YtgfhcmidnbahjaaGreatDoorQT43
import Derived.Test.YtgfhcmidnbahjaaGreatDoorQT37
set_option linter.unusedVariables false
set_option linter.unusedSimpArgs false
namespace Go.Proofs.YtgfhcmidnbahjaaGreatDoor
open Go.RowKit Go.Shelf
attribute [local go_sem] Oper.semAt_some run_store_func
set_option maxRecDepth 100000 in
set_option maxHeartbeats 2000000 in
theorem topSmall2_c (N : Net) (fr till : Int) (w : World) (R) (hN : NetAt w N) (hR : ∀ b w', (b = true → N.offs.length ≤ 6 ∧ till ≤ wrap64 (fr + 9)) → Below w.heap.size w w' → R (.returned (.bool b)) w') :
    Calls Tryz.prog 8 #[.agg N.cells, .int .i64 fr, .int .i64 till] w R := by
  have HR := hide hR; have HN := hide hN
  obtain ⟨w1, hw1⟩ : ∃ w1, w.alloc (.cells N.cells 29) = w1 := ⟨_, rfl⟩
  have hb1 : Below w.heap.size w w1 := hw1 ▸ balloc (Below.refl _ _) _
  have k1 : Blk w1 w.heap.size N.cells 29 := hw1 ▸ Blk.new _ _ _
  have HB := hide hb1; have HK := hide k1
  obtain ⟨y0, y1, y2, y3, y4, y5⟩ := k1.net6
  unfold Net.cells at hw1 ⊢
  clear hR hN hb1 k1
  go_enter Tryz.func8, Tryz.ntmps8
  go_wp2_with (go_at_call 34; refine Stop.out ?_)
  have hcall := small_c N w1
  unfold Net.cells at hcall
  clear hw1
  refine Stop.go (hcall _ (HN.out.next HB.out) ?_)
  intro b w2 hb6 hb
  have HB2 := hide (bseq HB.out hb); have H6 := hide hb6
  obtain ⟨y0', y1', y2', y3', y4', y5'⟩ := (HK.out.next hb).net6
  clear hb y0 y1 y2 y3 y4 y5 hcall hb6
  cases b with
  | false =>
    go_wp2
    exact HR.out _ _ (by simp) HB2.out
  | true =>
    have HR2 : Hid (∀ b, (b = true → till ≤ wrap64 (fr + 9)) → R (.returned (.bool b)) w2) := hide (fun b h => HR.out b w2 (fun e => ⟨H6.out rfl, h e⟩) HB2.out)
    go_wp2
    all_goals exact HR2.out _ (by
      intro e
      first
      | exact absurd e (by decide)
      | exact of_decide_eq_true e
      | (have e := of_decide_eq_true e; rw [IntKind.wrap_i64]; exact e))
end Go.Proofs.YtgfhcmidnbahjaaGreatDoor
namespace Go.Proofs.YtgfhcmidnbahjaaGreatDoor
open Go.RowKit Go.Shelf
attribute [local go_sem] Oper.semAt_some run_store_func
theorem iPlan_calm (n : Nat) (p q : Addr) (w : World) :
    CallsDIn Fence.wide n Tryz.prog 96 #[.pointer (some p), .pointer (some q)] .returning w fun e u' w' => e = .returned (.tuple #[]) ∧ u' = .returning ∧ w' = w := by
  refine callsDIn_of_wpSIn Tryz.func96 rfl trivial fun c₀ cs hu => ?_
  apply wpSIn_seq
  apply wpSIn_region
  simp [wpOpsSIn, go_sem, recoverD, hu, Tryz.ntmps96, Exit.thenS]
  apply wpSIn_seq
  apply wpSIn_region
  simp [wpOpsSIn, go_sem, hu, Exit.thenS]
  refine wpSIn_cond (t := false) (by simp [Act.eval, Array.replicate]) ?_
  simp only [Bool.false_eq_true, if_false]
  refine wpSIn_of_wpIn rfl (wpIn_skip ?_)
  cases c₀
  simp_all [bodyPostS, results, Tryz.results96]
def setPl (W : World) (b : Nat) (v0 v1 v2 v3 : Value) : World := (((W.setCell ⟨b, 0, none⟩ v0).setCell ⟨b, 1, none⟩ v1).setCell ⟨b, 2, none⟩ v2).setCell ⟨b, 3, none⟩ v3
theorem setPl_ab {gr : Nat} {A W : World} {b : Nat} {v0 v1 v2 v3 : Value} (h : Ab gr A W) (hb : b ≤ gr) : Ab gr A (setPl W b v0 v1 v2 v3) := (((h.cell (p := ⟨b, 0, none⟩) hb v0).cell (p := ⟨b, 1, none⟩) hb v1).cell (p := ⟨b, 2, none⟩) hb v2).cell (p := ⟨b, 3, none⟩) hb v3
theorem setPl_below {B : Nat} {A W : World} {b : Nat} {v0 v1 v2 v3 : Value} (h : Below B A W) (hb : B ≤ b) : Below B A (setPl W b v0 v1 v2 v3) := (((h.setCell (p := ⟨b, 0, none⟩) hb v0).setCell (p := ⟨b, 1, none⟩) hb v1).setCell (p := ⟨b, 2, none⟩) hb v2).setCell (p := ⟨b, 3, none⟩) hb v3
theorem setPl_blk {W : World} {b : Nat} {v0 v1 v2 v3 u0 u1 u2 u3 : Value} {t : TypeId} (h : Blk W b #[u0, u1, u2, u3] t) : Blk (setPl W b v0 v1 v2 v3) b #[v0, v1, v2, v3] t := ((((h.set 0 v0).set 1 v1).set 2 v2).set 3 v3)
theorem setPl_far {W : World} {b g : Nat} {v0 v1 v2 v3 : Value} {cs : Array Value} {t : TypeId} (h : Blk W g cs t) (hne : g ≠ b) : Blk (setPl W b v0 v1 v2 v3) g cs t := (((h.far (p := ⟨b, 0, none⟩) hne v0).far (p := ⟨b, 1, none⟩) hne v1).far (p := ⟨b, 2, none⟩) hne v2).far (p := ⟨b, 3, none⟩) hne v3
set_option maxRecDepth 100000 in
set_option maxHeartbeats 4000000 in
theorem iPlan_c (xs : List Int) (q : Option Addr) (cap : Nat) (s : Int) (n c : Nat) (nx : Mat) (C : Cube) (fr till : Int) (rest : List Int) (w : World) (R) (hy : IntsAt .i64 w q xs) (hcap : xs.length ≤ cap) (hl : xs.length ≤ 1000000) (hsl : sealedB xs s = true)
    (heq : xs = headL n c nx C fr till ++ rest) (hn : n ≤ 12) (hc : c ≤ 4) (hft : fr < till) (h60 : till ≤ fr + 60) (h600 : till ≤ 600) (h0 : 0 ≤ fr) (hrn : ∀ o d, -1 ≤ nx o d ∧ nx o d ≤ 65518) (hrc : ∀ k o d, -1 ≤ C k o d ∧ C k o d ≤ 65518)
    (hR : ∀ g1 g2 w', Below w.heap.size w w' → MatAt w' (some ⟨g1, 0, none⟩) n nx → CubeAt w' (some ⟨g2, 0, none⟩) c n C → R (.returned (.tuple #[.agg #[.int .i64 fr, .int .i64 till, .slice (some ⟨g1, 0, none⟩) n n, .slice (some ⟨g2, 0, none⟩) c c], .int .i64 0])) w') :
    Calls Tryz.prog 27 #[.agg #[.slice q xs.length cap, .int .i64 s]] w R := by
  have HR := hide hR; have HRn := hide hrn; have HRc := hide hrc; have HEq := hide heq
  have hmf : ∀ (fn : Fn) (first cap : Array Value) (w : World), (Instr.makeFunc fn first cap).run Tryz.prog w = .ok (.func fn first cap) w := fun _ _ _ _ => rfl
  obtain ⟨w1, hw1⟩ : ∃ w1, ((w.alloc (.cells #[.slice q xs.length cap, .int .i64 s] 42)).alloc (.cells #[.int .i64 0, .int .i64 0, .slice none 0 0, .slice none 0 0] 39)).alloc (.cells #[.int .i64 0] 43) = w1 := ⟨_, rfl⟩
  have hb1 : Below w.heap.size w w1 := hw1 ▸ balloc (balloc (balloc (Below.refl _ _) _) _) _
  have k0 : Blk w1 w.heap.size #[.slice q xs.length cap, .int .i64 s] 42 := by rw [← hw1]; repeat (first | exact Blk.new_at (by simp) | refine Blk.alloc ?_ _)
  have k1 : Blk w1 (w.heap.size + 1) #[.int .i64 0, .int .i64 0, .slice none 0 0, .slice none 0 0] 39 := by rw [← hw1]; exact Blk.alloc (Blk.new_at (by simp)) _
  have k2 : Blk w1 (w.heap.size + 1 + 1) #[.int .i64 0] 43 := by rw [← hw1]; exact Blk.new_at (by simp)
  have HB1 := hide hb1; have HY := hide (hy.keep (Keeps.of_below hb1)); have K1 := hide k1; have K2 := hide k2
  have x0 := k0.cell (k := 0) rfl; have x1 := k0.cell (k := 1) rfl
  have hws : w.heap.size + 1 + 1 < w1.heap.size := k2.lt
  clear hR hy hb1 k0 k1 k2 hrn hrc heq
  refine calls_of_wpAt Tryz.func27 rfl (wpAt_of_wp ?_)
  simp only [Tryz.ntmps27, List.size_toArray, List.length_cons, List.length_nil, Nat.reduceAdd, Nat.reduceSub, Array.replicate_succ, Array.replicate_zero, List.push_toArray, List.append_toArray, List.nil_append, List.cons_append]
  go_wp2_with (go_at_call 98; refine Stop.out ?_)
  clear hw1
  refine Stop.go (iopen_ok xs q cap s n c nx C fr till rest w1 _ HY.out hcap hl hsl HEq.out hn hc hft h60 h600 h0 HRn.out HRc.out ?_)
  intro gr g1 g2 w2 hS hM
  have hgr := hS.base
  have HS := hide hS; have HM := hide hM
  have KP := hide (K1.out.next hS.below); have KE := hide (K2.out.next hS.below)
  have z0 := KP.out.cell (k := 0) rfl; have z1 := KP.out.cell (k := 1) rfl; have z2 := KP.out.cell (k := 2) rfl; have z3 := KP.out.cell (k := 3) rfl
  have f0 := KP.out.free 0; have f1 := KP.out.free 1; have f2 := KP.out.free 2; have f3 := KP.out.free 3
  have e0 := KE.out.cell (k := 0) rfl; have fe := KE.out.free 0
  obtain ⟨a2, ha2⟩ : ∃ a2 : Value, a2 = .slice (some ⟨g1, 0, none⟩) n n := ⟨_, rfl⟩
  obtain ⟨a3, ha3⟩ : ∃ a3 : Value, a3 = .slice (some ⟨g2, 0, none⟩) c c := ⟨_, rfl⟩
  obtain ⟨W4, hW4⟩ : ∃ W4, setPl (setPl w2 (w.heap.size + 1) (.int .i64 fr) (.int .i64 till) (.slice (some ⟨g1, 0, none⟩) n n) (.slice (some ⟨g2, 0, none⟩) c c)) (w.heap.size + 1) (.int .i64 fr) (.int .i64 till) (.slice (some ⟨g1, 0, none⟩) n n) (.slice (some ⟨g2, 0, none⟩) c c) = W4 := ⟨_, rfl⟩
  have hbW : Below w.heap.size w w2 := bseq HB1.out hS.below
  have hb4 : Below w.heap.size w W4 := by rw [← hW4]; exact setPl_below (setPl_below hbW (by omega)) (by omega)
  have ha4 : Ab gr w2 W4 := by rw [← hW4]; exact setPl_ab (setPl_ab (Ab.of_sc (Sc.refl _ _)) (by omega)) (by omega)
  have kp4 : Blk W4 (w.heap.size + 1) #[.int .i64 fr, .int .i64 till, .slice (some ⟨g1, 0, none⟩) n n, .slice (some ⟨g2, 0, none⟩) c c] 39 := by rw [← hW4]; exact setPl_blk (setPl_blk KP.out)
  have ke4 : Blk W4 (w.heap.size + 1 + 1) #[.int .i64 0] 43 := by rw [← hW4]; exact setPl_far (setPl_far KE.out (by omega)) (by omega)
  have hm5 := hM (W4.setCell ⟨w.heap.size + 1 + 1, 0, none⟩ (.int .i64 0)) (ha4.cell (p := ⟨w.heap.size + 1 + 1, 0, none⟩) (by show w.heap.size + 1 + 1 ≤ gr; omega) _)
  have HF := hide (HR.out g1 g2 (W4.setCell ⟨w.heap.size + 1 + 1, 0, none⟩ (.int .i64 0)) (hb4.setCell (p := ⟨w.heap.size + 1 + 1, 0, none⟩) (by show w.heap.size ≤ w.heap.size + 1 + 1; omega) _) hm5.1 hm5.2)
  have KF := hide (kp4.far (p := ⟨w.heap.size + 1 + 1, 0, none⟩) (show w.heap.size + 1 ≠ w.heap.size + 1 + 1 by omega) (.int .i64 0))
  have EF := hide (ke4.set 0 (.int .i64 0))
  have HW4 := hide hW4
  clear hS hM x0 x1 hW4 hbW hb4 ha4 kp4 ke4 hm5 ha2 ha3
  go_wp2
  refine ⟨by simp, .inr ⟨(fun h => by simp [Fence.wide] at h), _, _, 96, #[.pointer (some ⟨w.heap.size + 1, 0, none⟩), .pointer (some ⟨w.heap.size + 1 + 1, 0, none⟩)], rfl, (by simp [invoke, go_sem]), (fun _ _ => trivial), (iPlan_calm _ _ _ _).mono ?_⟩⟩
  rintro e' u' w' ⟨rfl, rfl, rfl⟩
  have hW4 := HW4.out
  unfold setPl at hW4
  rw [hW4]
  have y0 := KF.out.cell (k := 0) rfl; have y1 := KF.out.cell (k := 1) rfl; have y2 := KF.out.cell (k := 2) rfl; have y3 := KF.out.cell (k := 3) rfl; have y4 := EF.out.cell (k := 0) (v := .int .i64 0) rfl
  refine ⟨_, ?_, HF.out⟩
  simp [results, Tryz.results27, go_sem, y0, y1, y2, y3, y4]
end Go.Proofs.YtgfhcmidnbahjaaGreatDoor
