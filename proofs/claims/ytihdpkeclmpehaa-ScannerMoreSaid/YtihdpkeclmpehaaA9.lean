/- The two iterators as sequences. -/
import Derived.Test.YtihdpkeclmpehaaA8
import Derived.Test.YtihdpkeclmpehaaChecked
import Derived.Test.YtihdpkeclmpehaaA7
import Derived.Shelf.SlSortCmp.QuietGrown
import Derived.BigRegion
import Derived.IntWalk
set_option linter.unusedVariables false
set_option linter.unusedSimpArgs false
namespace Go.Proofs.Ytihdpkeclmpehaa
open Go.RowKit Go.Shelf
attribute [local go_sem] Oper.semAt_some

theorem backward_c (p : Option Addr) (n cap : Nat) (w : World) (R) (hR : R (.returned (.func (.func 50) #[] #[.pointer (some ⟨w.heap.size, 0, none⟩)])) (w.alloc (.cells #[.slice p n cap] 22))) : Calls Try.prog 27 #[.slice p n cap] w R := by
  have HR := hide hR
  clear hR
  go_enter Try.func27, Try.ntmps27
  go_wp2
  exact HR.out
theorem observations_c (p : Option Addr) (n cap : Nat) (w : World) (R) (hR : R (.returned (.func (.func 51) #[] #[.pointer (some ⟨w.heap.size, 0, none⟩)])) (w.alloc (.cells #[.slice p n cap] 23))) : Calls Try.prog 28 #[.slice p n cap] w R := by
  have HR := hide hR
  clear hR
  go_enter Try.func28, Try.ntmps28
  go_wp2
  exact HR.out
theorem obs_seq (n : Nat) (hn : 1 ≤ n) (ts : List Trk) (p : Option Addr) (cap m B1 : Nat) (w0 w : World) (hm : ts.length = m) (hm8 : m ≤ 8) (hT : TrksAt w0 p ts) (hok : ∀ t ∈ ts, TkOk t.tk) (hb : Below w0.heap.size w0 w) (c1 : w.cell? ⟨B1, 0, none⟩ = some (.slice p m cap)) :
    SeqB Fence.wide n Try.prog 51 #[.pointer (some ⟨B1, 0, none⟩)] encO Px (fun k => k < w0.heap.size ∨ k = B1) (fun xs => xs.map Obm.ob = obsP (ts.map Trk.tk)) 480 w := by
  intro l J bad W hW hJs hK hY h0
  refine callsIn_wide.2 ?_
  exact iter_c n hn l J bad ts p cap m B1 w0 W hJs hK hm hm8 hT hok (hb.trans (hW.mono hb.size)) (cell_later hW c1) hY h0

def encS (x : Scn × Nat) : Array Value := #[.int .i64 (x.2 : Int), .agg #[.int .i64 x.1.operator, .int .i64 x.1.office, .int .i64 x.1.error]]
theorem back_snoc {l : List Scn} {q : Nat} {x : Scn} (hx : l[q]? = some x) : (l.zipIdx.drop q).reverse = (l.zipIdx.drop (q + 1)).reverse ++ [(x, q)] := by
  have hq := (List.getElem?_eq_some_iff.1 hx).1
  rw [List.drop_eq_getElem_cons (by simpa using hq), List.reverse_cons]
  congr 2
  rw [List.getElem_zipIdx]
  have := (List.getElem?_eq_some_iff.1 hx).2
  simp [this]
set_option maxRecDepth 100000 in
set_option maxHeartbeats 2000000 in
theorem back_seq (n : Nat) (hn : 1 ≤ n) (sl : List Scn) (p : Option Addr) (cap m B1 : Nat) (w0 w : World) (hm : sl.length = m) (hm8 : m ≤ 100) (hT : ScnsAt w0 p sl) (hb : Below w0.heap.size w0 w) (c1 : w.cell? ⟨B1, 0, none⟩ = some (.slice p m cap)) :
    SeqB Fence.wide n Try.prog 50 #[.pointer (some ⟨B1, 0, none⟩)] encS (fun _ _ => True) (fun k => k < w0.heap.size ∨ k = B1) (fun xs => xs = sl.zipIdx.reverse) 1000 w := by
  intro l J bad W hW hJs hK hY h0
  have HJs := hide hJs; have HY := hide hY; have Hm := hide hm; have HT := hide hT
  have HK1 := hide (hK B1 (.inr rfl))
  have HK0 := hide (fun k hk => hK k (.inl hk))
  have hbW : Below w0.heap.size w0 W := hb.trans (hW.mono hb.size)
  have HBW := hide hbW
  have c1W := cell_later hW c1
  have HC := hide c1W
  clear hJs hK hY hm hT hb hbW hW c1
  refine callsIn_of_wp Try.func50 rfl trivial ?_ rfl
  simp only [Try.ntmps50, List.size_toArray, List.length_cons, List.length_nil, Nat.reduceAdd, Nat.reduceSub, Array.replicate_succ, Array.replicate_zero, List.push_toArray, List.append_toArray, List.nil_append, List.cons_append]
  have wz : IntKind.i64.wrap ((m : Int) - 1) = (m : Int) - 1 := by rw [IntWalk.i64_in _ (by omega)]
  gi_wp2
  gi_loopw [3] (fun si wr => ∃ k : Nat, k ≤ m ∧ si = .int .i64 ((k : Int) - 1) ∧ Hid (J (sl.zipIdx.drop k).reverse wr) ∧ Hid (Kpb bad W wr)) (fun si _ => (intOf si + 1).toNat)
  case atStart => exact ⟨m, Nat.le_refl _, rfl, hide (by rw [List.drop_of_length_le (by rw [List.length_zipIdx, Hm.out]; exact Nat.le_refl _)]; exact h0), hide (Kpb.refl _ _)⟩
  case round =>
    clear c1W h0 wz
    obtain ⟨k, hk, rfl, HJ, HP⟩ := hrel
    rcases k with _ | q
    · have hneg : ¬ (0 : Int) ≤ (((0 : Nat) : Int) - 1) := by omega
      rw [show (((0 : Nat) : Int) - 1) = -1 by rfl]
      gi_wp2
      go_end0
      simpa using HJ.out
    · have c1r := kpb_cell HP.out HK1.out HC.out
      have hkeep : Keeps w0 wr := fun a v hv => by
        have hlt := World.block_lt_of_cell? w0 a hv
        rw [World.cell?_of_block ((HP.out.2 a.block (Nat.lt_of_lt_of_le hlt HBW.out.size) (HK0.out _ hlt)).1.trans (HBW.out.block _ hlt))]; exact hv
      obtain ⟨b, o, x, rfl, hx, x0, x1, x2⟩ := (HT.out.keep hkeep).scn (i := q) (by rw [Hm.out]; omega)
      have HS := hide (back_snoc hx)
      have hlen : (sl.zipIdx.drop (q + 1)).reverse.length < 1000 := by rw [List.length_reverse, List.length_drop, List.length_zipIdx, Hm.out]; omega
      obtain ⟨fn, tmps, assign, body, hy, hR⟩ := HY.out _ (x, q) wr HJ.out trivial hlen
      unfold encS at hy
      simp only at hy
      have hqm : (q : Int) < (m : Int) := by omega
      rw [show (((q + 1 : Nat) : Int) - 1) = (q : Int) by omega]
      have wz : IntKind.i64.wrap ((q : Int) - 1) = (q : Int) - 1 := by rw [IntWalk.i64_in _ (by omega)]
      clear hlen hkeep hx
      gi_wp2
      refine hR.mono ?_
      rintro e W3 ⟨rfl, hJ3, hk3⟩
      have HJ3 := hide (show J (sl.zipIdx.drop q).reverse W3 by rw [HS.out]; exact hJ3)
      have HP3 := hide (HP.out.trans hk3)
      clear hJ3 hk3
      gi_wp2
      go_roundw
      case rel => exact ⟨q, by omega, rfl, HJ3, HP3⟩
      case measure => simp [intOf]
end Go.Proofs.Ytihdpkeclmpehaa

namespace Go.Proofs.Ytihdpkeclmpehaa
open Go.RowKit Go.Sort

section
variable {α : Type} {c0 c1 c2 c3 c4 c5 : α → Value}
/-- One exchange in a list, spelled by its parts. -/
theorem swap_parts {β : Type} (P Q S : List β) (x y : β) : ((P ++ x :: Q ++ y :: S).set P.length y).set (P.length + 1 + Q.length) x = P ++ y :: Q ++ x :: S := by
  rw [List.append_assoc, List.set_append_right _ _ (Nat.le_refl _), Nat.sub_self]
  simp only [List.cons_append, List.set_cons_zero]
  rw [List.set_append_right _ _ (by omega), show P.length + 1 + Q.length - P.length = Q.length + 1 by omega, List.set_cons_succ, List.set_append_right _ _ (Nat.le_refl _), Nat.sub_self]
  simp
theorem at_parts {β : Type} (P Q S : List β) (x y : β) : (P ++ x :: Q ++ y :: S)[P.length]? = some x ∧ (P ++ x :: Q ++ y :: S)[P.length + 1 + Q.length]? = some y := by
  constructor
  · rw [List.append_assoc, List.getElem?_append_right (Nat.le_refl _)]; simp
  · rw [List.append_assoc, List.getElem?_append_right (by omega), show P.length + 1 + Q.length - P.length = Q.length + 1 by omega, List.cons_append, List.getElem?_cons_succ, List.getElem?_append_right (Nat.le_refl _)]; simp

set_option maxHeartbeats 4000000 in
set_option maxRecDepth 100000 in
theorem swapRange_c (h0 : ∀ x, (c0 x).oneCell' = true) (h1 : ∀ x, (c1 x).oneCell' = true) (hcell2 : ∀ x, (c2 x).oneCell' = true) (hcell3 : ∀ x, (c3 x).oneCell' = true) (hcell4 : ∀ x, (c4 x).oneCell' = true) (hcell5 : ∀ x, (c5 x).oneCell' = true) (g n cap base : Nat) (fv : Value) (A U M V B : List α) (a b m : Nat) (w0 w : World) (R) (hn : n ≤ 1000000)
    (S : St 31 6 (fun x => [c0 x, c1 x, c2 x, c3 x, c4 x, c5 x]) w0 g n cap base (A ++ U ++ M ++ V ++ B) w) (ha : A.length = a) (hb : (A ++ U ++ M).length = b) (hu : U.length = m) (hv : V.length = m)
    (hR : ∀ w', St 31 6 (fun x => [c0 x, c1 x, c2 x, c3 x, c4 x, c5 x]) w0 g n cap base (A ++ V ++ M ++ U ++ B) w' → R (.returned (.tuple #[])) w') :
    Calls Try.prog 85 #[.slice (some ⟨g, 0, none⟩) n cap, .int .i64 a, .int .i64 b, .int .i64 m, fv] w R := by
  have HR := hide hR; have HS := hide S; have HA := hide ha; have HB := hide hb; have HU := hide hu; have HV := hide hv
  have hlen := S.len
  have hbb : a + m ≤ b ∧ b + m ≤ n := by simp at hlen hb; omega
  clear hR S ha hb hu hv hlen
  go_enter Try.func85, Try.ntmps85
  go_wp2
  go_loopw [10] (fun i wr => ∃ U1 U2 V1 V2 : List α, Hid (U = U1 ++ U2 ∧ V = V1 ++ V2 ∧ U1.length = V1.length ∧ V1.length ≤ m) ∧ i = .int .i64 (V1.length : Int) ∧ Hid (St 31 6 (fun x => [c0 x, c1 x, c2 x, c3 x, c4 x, c5 x]) w0 g n cap base (A ++ V1 ++ U2 ++ M ++ U1 ++ V2 ++ B) wr)) (fun i _ => m - (intOf i).toNat)
  case atStart => exact ⟨[], U, [], V, hide ⟨rfl, rfl, rfl, Nat.zero_le _⟩, rfl, hide (by simpa using HS.out)⟩
  case round =>
    clear HS
    obtain ⟨U1, U2, V1, V2, hp, rfl, HS⟩ := hrel
    by_cases hlt : V1.length < m
    · obtain ⟨x, U3, rfl⟩ : ∃ x U3, U2 = x :: U3 := by
        cases U2 with
        | nil => have := hp.out.1; have := HU.out; have := hp.out.2.2.1; simp_all
        | cons x U3 => exact ⟨x, U3, rfl⟩
      obtain ⟨y, V3, rfl⟩ : ∃ y V3, V2 = y :: V3 := by
        cases V2 with
        | nil => have := hp.out.2.1; have := HV.out; simp_all
        | cons y V3 => exact ⟨y, V3, rfl⟩
      have hl1 : (A ++ V1).length = a + V1.length := by have := HA.out; simp; omega
      have hl2 : (A ++ V1).length + 1 + (U3 ++ M ++ U1).length = b + V1.length := by
        have e1 := HA.out; have e2 := HB.out; have e3 := hp.out; have e4 := HU.out
        rw [e3.1] at e4 e2
        simp at e2 e4 ⊢
        omega
      have S1 := HS.out
      rw [show A ++ V1 ++ x :: U3 ++ M ++ U1 ++ y :: V3 ++ B = (A ++ V1) ++ x :: (U3 ++ M ++ U1) ++ y :: (V3 ++ B) by simp] at S1
      obtain ⟨p1, p2⟩ := at_parts (A ++ V1) (U3 ++ M ++ U1) (V3 ++ B) x y
      have hs := swap_parts (A ++ V1) (U3 ++ M ++ U1) (V3 ++ B) x y
      rw [hl2] at p2 hs
      rw [hl1] at p1 hs
      have hk : ∀ x : α, [c0 x, c1 x, c2 x, c3 x, c4 x, c5 x].length = 6 := fun _ => rfl
      have S2 := ((S1.put hk (a + V1.length) y (by omega)).put hk (b + V1.length) x (by omega)).drew
      rw [hs] at S2
      have f0 := S1.cell hk p1 0 rfl
      have f1 := S1.cell hk p1 1 rfl
      have f2 := S1.cell hk p1 2 rfl
      have f3 := S1.cell hk p1 3 rfl
      have f4 := S1.cell hk p1 4 rfl
      have f5 := S1.cell hk p1 5 rfl
      have f6 := S1.cell hk p2 0 rfl
      have f7 := S1.cell hk p2 1 rfl
      have f8 := S1.cell hk p2 2 rfl
      have f9 := S1.cell hk p2 3 rfl
      have f10 := S1.cell hk p2 4 rfl
      have f11 := S1.cell hk p2 5 rfl
      have fz := fun j => S1.own.frozenAt j
      have S3 := hide S2
      have Hh0 := hide h0
      have Hh1 := hide h1
      have Hh2 := hide hcell2
      have Hh3 := hide hcell3
      have Hh4 := hide hcell4
      have Hh5 := hide hcell5
      have z0 := st_run (P := Try.prog) (h0 x); have z1 := st_run (P := Try.prog) (h1 x); have z2 := st_run (P := Try.prog) (hcell2 x); have z3 := st_run (P := Try.prog) (hcell3 x); have z4 := st_run (P := Try.prog) (hcell4 x); have z5 := st_run (P := Try.prog) (hcell5 x); have z6 := st_run (P := Try.prog) (h0 y); have z7 := st_run (P := Try.prog) (h1 y); have z8 := st_run (P := Try.prog) (hcell2 y); have z9 := st_run (P := Try.prog) (hcell3 y); have z10 := st_run (P := Try.prog) (hcell4 y); have z11 := st_run (P := Try.prog) (hcell5 y)
      clear S1 S2 hs p1 p2 HS hl1 hl2 h0 h1 hcell2 hcell3 hcell4 hcell5
      obtain ⟨i, hi⟩ : ∃ i, i = V1.length := ⟨_, rfl⟩
      rw [← hi] at f0 f1 f2 f3 f4 f5 f6 f7 f8 f9 f10 f11 hlt ⊢
      have Hi := hide hi
      clear hi
      generalize c0 x = x0 at *
      generalize c1 x = x1 at *
      generalize c2 x = x2 at *
      generalize c3 x = x3 at *
      generalize c4 x = x4 at *
      generalize c5 x = x5 at *
      generalize c0 y = y0 at *
      generalize c1 y = y1 at *
      generalize c2 y = y2 at *
      generalize c3 y = y3 at *
      generalize c4 y = y4 at *
      generalize c5 y = y5 at *
      rw [Nat.add_zero] at f0 f6
      go_wp2
      go_region
      all_goals go_wp2
      clear z0 z1 z2 z3 z4 z5 z6 z7 z8 z9 z10 z11 f0 f1 f2 f3 f4 f5 f6 f7 f8 f9 f10 f11 fz
      go_roundw
      case rel =>
        refine ⟨U1 ++ [x], U3, V1 ++ [y], V3, hide ?_, ?_, hide ?_⟩
        · have := hp.out
          have h2 := Hi.out
          refine ⟨by rw [this.1]; simp, by rw [this.2.1]; simp, by simp; omega, by simp; omega⟩
        · rw [List.length_append]; have := Hi.out; simp; omega
        · have h3 := S3.out
          rw [← Hi.out] at h3
          rw [show A ++ (V1 ++ [y]) ++ U3 ++ M ++ (U1 ++ [x]) ++ V3 ++ B = (A ++ V1) ++ y :: (U3 ++ M ++ U1) ++ x :: (V3 ++ B) by simp]
          exact h3
      case measure => simp [intOf]; omega
    · have hj : V1.length = m := by have := hp.out; omega
      have e2 : U2 = [] := by
        have := hp.out; have := HU.out; rw [hp.out.1] at this; simp at this
        exact List.eq_nil_of_length_eq_zero (by omega)
      have e3 : V2 = [] := by
        have := HV.out; rw [hp.out.2.1] at this; simp at this
        exact List.eq_nil_of_length_eq_zero (by omega)
      subst e2; subst e3
      have S1 := HS.out
      rw [← (show U = U1 by rw [hp.out.1]; simp), ← (show V = V1 by rw [hp.out.2.1]; simp)] at S1
      have S2 := hide (show St 31 6 (fun x => [c0 x, c1 x, c2 x, c3 x, c4 x, c5 x]) w0 g n cap base (A ++ V ++ M ++ U ++ B) wr by simpa using S1)
      clear S1 HS
      have Hj := hide hj
      have hj2 : ¬ ((V1.length : Int) < (m : Int)) := by omega
      go_wp2
      go_end0
      exact HR.out _ S2.out
end
end Go.Proofs.Ytihdpkeclmpehaa

namespace Go.Proofs.Ytihdpkeclmpehaa
open Go.RowKit Go.Sort

section
variable {α : Type} {c0 c1 c2 c3 c4 c5 : α → Value}
set_option maxHeartbeats 4000000 in
set_option maxRecDepth 100000 in
theorem rotate_c (h0 : ∀ x, (c0 x).oneCell' = true) (h1 : ∀ x, (c1 x).oneCell' = true) (hcell2 : ∀ x, (c2 x).oneCell' = true) (hcell3 : ∀ x, (c3 x).oneCell' = true) (hcell4 : ∀ x, (c4 x).oneCell' = true) (hcell5 : ∀ x, (c5 x).oneCell' = true) (g n cap base : Nat) (fv : Value) (A X Y B : List α) (a m b : Nat) (w0 w : World) (R) (hn : n ≤ 1000000)
    (S : St 31 6 (fun x => [c0 x, c1 x, c2 x, c3 x, c4 x, c5 x]) w0 g n cap base (A ++ X ++ Y ++ B) w) (ha : A.length = a) (hm : a + X.length = m) (hb : m + Y.length = b) (hx : 0 < X.length) (hy : 0 < Y.length)
    (hR : ∀ w', St 31 6 (fun x => [c0 x, c1 x, c2 x, c3 x, c4 x, c5 x]) w0 g n cap base (A ++ Y ++ X ++ B) w' → R (.returned (.tuple #[])) w') :
    Calls Try.prog 83 #[.slice (some ⟨g, 0, none⟩) n cap, .int .i64 a, .int .i64 m, .int .i64 b, fv] w R := by
  have HR := hide hR; have HS := hide S
  have hlen := S.len
  have hbn : b ≤ n := by simp at hlen; omega
  have q1 : (m : Int) - (a : Int) = (X.length : Int) := by omega
  have q2 : (b : Int) - (m : Int) = (Y.length : Int) := by omega
  have hxb : X.length ≤ n := by omega
  have hyb : Y.length ≤ n := by omega
  have Ha := hide ha; have Hm := hide hm; have Hb := hide hb
  clear hR S hlen ha hm hb
  go_enter Try.func83, Try.ntmps83
  go_wp2
  go_loopw [10, 11] (fun i j wr => ∃ A' U V B' : List α, i = .int .i64 (U.length : Int) ∧ j = .int .i64 (V.length : Int) ∧ Hid (0 < U.length ∧ 0 < V.length ∧ A'.length + U.length = m ∧ A' ++ V ++ U ++ B' = A ++ Y ++ X ++ B) ∧
      Hid (St 31 6 (fun x => [c0 x, c1 x, c2 x, c3 x, c4 x, c5 x]) w0 g n cap base (A' ++ U ++ V ++ B') wr)) (fun i j _ => (intOf i).toNat + (intOf j).toNat)
  case atStart => exact ⟨A, X, Y, B, rfl, rfl, hide ⟨hx, hy, by have := Ha.out; have := Hm.out; omega, rfl⟩, HS⟩
  case round =>
    clear HS q1 q2
    obtain ⟨A', U, V, B', rfl, rfl, hp, HS⟩ := hrel
    have hlen := HS.out.len
    have hp2 := hp.out
    have hL : A'.length + U.length + V.length + B'.length = n := by simp at hlen; omega
    obtain ⟨u, hu⟩ : ∃ u, u = U.length := ⟨_, rfl⟩
    obtain ⟨v, hv⟩ : ∃ v, v = V.length := ⟨_, rfl⟩
    rw [← hu] at hp2 hL ⊢
    rw [← hv] at hp2 hL ⊢
    obtain ⟨k1, k2, k3, k4⟩ := hp2
    have HL := hide hL
    have hub : u ≤ n := by omega
    have hvb : v ≤ n := by omega
    have hum : u ≤ m := by omega
    have hmb : m + v ≤ n := by omega
    have Hu := hide hu; have Hv := hide hv; have K3 := hide k3; have K4 := hide k4
    clear hu hv hlen hL k3 k4
    rcases Nat.lt_trichotomy u v with hlt | heq | hgt
    · have h3 : ((u : Int) != (v : Int)) = true := by simp; omega
      have h4 : ¬ (v : Int) < (u : Int) := by omega
      go_wp2_with (go_at_call 85; refine Stop.out ?_)
      rw [show (m : Int) - (u : Int) = (A'.length : Int) by have := K3.out; omega, show (m : Int) + (v : Int) - (u : Int) = ((m + v - u : Nat) : Int) by omega]
      have e : V = V.take (v - u) ++ V.drop (v - u) := (List.take_append_drop _ _).symm
      have l1 : (V.take (v - u)).length = v - u := by rw [List.length_take]; have := Hv.out; omega
      have l2 : (V.drop (v - u)).length = u := by rw [List.length_drop]; have := Hv.out; omega
      refine Stop.go (swapRange_c h0 h1 hcell2 hcell3 hcell4 hcell5 g n cap base _ A' U (V.take (v - u)) (V.drop (v - u)) B' _ _ u w0 _ _ hn ?_ rfl ?_ Hu.out.symm l2 ?_)
      · have := HS.out; rw [e] at this; simpa using this
      · have := K3.out; have := Hu.out; simp only [List.length_append, l1]; omega
      intro w' S'
      have HS' := hide S'
      have Hl := hide (And.intro l1 l2)
      have He := hide e
      clear S' l1 l2 e
      have h5 : (v : Int) - (u : Int) = ((v - u : Nat) : Int) := by omega
      have h6 : 0 < v - u := by omega
      go_wp2
      go_roundw
      case rel =>
        refine ⟨A', V.drop (v - u), V.take (v - u), U ++ B', by rw [Hl.out.2], by rw [Hl.out.1], hide ⟨by rw [Hl.out.2]; exact k1, by rw [Hl.out.1]; exact h6, by rw [Hl.out.2]; exact K3.out, ?_⟩, hide ?_⟩
        · rw [← K4.out]; conv => rhs; rw [He.out]
          simp
        · simpa using HS'.out
      case measure => simp [intOf]; omega
    · subst heq
      have h3 : ((u : Int) != (u : Int)) = false := by simp
      go_wp2_with (go_at_call 85; refine Stop.out ?_)
      rw [show (m : Int) - (u : Int) = (A'.length : Int) by have := K3.out; omega]
      refine Stop.go (swapRange_c h0 h1 hcell2 hcell3 hcell4 hcell5 g n cap base _ A' U [] V B' _ _ u w0 _ _ hn ?_ rfl ?_ Hu.out.symm Hv.out.symm ?_)
      · simpa using HS.out
      · have := K3.out; have := Hu.out; simp; omega
      intro w' S'
      have HS' := hide (show St 31 6 (fun x => [c0 x, c1 x, c2 x, c3 x, c4 x, c5 x]) w0 g n cap base (A ++ Y ++ X ++ B) w' by rw [← K4.out]; simpa using S')
      clear S'
      go_wp2
      go_end0
      exact HR.out _ HS'.out
    · have h3 : ((u : Int) != (v : Int)) = true := by simp; omega
      have h4 : (v : Int) < (u : Int) := by omega
      go_wp2_with (go_at_call 85; refine Stop.out ?_)
      rw [show (m : Int) - (u : Int) = (A'.length : Int) by have := K3.out; omega]
      have e : U = U.take v ++ U.drop v := (List.take_append_drop _ _).symm
      have l1 : (U.take v).length = v := by rw [List.length_take]; have := Hu.out; omega
      have l2 : (U.drop v).length = u - v := by rw [List.length_drop]; have := Hu.out; omega
      refine Stop.go (swapRange_c h0 h1 hcell2 hcell3 hcell4 hcell5 g n cap base _ A' (U.take v) (U.drop v) V B' _ _ v w0 _ _ hn ?_ rfl ?_ l1 Hv.out.symm ?_)
      · have := HS.out; rw [e] at this; simpa using this
      · have := K3.out; have := Hu.out; simp; omega
      intro w' S'
      have HS' := hide S'
      have Hl := hide (And.intro l1 l2)
      have He := hide e
      clear S' l1 l2 e
      have h5 : (u : Int) - (v : Int) = ((u - v : Nat) : Int) := by omega
      have h6 : 0 < u - v := by omega
      go_wp2
      go_roundw
      case rel =>
        refine ⟨A' ++ V, U.drop v, U.take v, B', by rw [Hl.out.2], by rw [Hl.out.1], hide ⟨by rw [Hl.out.2]; exact h6, by rw [Hl.out.1]; exact k2, by rw [Hl.out.2, List.length_append]; have := K3.out; have := Hv.out; omega, ?_⟩, hide ?_⟩
        · rw [← K4.out]; conv => rhs; rw [He.out]
          simp
        · simpa using HS'.out
      case measure => simp [intOf]; omega
end
end Go.Proofs.Ytihdpkeclmpehaa

namespace Go.Proofs.Ytihdpkeclmpehaa
open Go.RowKit Go.Sort

section
variable {α : Type} {c0 c1 c2 c3 c4 c5 : α → Value} {key : α → Int} {tag : α → Nat}

/-- A comparison of two structs: what it answers, and that it lays new blocks at most. -/
structure CmpC (f : Nat) (caps : Array Value) (c0 c1 c2 c3 c4 c5 : α → Value) (cf : α → α → Int) (w0 : World) (g : Nat) : Prop where
  enters : ∀ args w, (callFunc f args).run Try.prog w = .ok (.enter f args) w
  calls : ∀ W, w0.grownBy W (some g) → ∀ x y, Calls Try.prog f (#[.agg #[c0 x, c1 x, c2 x, c3 x, c4 x, c5 x], .agg #[c0 y, c1 y, c2 y, c3 y, c4 y, c5 y]] ++ caps) W fun e w' => e = .returned (.int .i64 (cf x y)) ∧ ∃ q os, w' = grow (W.drewN q) os

theorem mixed : Try.prog.follows .mixedOrders = true := by kernel_rfl

set_option maxHeartbeats 4000000 in
set_option maxRecDepth 100000 in
theorem insertion_c (h0 : ∀ x, (c0 x).oneCell' = true) (h1 : ∀ x, (c1 x).oneCell' = true) (hcell2 : ∀ x, (c2 x).oneCell' = true) (hcell3 : ∀ x, (c3 x).oneCell' = true) (hcell4 : ∀ x, (c4 x).oneCell' = true) (hcell5 : ∀ x, (c5 x).oneCell' = true) (f : Nat) (caps : Array Value) (cf : α → α → Int) (hcf : ∀ x y, cf x y < 0 ↔ key x < key y) (g n cap base : Nat) (A X B : List α) (a b : Nat) (w0 w : World) (R) (hn : n ≤ 1000000)
    (hC : CmpC f caps c0 c1 c2 c3 c4 c5 cf w0 g) (S : St 31 6 (fun x => [c0 x, c1 x, c2 x, c3 x, c4 x, c5 x]) w0 g n cap base (A ++ X ++ B) w) (ha : A.length = a) (hb : a + X.length = b) (hX : X.Pairwise (fun x y => tag x < tag y))
    (hR : ∀ w' X', X'.Perm X → Srt key tag X' → St 31 6 (fun x => [c0 x, c1 x, c2 x, c3 x, c4 x, c5 x]) w0 g n cap base (A ++ X' ++ B) w' → R (.returned (.tuple #[])) w') :
    Calls Try.prog 79 #[.slice (some ⟨g, 0, none⟩) n cap, .int .i64 a, .int .i64 b, .func (.func f) #[] caps] w R := by
  have mx := mixed
  have HR := hide hR; have HS := hide S
  have hlen := S.len
  have hbn : b ≤ n := by simp at hlen; omega
  have hab0 : a ≤ b := by omega
  have Ha := hide ha; have Hb := hide hb; have HX := hide hX; have HC := hide hC; have Hcf := hide hcf
  cases X with
  | nil =>
    have hab : ¬ (a : Int) + 1 < (b : Int) := by have := Hb.out; simp at this; omega
    clear hR S hlen ha hb hX hC hcf
    go_enter Try.func79, Try.ntmps79
    go_wp2
    go_loop [8] (fun i => i = .int .i64 ((a : Int) + 1)) (fun _ => 0)
    case atStart => rfl
    case round =>
      subst hrel
      go_wp2
      go_end0
      exact HR.out _ [] (List.Perm.refl _) List.Pairwise.nil HS.out
  | cons x0 X0 =>
    clear hR S hlen ha hb hX hC hcf
    go_enter Try.func79, Try.ntmps79
    go_wp2
    go_loopw [8] (fun i wr => ∃ Y Z : List α, i = .int .i64 ((a : Int) + (Y.length : Int)) ∧ Hid (∃ X1, x0 :: X0 = X1 ++ Z ∧ Y.Perm X1 ∧ Srt key tag Y ∧ 0 < Y.length) ∧
        Hid (St 31 6 (fun x => [c0 x, c1 x, c2 x, c3 x, c4 x, c5 x]) w0 g n cap base (A ++ Y ++ Z ++ B) wr)) (fun i _ => n - (intOf i).toNat)
    case atStart => exact ⟨[x0], X0, by simp, hide ⟨[x0], rfl, List.Perm.refl _, by simp [Srt], by simp⟩, hide (by simpa using HS.out)⟩
    case round =>
      clear HS
      obtain ⟨Y, Z, rfl, hp, HS⟩ := hrel
      have hlen := HS.out.len
      obtain ⟨X1, e1, pm, sy, y0⟩ := hp.out
      have hyz : Y.length + Z.length = (x0 :: X0).length := by rw [e1, List.length_append, pm.length_eq]
      have hYb : a + Y.length + Z.length = b := by have := Hb.out; omega
      cases Z with
      | nil =>
        have hnl : ¬ (a : Int) + (Y.length : Int) < (b : Int) := by simp at hYb; omega
        have hYn : a + Y.length ≤ 1000000 := by omega
        have HS2 := hide (show St 31 6 (fun x => [c0 x, c1 x, c2 x, c3 x, c4 x, c5 x]) w0 g n cap base (A ++ Y ++ B) wr by simpa using HS.out)
        have Hpm := hide (show Y.Perm (x0 :: X0) by rw [e1]; simpa using pm)
        have Hsy := hide sy
        clear hlen e1 pm sy hyz hYb HS hp
        go_wp2
        go_end0
        exact HR.out _ Y Hpm.out Hsy.out HS2.out
      | cons x Z =>
        have hYb2 : a + Y.length < b := by simp at hYb; omega
        have Htag := hide (show ∀ y ∈ Y, tag y < tag x by
          intro y hy
          have h1 := HX.out
          rw [e1, List.pairwise_append] at h1
          exact h1.2.2 y (pm.mem_iff.1 hy) x (by simp))
        obtain ⟨i, hi⟩ : ∃ i, i = a + Y.length := ⟨_, rfl⟩
        have Hi := hide hi
        have hiz : (a : Int) + (Y.length : Int) = (i : Int) := by omega
        have Hy0 := hide y0
        have Hyb := hide hYb
        have Hsy := hide sy
        rw [hiz]
        rw [← hi] at hYb2
        have Hiz := hide hiz
        clear hlen e1 pm sy hyz hYb y0 hi hiz
        go_wp2
        go_loopw [9] (fun j wr => ∃ P S : List α, j = .int .i64 ((a : Int) + (P.length : Int)) ∧ Hid (Y = P ++ S ∧ (∀ s ∈ S, LtT key tag x s)) ∧
            Hid (St 31 6 (fun x => [c0 x, c1 x, c2 x, c3 x, c4 x, c5 x]) w0 g n cap base (A ++ P ++ x :: (S ++ Z ++ B)) wr)) (fun j _ => (intOf j).toNat)
        case atStart => exact ⟨Y, [], by rw [Hiz.out], hide ⟨by simp, by simp⟩, hide (by simpa using HS.out)⟩
        case round =>
          clear HS
          obtain ⟨P, S, rfl, hq, HS⟩ := hrel
          have hPY : P.length ≤ Y.length := by rw [hq.out.1]; simp
          have hPi : a + P.length ≤ i := by have := Hi.out; omega
          have Hend : Hid (∀ w', (∀ p ∈ P, LtT key tag p x) → St 31 6 (fun x => [c0 x, c1 x, c2 x, c3 x, c4 x, c5 x]) w0 g n cap base (A ++ P ++ x :: (S ++ Z ++ B)) w' →
              ∃ Y' Z', (i : Int) + 1 = (a : Int) + (Y'.length : Int) ∧ Hid (∃ X1, x0 :: X0 = X1 ++ Z' ∧ Y'.Perm X1 ∧ Srt key tag Y' ∧ 0 < Y'.length) ∧ Hid (St 31 6 (fun x => [c0 x, c1 x, c2 x, c3 x, c4 x, c5 x]) w0 g n cap base (A ++ Y' ++ Z' ++ B) w')) := fun w' hP hS => by
            obtain ⟨X1, e1, pm, sy, y0⟩ := hp.out
            refine ⟨P ++ x :: S, Z, ?_, hide ⟨X1 ++ [x], by rw [e1]; simp, ?_, ?_, by simp; omega⟩, hide (by simpa using hS)⟩
            · have := Hi.out; rw [hq.out.1] at this; simp at this ⊢; omega
            · rw [hq.out.1] at pm
              exact (List.perm_middle.trans ((pm.cons x).trans (List.perm_append_singleton x X1).symm))
            · rw [hq.out.1] at sy
              exact sy.insert hP hq.out.2
          by_cases hP0 : P = []
          · subst hP0
            have hz : (a : Int) + (([] : List α).length : Int) = (a : Int) := by simp
            rw [hz]
            have hjaz : decide ((a : Int) > (a : Int)) = false := by simp
            have hS := hide (show St 31 6 (fun x => [c0 x, c1 x, c2 x, c3 x, c4 x, c5 x]) w0 g n cap base (A ++ [] ++ x :: (S ++ Z ++ B)) (wr.drewN 1) from HS.out.drew)
            clear hz
            go_wp2_with fail
            go_quiet (fail)
            go_wp2
            go_roundw
            case rel =>
              obtain ⟨Y', Z', e1, e2, e3⟩ := Hend.out _ (by simp) (HS.out.drewN _)
              exact ⟨Y', Z', by rw [e1], e2, e3⟩
            case measure => simp [intOf]; omega
          · obtain ⟨P', p, rfl⟩ : ∃ P' p, P = P' ++ [p] := ⟨P.dropLast, P.getLast hP0, (List.dropLast_concat_getLast hP0).symm⟩
            obtain ⟨jp, hjp⟩ : ∃ jp, jp = a + P'.length := ⟨_, rfl⟩
            have hjz : (a : Int) + ((P' ++ [p]).length : Int) = (jp : Int) + 1 := by simp; omega
            rw [hjz]
            have hle : jp + 1 ≤ i := by simp at hPi; omega
            have hk : ∀ x : α, [c0 x, c1 x, c2 x, c3 x, c4 x, c5 x].length = 6 := fun _ => rfl
            have S1 := HS.out
            rw [show A ++ (P' ++ [p]) ++ x :: (S ++ Z ++ B) = (A ++ P') ++ p :: [] ++ x :: (S ++ Z ++ B) by simp] at S1
            obtain ⟨p1, p2⟩ := at_parts (A ++ P') [] (S ++ Z ++ B) p x
            have hs := swap_parts (A ++ P') [] (S ++ Z ++ B) p x
            have hl1 : (A ++ P').length = jp := by have := Ha.out; simp; omega
            simp only [List.length_nil, Nat.add_zero] at p2 hs
            rw [hl1] at p1 p2 hs
            have f0 := fun q os => S1.cell_g hk p1 0 rfl q os
            have f1 := fun q os => S1.cell_g hk p1 1 rfl q os
            have f2 := fun q os => S1.cell_g hk p1 2 rfl q os
            have f3 := fun q os => S1.cell_g hk p1 3 rfl q os
            have f4 := fun q os => S1.cell_g hk p1 4 rfl q os
            have f5 := fun q os => S1.cell_g hk p1 5 rfl q os
            have f6 := fun q os => S1.cell_g hk p2 0 rfl q os
            have f7 := fun q os => S1.cell_g hk p2 1 rfl q os
            have f8 := fun q os => S1.cell_g hk p2 2 rfl q os
            have f9 := fun q os => S1.cell_g hk p2 3 rfl q os
            have f10 := fun q os => S1.cell_g hk p2 4 rfl q os
            have f11 := fun q os => S1.cell_g hk p2 5 rfl q os
            simp only [Nat.add_zero] at f0 f6
            have hcg : ∀ q os, Calls Try.prog f (#[.agg #[c0 x, c1 x, c2 x, c3 x, c4 x, c5 x], .agg #[c0 p, c1 p, c2 p, c3 p, c4 p, c5 p]] ++ caps) (grow (wr.drewN q) os) fun e w' => e = .returned (.int .i64 (cf x p)) ∧ ∃ q' os', w' = grow ((grow (wr.drewN q) os).drewN q') os' :=
              fun q os => HC.out.calls _ (grownBy_grow S1.grown q os) x p
            have he := HC.out.enters
            have hwp : IntKind.i64.wrap (jp : Int) = (jp : Int) := IntWalk.i64_in _ (by omega)
            have hwq : IntKind.i64.wrap ((jp : Int) + 1 - 1) = (jp : Int) := by rw [show (jp : Int) + 1 - 1 = (jp : Int) by omega]; exact IntWalk.i64_in _ (by omega)
            have jz : (jp : Int) + 1 < (n : Int) := by omega
            have jz1 : (jp : Int) < (n : Int) := by omega
            have hjaz : (a : Int) < (jp : Int) + 1 := by omega
            have p0 : (0 : Int) ≤ (jp : Int) + 1 := by omega
            have e0 : ((jp : Int) + 1).toNat = jp + 1 := by omega
            have S1' := hide S1
            have Hs := hide hs
            clear S1 hs p1 p2 HS hl1 hjz
            have Hjp := hide hjp
            clear hjp
            by_cases hlv : cf x p < 0
            · have Hlt := hide (LtT.of_key (tag := tag) ((Hcf.out x p).1 hlv))
              go_wp2_with fail
              go_quiet_grown (first | (go_at_fn f; refine Calls.grown_of (hcg _ _)))
              go_wp2_with fail
              have S2 := S1'.out.grow nq osq
              clear f0 f1 f2 f3 f4 f5 f6 f7 f8 f9 f10 f11 hcg
              generalize grow (wr.drewN nq) osq = w2 at S2 ⊢
              obtain ⟨p1, p2⟩ := at_parts (A ++ P') [] (S ++ Z ++ B) p x
              have hl1 : (A ++ P').length = jp := by have := Ha.out; have := Hjp.out; simp; omega
              simp only [List.length_nil, Nat.add_zero] at p2
              rw [hl1] at p1 p2
              have f0 := S2.cell hk p1 0 rfl
              have f1 := S2.cell hk p1 1 rfl
              have f2 := S2.cell hk p1 2 rfl
              have f3 := S2.cell hk p1 3 rfl
              have f4 := S2.cell hk p1 4 rfl
              have f5 := S2.cell hk p1 5 rfl
              have f6 := S2.cell hk p2 0 rfl
              have f7 := S2.cell hk p2 1 rfl
              have f8 := S2.cell hk p2 2 rfl
              have f9 := S2.cell hk p2 3 rfl
              have f10 := S2.cell hk p2 4 rfl
              have f11 := S2.cell hk p2 5 rfl
              simp only [Nat.add_zero] at f0 f6
              have fz := fun j => S2.own.frozenAt j
              have hs := Hs.out
              rw [List.set_comm _ _ (by omega)] at hs
              have S3 := ((S2.put hk (jp + 1) p (by omega)).put hk jp x (by omega)).drew
              rw [hs] at S3
              have HS3 := hide S3
              have z0 := st_run (P := Try.prog) (h0 x); have z1 := st_run (P := Try.prog) (h1 x); have z2 := st_run (P := Try.prog) (hcell2 x); have z3 := st_run (P := Try.prog) (hcell3 x); have z4 := st_run (P := Try.prog) (hcell4 x); have z5 := st_run (P := Try.prog) (hcell5 x); have z6 := st_run (P := Try.prog) (h0 p); have z7 := st_run (P := Try.prog) (h1 p); have z8 := st_run (P := Try.prog) (hcell2 p); have z9 := st_run (P := Try.prog) (hcell3 p); have z10 := st_run (P := Try.prog) (hcell4 p); have z11 := st_run (P := Try.prog) (hcell5 p)
              have Hh0 := hide h0
              have Hh1 := hide h1
              have Hh2 := hide hcell2
              have Hh3 := hide hcell3
              have Hh4 := hide hcell4
              have Hh5 := hide hcell5
              clear hs S2 S3 p1 p2 hl1 hlv he h0 h1 hcell2 hcell3 hcell4 hcell5
              generalize c0 x = x0' at *
              generalize c1 x = x1' at *
              generalize c2 x = x2' at *
              generalize c3 x = x3' at *
              generalize c4 x = x4' at *
              generalize c5 x = x5' at *
              generalize c0 p = p0' at *
              generalize c1 p = p1' at *
              generalize c2 p = p2' at *
              generalize c3 p = p3' at *
              generalize c4 p = p4' at *
              generalize c5 p = p5' at *
              go_region
              all_goals go_wp2
              clear z0 z1 z2 z3 z4 z5 z6 z7 z8 z9 z10 z11 f0 f1 f2 f3 f4 f5 f6 f7 f8 f9 f10 f11 fz
              go_roundw
              case rel =>
                refine ⟨P', p :: S, ?_, hide ⟨?_, ?_⟩, hide ?_⟩
                · have := Hjp.out; apply congrArg (Value.int .i64); omega
                · rw [hq.out.1]; simp
                · intro s hs
                  rcases List.mem_cons.1 hs with rfl | hs
                  · exact Hlt.out
                  · exact hq.out.2 s hs
                · rw [show A ++ P' ++ x :: (p :: S ++ Z ++ B) = A ++ P' ++ x :: [] ++ p :: (S ++ Z ++ B) by simp]
                  exact HS3.out
              case measure => simp [intOf]; try omega
            · have Hlt := hide (LtT.of_tag (key := key) (tag := tag) (x := p) (y := x) (fun h => hlv ((Hcf.out x p).2 h)) (Htag.out p (by rw [hq.out.1]; simp)))
              go_wp2_with fail
              go_quiet_grown (first | (go_at_fn f; refine Calls.grown_of (hcg _ _)))
              go_wp2_with fail
              have S2 := S1'.out.grow nq osq
              clear f0 f1 f2 f3 f4 f5 f6 f7 f8 f9 f10 f11 hcg
              generalize grow (wr.drewN nq) osq = w2 at S2 ⊢
              go_roundw
              case rel =>
                have sy := Hsy.out
                rw [hq.out.1] at sy
                obtain ⟨Y', Z', e1, e2, e3⟩ := Hend.out w2 (sy.below_last Hlt.out) (by simpa using S2)
                exact ⟨Y', Z', by rw [e1], e2, e3⟩
              case measure => simp [intOf]; omega
end
end Go.Proofs.Ytihdpkeclmpehaa
