/- Survey: the rules of check, for the five kinds. -/
import Derived.Test.YtgfhcmidnbahjaaGreatDoorJ7
set_option linter.unusedVariables false
set_option linter.unusedSimpArgs false
namespace Go.Proofs.YtgfhcmidnbahjaaGreatDoor
open Go.RowKit
structure CkI (w : World) (N : Net) (gn g : Nat) (T TG : TypeId) (tv nv gv f1 f2 f3 : Value) (W : World) : Prop where
 below : Below w.heap.size w W
 kw : KwAt W
 net : Blk W gn N.cells 29
 data : NetAt W N
 b7 : Blk W g #[tv] T
 b8 : Blk W (g + 1) #[nv] 145
 b9 : Blk W (g + 1 + 1) #[gv] TG
 b11 : Blk W (g + 1 + 1 + 1) #[f1, f2, f3] 306
theorem CkI.next {w : World} {N : Net} {gn g : Nat} {T TG : TypeId} {tv nv gv f1 f2 f3 : Value} {W W' : World} (h : CkI w N gn g T TG tv nv gv f1 f2 f3 W) (hb : Below W.heap.size W W') : CkI w N gn g T TG tv nv gv f1 f2 f3 W' :=
 ⟨bseq h.below hb, h.kw.next hb, h.net.next hb, h.data.next hb, h.b7.next hb, h.b8.next hb, h.b9.next hb, h.b11.next hb⟩
def dupB (nm : Nat → ByteArray) (i : Nat) : Bool := (List.range i).any fun j => decide (nm j = nm i)
theorem str_eq {x y : ByteArray} (h : x = y) : (x.toList == y.toList) = true := by rw [h]; simp
theorem str_ne {x y : ByteArray} (h : ¬ x = y) : (x.toList == y.toList) = false := by
 rw [ByteArray.toList_eq, ByteArray.toList_eq, beq_eq_false_iff_ne]
 intro e
 apply h
 obtain ⟨a⟩ := x; obtain ⟨b⟩ := y
 congr 1
 exact Array.toList_inj.1 e
abbrev CkCal (w : World) (N : Net) (gn g : Nat) (W : World) : Prop := CkI w N gn g 22 211 (.slice N.cp N.cals.length N.cc) (.func (.func 225) #[] #[.pointer (some ⟨gn, 0, none⟩)]) (.func (.func 227) #[] #[]) (.func (.func 282) #[] #[.pointer (some ⟨g + 1, 0, none⟩)]) (.func (.func 284) #[] #[.pointer (some ⟨g + 1, 0, none⟩)]) (.func (.func 285) #[] #[.pointer (some ⟨g + 1 + 1, 0, none⟩), .pointer (some ⟨g, 0, none⟩)]) W
set_option maxRecDepth 100000 in
set_option maxHeartbeats 2000000 in
theorem r1Cal_c (w : World) (N : Net) (gn g i : Nat) (W : World) (R) (hI : Hid (CkCal w N gn g W)) (hi : i < N.cals.length) (hR : ∀ W', Below W.heap.size W W' → R (.returned (.int .i64 (if nameB (calNm N i) then 0 else 1))) W') : Calls Tryz.prog 282 #[.int .i64 (i : Int), .pointer (some ⟨g + 1, 0, none⟩)] W R := by
 have HR := hide hR
 have x8 : W.cell? ⟨g + 1, 0, none⟩ = some (.func (.func 225) #[] #[.pointer (some ⟨gn, 0, none⟩)]) := hI.out.b8.cell (k := 0) rfl
 have Hi := hide hi
 clear hR hi
 obtain ⟨s, hs⟩ : ∃ s, calNm N i = s := ⟨_, rfl⟩
 have Hs := hide hs
 have Hsz : Hid (s.size ≤ maxLen) := hide (by rw [← hs]; exact szCal hI.out.data Hi.out)
 rw [hs] at HR
 clear hs
 cases hb : nameB s
 ·rw [hb] at HR
  go_enter Tryz.func282, Tryz.ntmps282
  go_wp2_with (go_at_call 225; refine Stop.out ?_)
  refine Stop.go (nmCal_c N gn i _ _ hI.out.net hI.out.data Hi.out ?_)
  rw [Hs.out]
  go_wp2_with (go_at_call 283; refine Stop.out ?_)
  refine Stop.go (isName_c s _ _ hI.out.kw Hsz.out ?_)
  rw [hb]
  intro W' hbw
  have HF := hide (HR.out _ hbw)
  clear hbw x8
  go_wp2
  exact HF.out
 ·rw [hb] at HR
  go_enter Tryz.func282, Tryz.ntmps282
  go_wp2_with (go_at_call 225; refine Stop.out ?_)
  refine Stop.go (nmCal_c N gn i _ _ hI.out.net hI.out.data Hi.out ?_)
  rw [Hs.out]
  go_wp2_with (go_at_call 283; refine Stop.out ?_)
  refine Stop.go (isName_c s _ _ hI.out.kw Hsz.out ?_)
  rw [hb]
  intro W' hbw
  have HF := hide (HR.out _ hbw)
  clear hbw x8
  go_wp2
  exact HF.out
set_option maxRecDepth 100000 in
set_option maxHeartbeats 2000000 in
theorem r2Cal_c (w : World) (N : Net) (gn g i : Nat) (W : World) (R) (hI : Hid (CkCal w N gn g W)) (hi : i < N.cals.length) (hR : ∀ W', Below W.heap.size W W' → R (.returned (.int .i64 (if dupB (calNm N) i then 4 else 0))) W') : Calls Tryz.prog 284 #[.int .i64 (i : Int), .pointer (some ⟨g + 1, 0, none⟩)] W R := by
 have HR := hide hR
 have Hi := hide hi
 have hlen := hI.out.data.lens
 have hiI : i ≤ 9223372036854775806 := by omega
 clear hR hi hlen
 go_enter Tryz.func284, Tryz.ntmps284
 go_wp2
 go_loopw [6] (fun si wr => ∃ j : Nat, j ≤ i ∧ si = .int .i64 j ∧ Hid (∀ y, y < j → ¬ calNm N y = calNm N i) ∧ Hid (CkCal w N gn g wr) ∧ Hid (Below W.heap.size W wr)) (fun si _ => i - (intOf si).toNat)
 case atStart => exact ⟨0, Nat.zero_le _, rfl, hide (fun y h => by omega), hI, hide (Below.refl _ _)⟩
 case round =>
  obtain ⟨j, hj, rfl, HN, HJ, HB⟩ := hrel
  by_cases hlt : j < i
  ·have x8 : wr.cell? ⟨g + 1, 0, none⟩ = some (.func (.func 225) #[] #[.pointer (some ⟨gn, 0, none⟩)]) := HJ.out.b8.cell (k := 0) rfl
   have Hjl : Hid (j < N.cals.length) := hide (by have := Hi.out; omega)
   have HJd : Hid (∀ n, CkCal w N gn g (wr.drewN n)) := hide (fun n => HJ.out.next (below_drewN' (Below.refl _ _) _))
   have HBd : Hid (∀ n, Below W.heap.size W (wr.drewN n)) := hide (fun n => below_drewN' HB.out n)
   have HQ1 : Hid (∀ n, Calls Tryz.prog 225 #[.int .i64 (j : Int), .pointer (some ⟨gn, 0, none⟩)] (wr.drewN n) fun e w'' => e = .returned (.string (calNm N j)) ∧ ∃ m, w'' = wr.drewN m) := hide (fun n => quiet_dr (nmCal_q N gn j _ (HJd.out n).net (HJd.out n).data Hjl.out))
   have HQ2 : Hid (∀ n, Calls Tryz.prog 225 #[.int .i64 (i : Int), .pointer (some ⟨gn, 0, none⟩)] (wr.drewN n) fun e w'' => e = .returned (.string (calNm N i)) ∧ ∃ m, w'' = wr.drewN m) := hide (fun n => quiet_dr (nmCal_q N gn i _ (HJd.out n).net (HJd.out n).data Hi.out))
   by_cases he : calNm N j = calNm N i
   ·have hd : dupB (calNm N) i = true := List.any_eq_true.2 ⟨j, List.mem_range.2 hlt, by simp [he]⟩
    have HF : Hid (∀ n, R (.returned (.int .i64 4)) (wr.drewN n)) := hide (fun n => by have := HR.out _ (HBd.out n); rw [hd] at this; exact this)
    have q0 := str_eq he
    clear he hd HR HN
    generalize calNm N j = s1 at *
    generalize calNm N i = s2 at *
    go_wp2
    go_quiet ((first | (go_at_call 225; with_reducible exact HQ1.out _) | (go_at_call 225; with_reducible exact HQ2.out _)))
    go_wp2
    exact HF.out _
   ·have HN' : Hid (∀ y, y < j + 1 → ¬ calNm N y = calNm N i) := hide (fun y hy => by
     by_cases hyj : y < j
     ·exact HN.out y hyj
     ·obtain rfl : y = j := by omega
      exact he)
    have q0 := str_ne he
    clear he
    obtain ⟨s1, hs1⟩ : ∃ s1, calNm N j = s1 := ⟨_, rfl⟩
    obtain ⟨s2, hs2⟩ : ∃ s2, calNm N i = s2 := ⟨_, rfl⟩
    rw [hs1] at HQ1 q0
    rw [hs2] at HQ2 q0
    clear hs1 hs2
    go_wp2
    go_quiet ((first | (go_at_call 225; with_reducible exact HQ1.out _) | (go_at_call 225; with_reducible exact HQ2.out _)))
    go_wp2
    go_roundw
    case rel => exact ⟨j + 1, by omega, by go_num, HN', hide (HJd.out _), hide (HBd.out _)⟩
    case measure => simp [intOf]; omega
  ·have hjI : ¬ (j : Int) < (i : Int) := by omega
   have hd : dupB (calNm N) i = false := by
    rw [dupB, List.any_eq_false]
    intro y hy
    rw [List.mem_range] at hy
    simpa using HN.out y (by omega)
   have HF := HR.out _ HB.out
   rw [hd] at HF
   have HF := hide HF
   clear hd hj hlt
   go_wp2
   exact HF.out
set_option maxRecDepth 100000 in
set_option maxHeartbeats 2000000 in
theorem r3Cal_c (w : World) (N : Net) (gn g i : Nat) (W : World) (R) (hI : Hid (CkCal w N gn g W)) (hi : i < N.cals.length) (hR : ∀ W', Below W.heap.size W W' → R (.returned (.int .i64 (if calGd N i then 0 else 1))) W') : Calls Tryz.prog 285 #[.int .i64 (i : Int), .pointer (some ⟨g + 1 + 1, 0, none⟩), .pointer (some ⟨g, 0, none⟩)] W R := by
 have Hi := hide hi
 have hlen := hI.out.data.lens
 obtain ⟨b, o, x, hp, hx, ha, y0, y1, y2⟩ := hI.out.data.cal_ Hi.out
 rw [show calGd N i = calOk x from by unfold calGd; rw [getD_some hx]] at hR
 have HR := hide hR
 have x9 : W.cell? ⟨g + 1 + 1, 0, none⟩ = some (.func (.func 227) #[] #[]) := hI.out.b9.cell (k := 0) rfl
 have x7 : W.cell? ⟨g, 0, none⟩ = some (.slice N.cp N.cals.length N.cc) := hI.out.b7.cell (k := 0) rfl
 rw [hp] at x7
 have HA := hide ha
 obtain ⟨n, hn⟩ : ∃ n, N.cals.length = n := ⟨_, rfl⟩
 rw [hn] at x7 hi hlen
 have q1 : (0 : Int) ≤ (i : Int) := by omega
 have q2 : (i : Int) < (n : Int) := by omega
 have q3 : n ≤ 9223372036854775807 := by omega
 clear hR hx hp hn hlen ha
 cases hg : calOk x
 ·rw [hg] at HR
  go_enter Tryz.func285, Tryz.ntmps285
  go_wp2
  go_still_tail 5, (by kernel_rfl)
  change wpList _ _ _ _ _ W.drew
  have HB := hide ((Below.refl W.heap.size W).drew)
  have hI := hide (hI.out.next HB.out)
  generalize W.drew = w2 at *
  go_wp2_with (go_at_call 227; refine Stop.out ?_)
  refine Stop.go (valid_c x _ _ (HA.out.keep (Keeps.of_below HB.out)) ?_)
  rw [hg]
  intro W' hbw
  have HF := hide (HR.out _ (bseq HB.out hbw))
  clear hbw x9 x7 y0 y1 y2
  go_wp2
  exact HF.out
 ·rw [hg] at HR
  go_enter Tryz.func285, Tryz.ntmps285
  go_wp2
  go_still_tail 5, (by kernel_rfl)
  change wpList _ _ _ _ _ W.drew
  have HB := hide ((Below.refl W.heap.size W).drew)
  have hI := hide (hI.out.next HB.out)
  generalize W.drew = w2 at *
  go_wp2_with (go_at_call 227; refine Stop.out ?_)
  refine Stop.go (valid_c x _ _ (HA.out.keep (Keeps.of_below HB.out)) ?_)
  rw [hg]
  intro W' hbw
  have HF := hide (HR.out _ (bseq HB.out hbw))
  clear hbw x9 x7 y0 y1 y2
  go_wp2
  exact HF.out
abbrev CkOpr (w : World) (N : Net) (gn g : Nat) (W : World) : Prop := CkI w N gn g 24 267 (.slice N.op N.oprs.length N.oc) (.func (.func 228) #[] #[.pointer (some ⟨gn, 0, none⟩)]) (.func (.func 230) #[] #[]) (.func (.func 286) #[] #[.pointer (some ⟨g + 1, 0, none⟩)]) (.func (.func 287) #[] #[.pointer (some ⟨g + 1, 0, none⟩)]) (.func (.func 288) #[] #[.pointer (some ⟨g + 1 + 1, 0, none⟩), .pointer (some ⟨g, 0, none⟩)]) W
set_option maxRecDepth 100000 in
set_option maxHeartbeats 2000000 in
theorem r1Opr_c (w : World) (N : Net) (gn g i : Nat) (W : World) (R) (hI : Hid (CkOpr w N gn g W)) (hi : i < N.oprs.length) (hR : ∀ W', Below W.heap.size W W' → R (.returned (.int .i64 (if nameB (oprNm N i) then 0 else 1))) W') : Calls Tryz.prog 286 #[.int .i64 (i : Int), .pointer (some ⟨g + 1, 0, none⟩)] W R := by
 have HR := hide hR
 have x8 : W.cell? ⟨g + 1, 0, none⟩ = some (.func (.func 228) #[] #[.pointer (some ⟨gn, 0, none⟩)]) := hI.out.b8.cell (k := 0) rfl
 have Hi := hide hi
 clear hR hi
 obtain ⟨s, hs⟩ : ∃ s, oprNm N i = s := ⟨_, rfl⟩
 have Hs := hide hs
 have Hsz : Hid (s.size ≤ maxLen) := hide (by rw [← hs]; exact szOpr hI.out.data Hi.out)
 rw [hs] at HR
 clear hs
 cases hb : nameB s
 ·rw [hb] at HR
  go_enter Tryz.func286, Tryz.ntmps286
  go_wp2_with (go_at_call 228; refine Stop.out ?_)
  refine Stop.go (nmOpr_c N gn i _ _ hI.out.net hI.out.data Hi.out ?_)
  rw [Hs.out]
  go_wp2_with (go_at_call 283; refine Stop.out ?_)
  refine Stop.go (isName_c s _ _ hI.out.kw Hsz.out ?_)
  rw [hb]
  intro W' hbw
  have HF := hide (HR.out _ hbw)
  clear hbw x8
  go_wp2
  exact HF.out
 ·rw [hb] at HR
  go_enter Tryz.func286, Tryz.ntmps286
  go_wp2_with (go_at_call 228; refine Stop.out ?_)
  refine Stop.go (nmOpr_c N gn i _ _ hI.out.net hI.out.data Hi.out ?_)
  rw [Hs.out]
  go_wp2_with (go_at_call 283; refine Stop.out ?_)
  refine Stop.go (isName_c s _ _ hI.out.kw Hsz.out ?_)
  rw [hb]
  intro W' hbw
  have HF := hide (HR.out _ hbw)
  clear hbw x8
  go_wp2
  exact HF.out
set_option maxRecDepth 100000 in
set_option maxHeartbeats 2000000 in
theorem r2Opr_c (w : World) (N : Net) (gn g i : Nat) (W : World) (R) (hI : Hid (CkOpr w N gn g W)) (hi : i < N.oprs.length) (hR : ∀ W', Below W.heap.size W W' → R (.returned (.int .i64 (if dupB (oprNm N) i then 4 else 0))) W') : Calls Tryz.prog 287 #[.int .i64 (i : Int), .pointer (some ⟨g + 1, 0, none⟩)] W R := by
 have HR := hide hR
 have Hi := hide hi
 have hlen := hI.out.data.lens
 have hiI : i ≤ 9223372036854775806 := by omega
 clear hR hi hlen
 go_enter Tryz.func287, Tryz.ntmps287
 go_wp2
 go_loopw [6] (fun si wr => ∃ j : Nat, j ≤ i ∧ si = .int .i64 j ∧ Hid (∀ y, y < j → ¬ oprNm N y = oprNm N i) ∧ Hid (CkOpr w N gn g wr) ∧ Hid (Below W.heap.size W wr)) (fun si _ => i - (intOf si).toNat)
 case atStart => exact ⟨0, Nat.zero_le _, rfl, hide (fun y h => by omega), hI, hide (Below.refl _ _)⟩
 case round =>
  obtain ⟨j, hj, rfl, HN, HJ, HB⟩ := hrel
  by_cases hlt : j < i
  ·have x8 : wr.cell? ⟨g + 1, 0, none⟩ = some (.func (.func 228) #[] #[.pointer (some ⟨gn, 0, none⟩)]) := HJ.out.b8.cell (k := 0) rfl
   have Hjl : Hid (j < N.oprs.length) := hide (by have := Hi.out; omega)
   have HJd : Hid (∀ n, CkOpr w N gn g (wr.drewN n)) := hide (fun n => HJ.out.next (below_drewN' (Below.refl _ _) _))
   have HBd : Hid (∀ n, Below W.heap.size W (wr.drewN n)) := hide (fun n => below_drewN' HB.out n)
   have HQ1 : Hid (∀ n, Calls Tryz.prog 228 #[.int .i64 (j : Int), .pointer (some ⟨gn, 0, none⟩)] (wr.drewN n) fun e w'' => e = .returned (.string (oprNm N j)) ∧ ∃ m, w'' = wr.drewN m) := hide (fun n => quiet_dr (nmOpr_q N gn j _ (HJd.out n).net (HJd.out n).data Hjl.out))
   have HQ2 : Hid (∀ n, Calls Tryz.prog 228 #[.int .i64 (i : Int), .pointer (some ⟨gn, 0, none⟩)] (wr.drewN n) fun e w'' => e = .returned (.string (oprNm N i)) ∧ ∃ m, w'' = wr.drewN m) := hide (fun n => quiet_dr (nmOpr_q N gn i _ (HJd.out n).net (HJd.out n).data Hi.out))
   by_cases he : oprNm N j = oprNm N i
   ·have hd : dupB (oprNm N) i = true := List.any_eq_true.2 ⟨j, List.mem_range.2 hlt, by simp [he]⟩
    have HF : Hid (∀ n, R (.returned (.int .i64 4)) (wr.drewN n)) := hide (fun n => by have := HR.out _ (HBd.out n); rw [hd] at this; exact this)
    have q0 := str_eq he
    clear he hd HR HN
    generalize oprNm N j = s1 at *
    generalize oprNm N i = s2 at *
    go_wp2
    go_quiet ((first | (go_at_call 228; with_reducible exact HQ1.out _) | (go_at_call 228; with_reducible exact HQ2.out _)))
    go_wp2
    exact HF.out _
   ·have HN' : Hid (∀ y, y < j + 1 → ¬ oprNm N y = oprNm N i) := hide (fun y hy => by
     by_cases hyj : y < j
     ·exact HN.out y hyj
     ·obtain rfl : y = j := by omega
      exact he)
    have q0 := str_ne he
    clear he
    obtain ⟨s1, hs1⟩ : ∃ s1, oprNm N j = s1 := ⟨_, rfl⟩
    obtain ⟨s2, hs2⟩ : ∃ s2, oprNm N i = s2 := ⟨_, rfl⟩
    rw [hs1] at HQ1 q0
    rw [hs2] at HQ2 q0
    clear hs1 hs2
    go_wp2
    go_quiet ((first | (go_at_call 228; with_reducible exact HQ1.out _) | (go_at_call 228; with_reducible exact HQ2.out _)))
    go_wp2
    go_roundw
    case rel => exact ⟨j + 1, by omega, by go_num, HN', hide (HJd.out _), hide (HBd.out _)⟩
    case measure => simp [intOf]; omega
  ·have hjI : ¬ (j : Int) < (i : Int) := by omega
   have hd : dupB (oprNm N) i = false := by
    rw [dupB, List.any_eq_false]
    intro y hy
    rw [List.mem_range] at hy
    simpa using HN.out y (by omega)
   have HF := HR.out _ HB.out
   rw [hd] at HF
   have HF := hide HF
   clear hd hj hlt
   go_wp2
   exact HF.out
set_option maxRecDepth 100000 in
set_option maxHeartbeats 2000000 in
theorem r3Opr_c (w : World) (N : Net) (gn g i : Nat) (W : World) (R) (hI : Hid (CkOpr w N gn g W)) (hi : i < N.oprs.length) (hR : ∀ W', Below W.heap.size W W' → R (.returned (.int .i64 (if (fun (_ : Nat) => true) i then 0 else 1))) W') : Calls Tryz.prog 288 #[.int .i64 (i : Int), .pointer (some ⟨g + 1 + 1, 0, none⟩), .pointer (some ⟨g, 0, none⟩)] W R := by
 have Hi := hide hi
 have hlen := hI.out.data.lens
 obtain ⟨b, o, x, hp, hx, y0, ha⟩ := hI.out.data.oprs.at_ Hi.out
 rw [show (fun (_ : Nat) => true) i = true from rfl] at hR
 have HR := hide hR
 have x9 : W.cell? ⟨g + 1 + 1, 0, none⟩ = some (.func (.func 230) #[] #[]) := hI.out.b9.cell (k := 0) rfl
 have x7 : W.cell? ⟨g, 0, none⟩ = some (.slice N.op N.oprs.length N.oc) := hI.out.b7.cell (k := 0) rfl
 rw [hp] at x7
 have HA := hide ha
 obtain ⟨n, hn⟩ : ∃ n, N.oprs.length = n := ⟨_, rfl⟩
 rw [hn] at x7 hi hlen
 have q1 : (0 : Int) ≤ (i : Int) := by omega
 have q2 : (i : Int) < (n : Int) := by omega
 have q3 : n ≤ 9223372036854775807 := by omega
 clear hR hx hp hn hlen ha
 go_enter Tryz.func288, Tryz.ntmps288
 go_wp2
 go_still_tail 5, (by kernel_rfl)
 change wpList _ _ _ _ _ W.drew
 have HB := hide ((Below.refl W.heap.size W).drew)
 have hI := hide (hI.out.next HB.out)
 generalize W.drew = w2 at *
 go_wp2_with (go_at_call 230; refine Stop.out ?_)
 refine Stop.go (gdOpr_c x _ _ ?_)
 intro W' hbw
 have HF := hide (HR.out _ (bseq HB.out hbw))
 clear hbw x9 x7 y0
 go_wp2
 exact HF.out
abbrev CkOff (w : World) (N : Net) (gn g : Nat) (W : World) : Prop := CkI w N gn g 25 270 (.slice N.fp N.offs.length N.fc) (.func (.func 231) #[] #[.pointer (some ⟨gn, 0, none⟩)]) (.func (.func 233) #[] #[.pointer (some ⟨gn, 0, none⟩)]) (.func (.func 289) #[] #[.pointer (some ⟨g + 1, 0, none⟩)]) (.func (.func 290) #[] #[.pointer (some ⟨g + 1, 0, none⟩)]) (.func (.func 291) #[] #[.pointer (some ⟨g + 1 + 1, 0, none⟩), .pointer (some ⟨g, 0, none⟩)]) W
set_option maxRecDepth 100000 in
set_option maxHeartbeats 2000000 in
theorem r1Off_c (w : World) (N : Net) (gn g i : Nat) (W : World) (R) (hI : Hid (CkOff w N gn g W)) (hi : i < N.offs.length) (hR : ∀ W', Below W.heap.size W W' → R (.returned (.int .i64 (if nameB (offNm N i) then 0 else 1))) W') : Calls Tryz.prog 289 #[.int .i64 (i : Int), .pointer (some ⟨g + 1, 0, none⟩)] W R := by
 have HR := hide hR
 have x8 : W.cell? ⟨g + 1, 0, none⟩ = some (.func (.func 231) #[] #[.pointer (some ⟨gn, 0, none⟩)]) := hI.out.b8.cell (k := 0) rfl
 have Hi := hide hi
 clear hR hi
 obtain ⟨s, hs⟩ : ∃ s, offNm N i = s := ⟨_, rfl⟩
 have Hs := hide hs
 have Hsz : Hid (s.size ≤ maxLen) := hide (by rw [← hs]; exact szOff hI.out.data Hi.out)
 rw [hs] at HR
 clear hs
 cases hb : nameB s
 ·rw [hb] at HR
  go_enter Tryz.func289, Tryz.ntmps289
  go_wp2_with (go_at_call 231; refine Stop.out ?_)
  refine Stop.go (nmOff_c N gn i _ _ hI.out.net hI.out.data Hi.out ?_)
  rw [Hs.out]
  go_wp2_with (go_at_call 283; refine Stop.out ?_)
  refine Stop.go (isName_c s _ _ hI.out.kw Hsz.out ?_)
  rw [hb]
  intro W' hbw
  have HF := hide (HR.out _ hbw)
  clear hbw x8
  go_wp2
  exact HF.out
 ·rw [hb] at HR
  go_enter Tryz.func289, Tryz.ntmps289
  go_wp2_with (go_at_call 231; refine Stop.out ?_)
  refine Stop.go (nmOff_c N gn i _ _ hI.out.net hI.out.data Hi.out ?_)
  rw [Hs.out]
  go_wp2_with (go_at_call 283; refine Stop.out ?_)
  refine Stop.go (isName_c s _ _ hI.out.kw Hsz.out ?_)
  rw [hb]
  intro W' hbw
  have HF := hide (HR.out _ hbw)
  clear hbw x8
  go_wp2
  exact HF.out
set_option maxRecDepth 100000 in
set_option maxHeartbeats 2000000 in
theorem r2Off_c (w : World) (N : Net) (gn g i : Nat) (W : World) (R) (hI : Hid (CkOff w N gn g W)) (hi : i < N.offs.length) (hR : ∀ W', Below W.heap.size W W' → R (.returned (.int .i64 (if dupB (offNm N) i then 4 else 0))) W') : Calls Tryz.prog 290 #[.int .i64 (i : Int), .pointer (some ⟨g + 1, 0, none⟩)] W R := by
 have HR := hide hR
 have Hi := hide hi
 have hlen := hI.out.data.lens
 have hiI : i ≤ 9223372036854775806 := by omega
 clear hR hi hlen
 go_enter Tryz.func290, Tryz.ntmps290
 go_wp2
 go_loopw [6] (fun si wr => ∃ j : Nat, j ≤ i ∧ si = .int .i64 j ∧ Hid (∀ y, y < j → ¬ offNm N y = offNm N i) ∧ Hid (CkOff w N gn g wr) ∧ Hid (Below W.heap.size W wr)) (fun si _ => i - (intOf si).toNat)
 case atStart => exact ⟨0, Nat.zero_le _, rfl, hide (fun y h => by omega), hI, hide (Below.refl _ _)⟩
 case round =>
  obtain ⟨j, hj, rfl, HN, HJ, HB⟩ := hrel
  by_cases hlt : j < i
  ·have x8 : wr.cell? ⟨g + 1, 0, none⟩ = some (.func (.func 231) #[] #[.pointer (some ⟨gn, 0, none⟩)]) := HJ.out.b8.cell (k := 0) rfl
   have Hjl : Hid (j < N.offs.length) := hide (by have := Hi.out; omega)
   have HJd : Hid (∀ n, CkOff w N gn g (wr.drewN n)) := hide (fun n => HJ.out.next (below_drewN' (Below.refl _ _) _))
   have HBd : Hid (∀ n, Below W.heap.size W (wr.drewN n)) := hide (fun n => below_drewN' HB.out n)
   have HQ1 : Hid (∀ n, Calls Tryz.prog 231 #[.int .i64 (j : Int), .pointer (some ⟨gn, 0, none⟩)] (wr.drewN n) fun e w'' => e = .returned (.string (offNm N j)) ∧ ∃ m, w'' = wr.drewN m) := hide (fun n => quiet_dr (nmOff_q N gn j _ (HJd.out n).net (HJd.out n).data Hjl.out))
   have HQ2 : Hid (∀ n, Calls Tryz.prog 231 #[.int .i64 (i : Int), .pointer (some ⟨gn, 0, none⟩)] (wr.drewN n) fun e w'' => e = .returned (.string (offNm N i)) ∧ ∃ m, w'' = wr.drewN m) := hide (fun n => quiet_dr (nmOff_q N gn i _ (HJd.out n).net (HJd.out n).data Hi.out))
   by_cases he : offNm N j = offNm N i
   ·have hd : dupB (offNm N) i = true := List.any_eq_true.2 ⟨j, List.mem_range.2 hlt, by simp [he]⟩
    have HF : Hid (∀ n, R (.returned (.int .i64 4)) (wr.drewN n)) := hide (fun n => by have := HR.out _ (HBd.out n); rw [hd] at this; exact this)
    have q0 := str_eq he
    clear he hd HR HN
    generalize offNm N j = s1 at *
    generalize offNm N i = s2 at *
    go_wp2
    go_quiet ((first | (go_at_call 231; with_reducible exact HQ1.out _) | (go_at_call 231; with_reducible exact HQ2.out _)))
    go_wp2
    exact HF.out _
   ·have HN' : Hid (∀ y, y < j + 1 → ¬ offNm N y = offNm N i) := hide (fun y hy => by
     by_cases hyj : y < j
     ·exact HN.out y hyj
     ·obtain rfl : y = j := by omega
      exact he)
    have q0 := str_ne he
    clear he
    obtain ⟨s1, hs1⟩ : ∃ s1, offNm N j = s1 := ⟨_, rfl⟩
    obtain ⟨s2, hs2⟩ : ∃ s2, offNm N i = s2 := ⟨_, rfl⟩
    rw [hs1] at HQ1 q0
    rw [hs2] at HQ2 q0
    clear hs1 hs2
    go_wp2
    go_quiet ((first | (go_at_call 231; with_reducible exact HQ1.out _) | (go_at_call 231; with_reducible exact HQ2.out _)))
    go_wp2
    go_roundw
    case rel => exact ⟨j + 1, by omega, by go_num, HN', hide (HJd.out _), hide (HBd.out _)⟩
    case measure => simp [intOf]; omega
  ·have hjI : ¬ (j : Int) < (i : Int) := by omega
   have hd : dupB (offNm N) i = false := by
    rw [dupB, List.any_eq_false]
    intro y hy
    rw [List.mem_range] at hy
    simpa using HN.out y (by omega)
   have HF := HR.out _ HB.out
   rw [hd] at HF
   have HF := hide HF
   clear hd hj hlt
   go_wp2
   exact HF.out
set_option maxRecDepth 100000 in
set_option maxHeartbeats 2000000 in
theorem r3Off_c (w : World) (N : Net) (gn g i : Nat) (W : World) (R) (hI : Hid (CkOff w N gn g W)) (hi : i < N.offs.length) (hR : ∀ W', Below W.heap.size W W' → R (.returned (.int .i64 (if offGd N i then 0 else 1))) W') : Calls Tryz.prog 291 #[.int .i64 (i : Int), .pointer (some ⟨g + 1 + 1, 0, none⟩), .pointer (some ⟨g, 0, none⟩)] W R := by
 have Hi := hide hi
 have hlen := hI.out.data.lens
 obtain ⟨b, o, x, hp, hx, ha, y0, y1, y2, y3, y4, y5, y6⟩ := hI.out.data.off_ Hi.out
 rw [show offGd N i = offOk N x from by unfold offGd; rw [getD_some hx]] at hR
 have HR := hide hR
 have x9 : W.cell? ⟨g + 1 + 1, 0, none⟩ = some (.func (.func 233) #[] #[.pointer (some ⟨gn, 0, none⟩)]) := hI.out.b9.cell (k := 0) rfl
 have x7 : W.cell? ⟨g, 0, none⟩ = some (.slice N.fp N.offs.length N.fc) := hI.out.b7.cell (k := 0) rfl
 rw [hp] at x7
 have HA := hide ha
 obtain ⟨n, hn⟩ : ∃ n, N.offs.length = n := ⟨_, rfl⟩
 rw [hn] at x7 hi hlen
 have q1 : (0 : Int) ≤ (i : Int) := by omega
 have q2 : (i : Int) < (n : Int) := by omega
 have q3 : n ≤ 9223372036854775807 := by omega
 clear hR hx hp hn hlen ha
 cases hg : offOk N x
 ·rw [hg] at HR
  go_enter Tryz.func291, Tryz.ntmps291
  go_wp2
  go_still_tail 5, (by kernel_rfl)
  change wpList _ _ _ _ _ W.drew
  have HB := hide ((Below.refl W.heap.size W).drew)
  have hI := hide (hI.out.next HB.out)
  generalize W.drew = w2 at *
  go_wp2_with (go_at_call 233; refine Stop.out ?_)
  refine Stop.go (gdOff_c N gn x _ _ hI.out.net hI.out.data (HA.out.keep (Keeps.of_below HB.out)) ?_)
  rw [hg]
  intro W' hbw
  have HF := hide (HR.out _ (bseq HB.out hbw))
  clear hbw x9 x7 y0 y1 y2 y3 y4 y5 y6
  go_wp2
  exact HF.out
 ·rw [hg] at HR
  go_enter Tryz.func291, Tryz.ntmps291
  go_wp2
  go_still_tail 5, (by kernel_rfl)
  change wpList _ _ _ _ _ W.drew
  have HB := hide ((Below.refl W.heap.size W).drew)
  have hI := hide (hI.out.next HB.out)
  generalize W.drew = w2 at *
  go_wp2_with (go_at_call 233; refine Stop.out ?_)
  refine Stop.go (gdOff_c N gn x _ _ hI.out.net hI.out.data (HA.out.keep (Keeps.of_below HB.out)) ?_)
  rw [hg]
  intro W' hbw
  have HF := hide (HR.out _ (bseq HB.out hbw))
  clear hbw x9 x7 y0 y1 y2 y3 y4 y5 y6
  go_wp2
  exact HF.out
abbrev CkLin (w : World) (N : Net) (gn g : Nat) (W : World) : Prop := CkI w N gn g 26 273 (.slice N.lp N.lins.length N.lc) (.func (.func 235) #[] #[.pointer (some ⟨gn, 0, none⟩)]) (.func (.func 237) #[] #[.pointer (some ⟨gn, 0, none⟩)]) (.func (.func 296) #[] #[.pointer (some ⟨g + 1, 0, none⟩)]) (.func (.func 297) #[] #[.pointer (some ⟨g + 1, 0, none⟩)]) (.func (.func 298) #[] #[.pointer (some ⟨g + 1 + 1, 0, none⟩), .pointer (some ⟨g, 0, none⟩)]) W
set_option maxRecDepth 100000 in
set_option maxHeartbeats 2000000 in
theorem r1Lin_c (w : World) (N : Net) (gn g i : Nat) (W : World) (R) (hI : Hid (CkLin w N gn g W)) (hi : i < N.lins.length) (hR : ∀ W', Below W.heap.size W W' → R (.returned (.int .i64 (if nameB (linNm N i) then 0 else 1))) W') : Calls Tryz.prog 296 #[.int .i64 (i : Int), .pointer (some ⟨g + 1, 0, none⟩)] W R := by
 have HR := hide hR
 have x8 : W.cell? ⟨g + 1, 0, none⟩ = some (.func (.func 235) #[] #[.pointer (some ⟨gn, 0, none⟩)]) := hI.out.b8.cell (k := 0) rfl
 have Hi := hide hi
 clear hR hi
 obtain ⟨s, hs⟩ : ∃ s, linNm N i = s := ⟨_, rfl⟩
 have Hs := hide hs
 have Hsz : Hid (s.size ≤ maxLen) := hide (by rw [← hs]; exact szLin hI.out.data Hi.out)
 rw [hs] at HR
 clear hs
 cases hb : nameB s
 ·rw [hb] at HR
  go_enter Tryz.func296, Tryz.ntmps296
  go_wp2_with (go_at_call 235; refine Stop.out ?_)
  refine Stop.go (nmLin_c N gn i _ _ hI.out.net hI.out.data Hi.out ?_)
  rw [Hs.out]
  go_wp2_with (go_at_call 283; refine Stop.out ?_)
  refine Stop.go (isName_c s _ _ hI.out.kw Hsz.out ?_)
  rw [hb]
  intro W' hbw
  have HF := hide (HR.out _ hbw)
  clear hbw x8
  go_wp2
  exact HF.out
 ·rw [hb] at HR
  go_enter Tryz.func296, Tryz.ntmps296
  go_wp2_with (go_at_call 235; refine Stop.out ?_)
  refine Stop.go (nmLin_c N gn i _ _ hI.out.net hI.out.data Hi.out ?_)
  rw [Hs.out]
  go_wp2_with (go_at_call 283; refine Stop.out ?_)
  refine Stop.go (isName_c s _ _ hI.out.kw Hsz.out ?_)
  rw [hb]
  intro W' hbw
  have HF := hide (HR.out _ hbw)
  clear hbw x8
  go_wp2
  exact HF.out
set_option maxRecDepth 100000 in
set_option maxHeartbeats 2000000 in
theorem r2Lin_c (w : World) (N : Net) (gn g i : Nat) (W : World) (R) (hI : Hid (CkLin w N gn g W)) (hi : i < N.lins.length) (hR : ∀ W', Below W.heap.size W W' → R (.returned (.int .i64 (if dupB (linNm N) i then 4 else 0))) W') : Calls Tryz.prog 297 #[.int .i64 (i : Int), .pointer (some ⟨g + 1, 0, none⟩)] W R := by
 have HR := hide hR
 have Hi := hide hi
 have hlen := hI.out.data.lens
 have hiI : i ≤ 9223372036854775806 := by omega
 clear hR hi hlen
 go_enter Tryz.func297, Tryz.ntmps297
 go_wp2
 go_loopw [6] (fun si wr => ∃ j : Nat, j ≤ i ∧ si = .int .i64 j ∧ Hid (∀ y, y < j → ¬ linNm N y = linNm N i) ∧ Hid (CkLin w N gn g wr) ∧ Hid (Below W.heap.size W wr)) (fun si _ => i - (intOf si).toNat)
 case atStart => exact ⟨0, Nat.zero_le _, rfl, hide (fun y h => by omega), hI, hide (Below.refl _ _)⟩
 case round =>
  obtain ⟨j, hj, rfl, HN, HJ, HB⟩ := hrel
  by_cases hlt : j < i
  ·have x8 : wr.cell? ⟨g + 1, 0, none⟩ = some (.func (.func 235) #[] #[.pointer (some ⟨gn, 0, none⟩)]) := HJ.out.b8.cell (k := 0) rfl
   have Hjl : Hid (j < N.lins.length) := hide (by have := Hi.out; omega)
   have HJd : Hid (∀ n, CkLin w N gn g (wr.drewN n)) := hide (fun n => HJ.out.next (below_drewN' (Below.refl _ _) _))
   have HBd : Hid (∀ n, Below W.heap.size W (wr.drewN n)) := hide (fun n => below_drewN' HB.out n)
   have HQ1 : Hid (∀ n, Calls Tryz.prog 235 #[.int .i64 (j : Int), .pointer (some ⟨gn, 0, none⟩)] (wr.drewN n) fun e w'' => e = .returned (.string (linNm N j)) ∧ ∃ m, w'' = wr.drewN m) := hide (fun n => quiet_dr (nmLin_q N gn j _ (HJd.out n).net (HJd.out n).data Hjl.out))
   have HQ2 : Hid (∀ n, Calls Tryz.prog 235 #[.int .i64 (i : Int), .pointer (some ⟨gn, 0, none⟩)] (wr.drewN n) fun e w'' => e = .returned (.string (linNm N i)) ∧ ∃ m, w'' = wr.drewN m) := hide (fun n => quiet_dr (nmLin_q N gn i _ (HJd.out n).net (HJd.out n).data Hi.out))
   by_cases he : linNm N j = linNm N i
   ·have hd : dupB (linNm N) i = true := List.any_eq_true.2 ⟨j, List.mem_range.2 hlt, by simp [he]⟩
    have HF : Hid (∀ n, R (.returned (.int .i64 4)) (wr.drewN n)) := hide (fun n => by have := HR.out _ (HBd.out n); rw [hd] at this; exact this)
    have q0 := str_eq he
    clear he hd HR HN
    generalize linNm N j = s1 at *
    generalize linNm N i = s2 at *
    go_wp2
    go_quiet ((first | (go_at_call 235; with_reducible exact HQ1.out _) | (go_at_call 235; with_reducible exact HQ2.out _)))
    go_wp2
    exact HF.out _
   ·have HN' : Hid (∀ y, y < j + 1 → ¬ linNm N y = linNm N i) := hide (fun y hy => by
     by_cases hyj : y < j
     ·exact HN.out y hyj
     ·obtain rfl : y = j := by omega
      exact he)
    have q0 := str_ne he
    clear he
    obtain ⟨s1, hs1⟩ : ∃ s1, linNm N j = s1 := ⟨_, rfl⟩
    obtain ⟨s2, hs2⟩ : ∃ s2, linNm N i = s2 := ⟨_, rfl⟩
    rw [hs1] at HQ1 q0
    rw [hs2] at HQ2 q0
    clear hs1 hs2
    go_wp2
    go_quiet ((first | (go_at_call 235; with_reducible exact HQ1.out _) | (go_at_call 235; with_reducible exact HQ2.out _)))
    go_wp2
    go_roundw
    case rel => exact ⟨j + 1, by omega, by go_num, HN', hide (HJd.out _), hide (HBd.out _)⟩
    case measure => simp [intOf]; omega
  ·have hjI : ¬ (j : Int) < (i : Int) := by omega
   have hd : dupB (linNm N) i = false := by
    rw [dupB, List.any_eq_false]
    intro y hy
    rw [List.mem_range] at hy
    simpa using HN.out y (by omega)
   have HF := HR.out _ HB.out
   rw [hd] at HF
   have HF := hide HF
   clear hd hj hlt
   go_wp2
   exact HF.out
set_option maxRecDepth 100000 in
set_option maxHeartbeats 2000000 in
theorem r3Lin_c (w : World) (N : Net) (gn g i : Nat) (W : World) (R) (hI : Hid (CkLin w N gn g W)) (hi : i < N.lins.length) (hR : ∀ W', Below W.heap.size W W' → R (.returned (.int .i64 (if linGd N i then 0 else 1))) W') : Calls Tryz.prog 298 #[.int .i64 (i : Int), .pointer (some ⟨g + 1 + 1, 0, none⟩), .pointer (some ⟨g, 0, none⟩)] W R := by
 have Hi := hide hi
 have hlen := hI.out.data.lens
 obtain ⟨b, o, x, hp, hx, ha, y0, y1, y2, y3, y4, y5⟩ := hI.out.data.lin_ Hi.out
 rw [show linGd N i = linOk N x from by unfold linGd; rw [getD_some hx]] at hR
 have HR := hide hR
 have x9 : W.cell? ⟨g + 1 + 1, 0, none⟩ = some (.func (.func 237) #[] #[.pointer (some ⟨gn, 0, none⟩)]) := hI.out.b9.cell (k := 0) rfl
 have x7 : W.cell? ⟨g, 0, none⟩ = some (.slice N.lp N.lins.length N.lc) := hI.out.b7.cell (k := 0) rfl
 rw [hp] at x7
 have HA := hide ha
 obtain ⟨n, hn⟩ : ∃ n, N.lins.length = n := ⟨_, rfl⟩
 rw [hn] at x7 hi hlen
 have q1 : (0 : Int) ≤ (i : Int) := by omega
 have q2 : (i : Int) < (n : Int) := by omega
 have q3 : n ≤ 9223372036854775807 := by omega
 clear hR hx hp hn hlen ha
 cases hg : linOk N x
 ·rw [hg] at HR
  go_enter Tryz.func298, Tryz.ntmps298
  go_wp2
  go_still_tail 5, (by kernel_rfl)
  change wpList _ _ _ _ _ W.drew
  have HB := hide ((Below.refl W.heap.size W).drew)
  have hI := hide (hI.out.next HB.out)
  generalize W.drew = w2 at *
  go_wp2_with (go_at_call 237; refine Stop.out ?_)
  refine Stop.go (gdLin_c N gn x _ _ hI.out.net hI.out.data ?_)
  rw [hg]
  intro W' hbw
  have HF := hide (HR.out _ (bseq HB.out hbw))
  clear hbw x9 x7 y0 y1 y2 y3 y4 y5
  go_wp2
  exact HF.out
 ·rw [hg] at HR
  go_enter Tryz.func298, Tryz.ntmps298
  go_wp2
  go_still_tail 5, (by kernel_rfl)
  change wpList _ _ _ _ _ W.drew
  have HB := hide ((Below.refl W.heap.size W).drew)
  have hI := hide (hI.out.next HB.out)
  generalize W.drew = w2 at *
  go_wp2_with (go_at_call 237; refine Stop.out ?_)
  refine Stop.go (gdLin_c N gn x _ _ hI.out.net hI.out.data ?_)
  rw [hg]
  intro W' hbw
  have HF := hide (HR.out _ (bseq HB.out hbw))
  clear hbw x9 x7 y0 y1 y2 y3 y4 y5
  go_wp2
  exact HF.out
abbrev CkCls (w : World) (N : Net) (gn g : Nat) (W : World) : Prop := CkI w N gn g 27 275 (.slice N.kp N.clss.length N.kc) (.func (.func 239) #[] #[.pointer (some ⟨gn, 0, none⟩)]) (.func (.func 241) #[] #[]) (.func (.func 300) #[] #[.pointer (some ⟨g + 1, 0, none⟩)]) (.func (.func 301) #[] #[.pointer (some ⟨g + 1, 0, none⟩)]) (.func (.func 302) #[] #[.pointer (some ⟨g + 1 + 1, 0, none⟩), .pointer (some ⟨g, 0, none⟩)]) W
set_option maxRecDepth 100000 in
set_option maxHeartbeats 2000000 in
theorem r1Cls_c (w : World) (N : Net) (gn g i : Nat) (W : World) (R) (hI : Hid (CkCls w N gn g W)) (hi : i < N.clss.length) (hR : ∀ W', Below W.heap.size W W' → R (.returned (.int .i64 (if nameB (clsNm N i) then 0 else 1))) W') : Calls Tryz.prog 300 #[.int .i64 (i : Int), .pointer (some ⟨g + 1, 0, none⟩)] W R := by
 have HR := hide hR
 have x8 : W.cell? ⟨g + 1, 0, none⟩ = some (.func (.func 239) #[] #[.pointer (some ⟨gn, 0, none⟩)]) := hI.out.b8.cell (k := 0) rfl
 have Hi := hide hi
 clear hR hi
 obtain ⟨s, hs⟩ : ∃ s, clsNm N i = s := ⟨_, rfl⟩
 have Hs := hide hs
 have Hsz : Hid (s.size ≤ maxLen) := hide (by rw [← hs]; exact szCls hI.out.data Hi.out)
 rw [hs] at HR
 clear hs
 cases hb : nameB s
 ·rw [hb] at HR
  go_enter Tryz.func300, Tryz.ntmps300
  go_wp2_with (go_at_call 239; refine Stop.out ?_)
  refine Stop.go (nmCls_c N gn i _ _ hI.out.net hI.out.data Hi.out ?_)
  rw [Hs.out]
  go_wp2_with (go_at_call 283; refine Stop.out ?_)
  refine Stop.go (isName_c s _ _ hI.out.kw Hsz.out ?_)
  rw [hb]
  intro W' hbw
  have HF := hide (HR.out _ hbw)
  clear hbw x8
  go_wp2
  exact HF.out
 ·rw [hb] at HR
  go_enter Tryz.func300, Tryz.ntmps300
  go_wp2_with (go_at_call 239; refine Stop.out ?_)
  refine Stop.go (nmCls_c N gn i _ _ hI.out.net hI.out.data Hi.out ?_)
  rw [Hs.out]
  go_wp2_with (go_at_call 283; refine Stop.out ?_)
  refine Stop.go (isName_c s _ _ hI.out.kw Hsz.out ?_)
  rw [hb]
  intro W' hbw
  have HF := hide (HR.out _ hbw)
  clear hbw x8
  go_wp2
  exact HF.out
set_option maxRecDepth 100000 in
set_option maxHeartbeats 2000000 in
theorem r2Cls_c (w : World) (N : Net) (gn g i : Nat) (W : World) (R) (hI : Hid (CkCls w N gn g W)) (hi : i < N.clss.length) (hR : ∀ W', Below W.heap.size W W' → R (.returned (.int .i64 (if dupB (clsNm N) i then 4 else 0))) W') : Calls Tryz.prog 301 #[.int .i64 (i : Int), .pointer (some ⟨g + 1, 0, none⟩)] W R := by
 have HR := hide hR
 have Hi := hide hi
 have hlen := hI.out.data.lens
 have hiI : i ≤ 9223372036854775806 := by omega
 clear hR hi hlen
 go_enter Tryz.func301, Tryz.ntmps301
 go_wp2
 go_loopw [6] (fun si wr => ∃ j : Nat, j ≤ i ∧ si = .int .i64 j ∧ Hid (∀ y, y < j → ¬ clsNm N y = clsNm N i) ∧ Hid (CkCls w N gn g wr) ∧ Hid (Below W.heap.size W wr)) (fun si _ => i - (intOf si).toNat)
 case atStart => exact ⟨0, Nat.zero_le _, rfl, hide (fun y h => by omega), hI, hide (Below.refl _ _)⟩
 case round =>
  obtain ⟨j, hj, rfl, HN, HJ, HB⟩ := hrel
  by_cases hlt : j < i
  ·have x8 : wr.cell? ⟨g + 1, 0, none⟩ = some (.func (.func 239) #[] #[.pointer (some ⟨gn, 0, none⟩)]) := HJ.out.b8.cell (k := 0) rfl
   have Hjl : Hid (j < N.clss.length) := hide (by have := Hi.out; omega)
   have HJd : Hid (∀ n, CkCls w N gn g (wr.drewN n)) := hide (fun n => HJ.out.next (below_drewN' (Below.refl _ _) _))
   have HBd : Hid (∀ n, Below W.heap.size W (wr.drewN n)) := hide (fun n => below_drewN' HB.out n)
   have HQ1 : Hid (∀ n, Calls Tryz.prog 239 #[.int .i64 (j : Int), .pointer (some ⟨gn, 0, none⟩)] (wr.drewN n) fun e w'' => e = .returned (.string (clsNm N j)) ∧ ∃ m, w'' = wr.drewN m) := hide (fun n => quiet_dr (nmCls_q N gn j _ (HJd.out n).net (HJd.out n).data Hjl.out))
   have HQ2 : Hid (∀ n, Calls Tryz.prog 239 #[.int .i64 (i : Int), .pointer (some ⟨gn, 0, none⟩)] (wr.drewN n) fun e w'' => e = .returned (.string (clsNm N i)) ∧ ∃ m, w'' = wr.drewN m) := hide (fun n => quiet_dr (nmCls_q N gn i _ (HJd.out n).net (HJd.out n).data Hi.out))
   by_cases he : clsNm N j = clsNm N i
   ·have hd : dupB (clsNm N) i = true := List.any_eq_true.2 ⟨j, List.mem_range.2 hlt, by simp [he]⟩
    have HF : Hid (∀ n, R (.returned (.int .i64 4)) (wr.drewN n)) := hide (fun n => by have := HR.out _ (HBd.out n); rw [hd] at this; exact this)
    have q0 := str_eq he
    clear he hd HR HN
    generalize clsNm N j = s1 at *
    generalize clsNm N i = s2 at *
    go_wp2
    go_quiet ((first | (go_at_call 239; with_reducible exact HQ1.out _) | (go_at_call 239; with_reducible exact HQ2.out _)))
    go_wp2
    exact HF.out _
   ·have HN' : Hid (∀ y, y < j + 1 → ¬ clsNm N y = clsNm N i) := hide (fun y hy => by
     by_cases hyj : y < j
     ·exact HN.out y hyj
     ·obtain rfl : y = j := by omega
      exact he)
    have q0 := str_ne he
    clear he
    obtain ⟨s1, hs1⟩ : ∃ s1, clsNm N j = s1 := ⟨_, rfl⟩
    obtain ⟨s2, hs2⟩ : ∃ s2, clsNm N i = s2 := ⟨_, rfl⟩
    rw [hs1] at HQ1 q0
    rw [hs2] at HQ2 q0
    clear hs1 hs2
    go_wp2
    go_quiet ((first | (go_at_call 239; with_reducible exact HQ1.out _) | (go_at_call 239; with_reducible exact HQ2.out _)))
    go_wp2
    go_roundw
    case rel => exact ⟨j + 1, by omega, by go_num, HN', hide (HJd.out _), hide (HBd.out _)⟩
    case measure => simp [intOf]; omega
  ·have hjI : ¬ (j : Int) < (i : Int) := by omega
   have hd : dupB (clsNm N) i = false := by
    rw [dupB, List.any_eq_false]
    intro y hy
    rw [List.mem_range] at hy
    simpa using HN.out y (by omega)
   have HF := HR.out _ HB.out
   rw [hd] at HF
   have HF := hide HF
   clear hd hj hlt
   go_wp2
   exact HF.out
set_option maxRecDepth 100000 in
set_option maxHeartbeats 2000000 in
theorem r3Cls_c (w : World) (N : Net) (gn g i : Nat) (W : World) (R) (hI : Hid (CkCls w N gn g W)) (hi : i < N.clss.length) (hR : ∀ W', Below W.heap.size W W' → R (.returned (.int .i64 (if clsGd N i then 0 else 1))) W') : Calls Tryz.prog 302 #[.int .i64 (i : Int), .pointer (some ⟨g + 1 + 1, 0, none⟩), .pointer (some ⟨g, 0, none⟩)] W R := by
 have Hi := hide hi
 have hlen := hI.out.data.lens
 obtain ⟨b, o, x, hp, hx, ha, y0, y1, y2⟩ := hI.out.data.cls_ Hi.out
 rw [show clsGd N i = clsOk x from by unfold clsGd; rw [getD_some hx]] at hR
 have HR := hide hR
 have x9 : W.cell? ⟨g + 1 + 1, 0, none⟩ = some (.func (.func 241) #[] #[]) := hI.out.b9.cell (k := 0) rfl
 have x7 : W.cell? ⟨g, 0, none⟩ = some (.slice N.kp N.clss.length N.kc) := hI.out.b7.cell (k := 0) rfl
 rw [hp] at x7
 have HA := hide ha
 obtain ⟨n, hn⟩ : ∃ n, N.clss.length = n := ⟨_, rfl⟩
 rw [hn] at x7 hi hlen
 have q1 : (0 : Int) ≤ (i : Int) := by omega
 have q2 : (i : Int) < (n : Int) := by omega
 have q3 : n ≤ 9223372036854775807 := by omega
 clear hR hx hp hn hlen ha
 cases hg : clsOk x
 ·rw [hg] at HR
  go_enter Tryz.func302, Tryz.ntmps302
  go_wp2
  go_still_tail 5, (by kernel_rfl)
  change wpList _ _ _ _ _ W.drew
  have HB := hide ((Below.refl W.heap.size W).drew)
  have hI := hide (hI.out.next HB.out)
  generalize W.drew = w2 at *
  go_wp2_with (go_at_call 241; refine Stop.out ?_)
  refine Stop.go (goodCls_c x _ _ ?_)
  rw [hg]
  intro W' hbw
  have HF := hide (HR.out _ (bseq HB.out hbw))
  clear hbw x9 x7 y0 y1 y2
  go_wp2
  exact HF.out
 ·rw [hg] at HR
  go_enter Tryz.func302, Tryz.ntmps302
  go_wp2
  go_still_tail 5, (by kernel_rfl)
  change wpList _ _ _ _ _ W.drew
  have HB := hide ((Below.refl W.heap.size W).drew)
  have hI := hide (hI.out.next HB.out)
  generalize W.drew = w2 at *
  go_wp2_with (go_at_call 241; refine Stop.out ?_)
  refine Stop.go (goodCls_c x _ _ ?_)
  rw [hg]
  intro W' hbw
  have HF := hide (HR.out _ (bseq HB.out hbw))
  clear hbw x9 x7 y0 y1 y2
  go_wp2
  exact HF.out
end Go.Proofs.YtgfhcmidnbahjaaGreatDoor
