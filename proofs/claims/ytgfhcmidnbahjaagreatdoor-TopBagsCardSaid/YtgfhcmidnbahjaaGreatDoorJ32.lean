/- Stops: a nil row grows, two rows are put together. Transition: demand, code, what recovers (printed by genTB.py from promise's texts). Transition: networks alike, plans usable. Transition: a plan is usable in a network. Transition: ways, places, posts. -/
import Derived.Test.YtgfhcmidnbahjaaGreatDoorJ22
import Derived.Test.YtgfhcmidnbahjaaGreatDoorJ31
set_option linter.unusedVariables false
set_option linter.unusedSimpArgs false
namespace Go.Proofs.YtgfhcmidnbahjaaGreatDoor
section
open Go.RowKit Go.Shelf
theorem zc_size (n : Nat) : (Builtin.zeroCells #[Value.int .i64 0, Value.int .i64 0, Value.int .i64 0, Value.int .i64 0] n).size = n * 4 := by
 simp [Builtin.zeroCells]
set_option maxHeartbeats 1000000 in
theorem sgrow_c (n : Nat) (hn : n ≤ 100000) (w : World) (R) (hR : ∀ v w', Below w.heap.size w w' → w'.ownsRow w.heap.size 53 4 v 0 [] → R (.returned v) w') : Calls Tryz.prog 122 #[.slice none 0 0, .int .i64 (n : Int)] w R := by
 have HR := hide hR
 clear hR
 rcases Nat.eq_zero_or_pos n with h0 | h0
 ·subst h0
  have HF := hide (HR.out _ w (Below.refl _ _) (World.ownsRow_nil _ _ _ _))
  go_enter Tryz.func122, Tryz.ntmps122
  go_wp2
  simpa using HF.out
 ·have hcap := grownCap_ge w n 0 53
  have hcm := grownCap_le_maxLen w n 0 53 (by unfold maxLen; omega)
  have h1 : (0 : Int) < (n : Int) := by omega
  have hz : IntKind.i64.wrap ((n : Int) - 0) = (n : Int) := by rw [IntWalk.i64_in _ (by omega)]; omega
  have hbt : Tryz.t53.bytes = 32 := by kernel_rfl
  go_enter Tryz.func122, Tryz.ntmps122
  have hns : ¬ (281474976710656 < Builtin.nextslicecap n 0 * 32) := by rw [nextslicecap_zero h0]; omega
  go_wp2
  ·refine HR.out _ _ (balloc (Below.refl _ _) _).drew ?_
   exact (World.ownsRow_made (base := w.heap.size) (e := 53) (size := 4) w _ (grownCap w n 0 53) (Nat.le_refl _) hcm (by rw [Array.size_append, zc_size, zc_size]; show n * 4 + (grownCap w n 0 53 - n) * 4 = _; omega)).drew
set_option maxRecDepth 100000 in
set_option maxHeartbeats 2000000 in
theorem sconcat_c (g0 c0 n m c c2 : Nat) (p p2 : Option Addr) (xs ys : List Value) (w : World) (R) (hn : n ≤ 1000) (hm : m ≤ 1000) (hx : ∀ u ∈ xs, u.oneCell' = true) (hy : ∀ u ∈ ys, u.oneCell' = true) (h0 : w.cell? ⟨g0, 0, none⟩ = some (.slice p n c)) (h1 : w.cell? ⟨g0, 0 + 1, none⟩ = some (.slice p2 m c2))
  (hs : Src w p n 4 xs) (hs2 : Src w p2 m 4 ys) (hR : ∀ v w', Below w.heap.size w w' → w'.ownsRow w.heap.size 53 4 v (n + m) (xs ++ ys) → R (.returned v) w') : Calls Tryz.prog 52 #[.slice (some ⟨g0, 0, none⟩) 2 c0] w R := by
 have HR := hide hR; have HX := hide hx; have HY := hide hy; have HS := hide hs; have HS2 := hide hs2
 obtain ⟨i0, hi0, hz0, hz1, hz2⟩ := info_parts infoStop
 have HT := hide (And.intro hi0 (And.intro hz0 (And.intro hz1 hz2)))
 clear hR hx hy hs hs2 hi0 hz0 hz1 hz2
 rw [Nat.zero_add] at h1
 go_enter Tryz.func52, Tryz.ntmps52
 go_wp2
 go_loopw [3, 11] (fun a b wr => ((a = .int .i64 0 ∧ b = .int .i64 0) ∨ (a = .int .i64 (n : Int) ∧ b = .int .i64 1) ∨ (a = .int .i64 ((n + m : Nat) : Int) ∧ b = .int .i64 2)) ∧ wr = w) (fun _ b _ => (2 - intOf b).toNat)
 case atStart => exact ⟨.inl ⟨rfl, rfl⟩, rfl⟩
 case round =>
  obtain ⟨hrel, rfl⟩ := hrel
  rcases hrel with ⟨rfl, rfl⟩ | ⟨rfl, rfl⟩ | ⟨rfl, rfl⟩
  ·have t1 : ¬ ((n : Int) < 0) := by omega
   go_wp2
   go_roundw
   case rel => exact ⟨.inr (.inl ⟨by simp, by simp⟩), by first | rfl | trivial | simp⟩
   case measure => simp [intOf]
  ·have t1 : ¬ ((n : Int) + (m : Int) < 0) := by omega
   go_wp2
   go_roundw
   case rel => exact ⟨.inr (.inr ⟨by simp, by simp⟩), by first | rfl | trivial | simp⟩
   case measure => simp [intOf]
  ·obtain ⟨W0, rfl⟩ : ∃ W0, W0 = wr := ⟨wr, rfl⟩
   go_wp2_with (go_at_call 122; refine Stop.out ?_)
   refine Stop.go (sgrow_c (n + m) (by omega) _ _ ?_)
   intro v w1 hb hown
   have HB := hide hb; have HO := hide hown
   have d0 := cell_later hb h0; have d1 := cell_later hb h1
   have HG := hide (And.intro h0 h1)
   clear hb hown d0 d1
   go_wp2
   go_loopw [6, 27] (fun a b w2 => ((b = .int .i64 0 ∧ Hid (w2.ownsRow W0.heap.size 53 4 a 0 [])) ∨ (b = .int .i64 1 ∧ Hid (w2.ownsRow W0.heap.size 53 4 a n xs)) ∨ (b = .int .i64 2 ∧ Hid (w2.ownsRow W0.heap.size 53 4 a (n + m) (xs ++ ys)))) ∧ Hid (Below W0.heap.size W0 w2)) (fun _ b _ => (2 - intOf b).toNat)
   case atStart => exact ⟨.inl ⟨rfl, HO⟩, HB⟩
   case round =>
    obtain ⟨hrel, HB2⟩ := hrel
    have d0 := cell_later HB2.out HG.out.1
    have d1 := cell_later HB2.out HG.out.2
    obtain ⟨hi0, hz0, hz1, hz2⟩ := HT.out
    rcases hrel with ⟨rfl, HO2⟩ | ⟨rfl, HO2⟩ | ⟨rfl, HO2⟩
    ·go_wp2_with (at_builtin; refine Stop.out ?_)
     refine Stop.go ?_
     refine wpList_app _ rfl (.tmp 31) (.tmp 32) 48 rfl W0.heap.size 53 i0 _ 4 32 Tryz.underlying48 hi0 hz0 hz1 hz2 rfl (by omega) _ 0 [] rfl HO2.out p n c xs rfl (HS.out.keep (Keeps.of_below HB2.out)) HX.out (by unfold maxLen; omega) (by omega) HB2.out.size ?_
     intro v3 w3 hown hg
     rw [Nat.zero_add, List.nil_append] at hown
     have HO3 := hide hown
     have HB3 := hide (HB2.out.grown hg HB2.out.size (fun k hk => (own_lt HO2.out hk).1))
     clear hown hg hi0 hz0 hz1 hz2
     go_wp2_with fail
     go_roundw
     case rel => exact ⟨.inr (.inl ⟨by simp, HO3⟩), HB3⟩
     case measure => simp [intOf]
    ·go_wp2_with (at_builtin; refine Stop.out ?_)
     refine Stop.go ?_
     refine wpList_app _ rfl (.tmp 31) (.tmp 32) 48 rfl W0.heap.size 53 i0 _ 4 32 Tryz.underlying48 hi0 hz0 hz1 hz2 rfl (by omega) _ n xs rfl HO2.out p2 m c2 ys rfl (HS2.out.keep (Keeps.of_below HB2.out)) HY.out (by unfold maxLen; omega) (by omega) HB2.out.size ?_
     intro v3 w3 hown hg
     have HO3 := hide hown
     have HB3 := hide (HB2.out.grown hg HB2.out.size (fun k hk => (own_lt HO2.out hk).1))
     clear hown hg hi0 hz0 hz1 hz2
     go_wp2_with fail
     go_roundw
     case rel => exact ⟨.inr (.inr ⟨by simp, HO3⟩), HB3⟩
     case measure => simp [intOf]
    ·go_wp2
     exact HR.out _ _ HB2.out HO2.out
end
section
open Go.RowKit Go.Shelf
theorem tdemand_ok (w : World) (R) (hR : ∀ v, R (.returned v) w) : Calls Tryz.prog 42 #[.bool true] w R := by
 have HR := hide hR
 clear hR
 go_enter Tryz.func42, Tryz.ntmps42
 go_wp2
 first
 | exact HR.out _
 | exact bodyPost_end (results_none Tryz.results42 _ _ _) rfl (HR.out _)
set_option maxRecDepth 100000 in
theorem tcode_c (e : Int) (w : World) (R) (hR : R (.returned (.int .i64 e)) w) : Calls Tryz.prog 41 #[.iface 43 (.int .i64 e)] w R := by
 have HR := hide hR
 have hta := run_assert_errno e
 clear hR
 go_enter Tryz.func41, Tryz.ntmps41
 go_wp2
 exact HR.out
theorem carry_calm (n : Nat) (p q : Addr) (w : World) :
  CallsDIn Fence.wide n Tryz.prog 48 #[.pointer (some p), .pointer (some q)] .returning w fun e u' w' => e = .returned (.tuple #[]) ∧ u' = .returning ∧ w' = w := by
 refine callsDIn_of_wpSIn Tryz.func48 rfl trivial fun c₀ cs hu => ?_
 apply wpSIn_seq
 apply wpSIn_region
 simp [wpOpsSIn, go_sem, recoverD, hu, Tryz.ntmps48, Exit.thenS]
 apply wpSIn_seq
 apply wpSIn_region
 simp [wpOpsSIn, go_sem, hu, Exit.thenS]
 refine wpSIn_cond (t := false) (by simp [Act.eval, Array.replicate]) ?_
 simp only [Bool.false_eq_true, if_false]
 refine wpSIn_of_wpIn rfl (wpIn_skip ?_)
 cases c₀
 simp_all [bodyPostS, results, Tryz.results48]
theorem carry_catch (n : Nat) (p q : Addr) (x y : Value) (e : Int) (older : List PanicEntry) (w : World) (hc : w.cell? p = some x) (hz : w.frozen? p = false) (hc2 : w.cell? q = some y) (hz2 : w.frozen? q = false) (hne : p ≠ q) :
  CallsDIn Fence.wide n Tryz.prog 48 #[.pointer (some p), .pointer (some q)] (.panicking ({ v := .iface 43 (.int .i64 e), recovered := false } :: older)) w fun e' u' w' =>
   e' = .returned (.tuple #[]) ∧ u' = .panicking ({ v := .iface 43 (.int .i64 e), recovered := true } :: older) ∧ w' = (w.setCell p (.slice none 0 0)).setCell q (.int .i64 e) := by
 refine callsDIn_of_wpSIn Tryz.func48 rfl trivial fun c₀ cs hu => ?_
 apply wpSIn_seq
 apply wpSIn_region
 simp [wpOpsSIn, go_sem, recoverD, hu, Tryz.ntmps48, Exit.thenS]
 apply wpSIn_seq
 apply wpSIn_region
 simp [wpOpsSIn, go_sem, hu, Exit.thenS]
 refine wpSIn_cond (t := true) (by simp [Act.eval, Array.replicate]) ?_
 simp only [if_true]
 refine wpSIn_of_wpIn rfl ?_
 refine wpIn_wide.2 ?_
 have c2 : (w.setCell p (.slice none 0 0)).cell? q = some y := (World.cell?_setCell_other w p q _ hne).trans hc2
 have z2 : (w.setCell p (.slice none 0 0)).frozen? q = false := (World.frozen?_setCell w p q _).trans hz2
 go_wp2_with (go_at_call 41; refine Stop.out ?_)
 refine Stop.go (tcode_c e _ _ ?_)
 go_wp2
 simp [bodyPostS, results, Tryz.results48]
theorem tinside_yes (i n : Nat) (h : i < n) (w : World) (R) (hR : R (.returned (.bool true)) w) : Calls Tryz.prog 117 #[.int .i64 (i : Int), .int .i64 (n : Int)] w R := by
 have HR := hide hR
 have q1 : (0 : Int) ≤ (i : Int) := by omega
 have q2 : (i : Int) < (n : Int) := by omega
 clear hR h
 go_enter Tryz.func117, Tryz.ntmps117
 go_wp2
 exact HR.out
theorem safe_calm (n : Nat) (p : Addr) (w : World) :
  CallsDIn Fence.wide n Tryz.prog 40 #[.pointer (some p)] .returning w fun e u' w' => e = .returned (.tuple #[]) ∧ u' = .returning ∧ w' = w := by
 refine callsDIn_of_wpSIn Tryz.func40 rfl trivial fun c₀ cs hu => ?_
 apply wpSIn_seq
 apply wpSIn_region
 simp [wpOpsSIn, go_sem, recoverD, hu, Tryz.ntmps40, Exit.thenS]
 apply wpSIn_seq
 apply wpSIn_region
 simp [wpOpsSIn, go_sem, hu, Exit.thenS]
 refine wpSIn_cond (t := false) (by simp [Act.eval, Array.replicate]) ?_
 simp only [Bool.false_eq_true, if_false]
 refine wpSIn_of_wpIn rfl (wpIn_skip ?_)
 cases c₀
 simp_all [bodyPostS, results, Tryz.results40]
theorem inTime_yes (t : Int) (h1 : 0 ≤ t) (h2 : t ≤ 1000000) (w : World) (R) (hR : R (.returned (.bool true)) w) : Calls Tryz.prog 43 #[.int .i64 t] w R := by
 have HR := hide hR
 clear hR
 go_enter Tryz.func43, Tryz.ntmps43
 go_wp2
 exact HR.out
end
section
open Go.RowKit Go.Shelf
attribute [local go_sem] Oper.semAt_some run_store_func
theorem alike1_c (x : Off) (w : World) (R) (hn : x.name.size ≤ maxLen) (hR : ∀ w', Below w.heap.size w w' → R (.returned (.bool true)) w') : Calls Tryz.prog 114 #[.agg x.cells.toArray, .agg x.cells.toArray] w R := by
 obtain ⟨w1, hw1⟩ : ∃ w1, (w.alloc (.cells x.cells.toArray 65)).alloc (.cells x.cells.toArray 65) = w1 := ⟨_, rfl⟩
 have HR := hide (hR w1 (hw1 ▸ balloc (balloc (Below.refl _ _) _) _))
 have k0 : Blk w1 w.heap.size x.cells.toArray 65 := by rw [← hw1]; exact Blk.alloc (Blk.new_at rfl) _
 have k1 : Blk w1 (w.heap.size + 1) x.cells.toArray 65 := by rw [← hw1]; exact Blk.new_at (by simp)
 have c0 := k0.cell (k := 0) (v := .string x.name) rfl; have c1 := k1.cell (k := 0) (v := .string x.name) rfl
 unfold Off.cells at hw1 ⊢
 clear hR k0 k1
 go_enter Tryz.func114, Tryz.ntmps114
 go_wp2
 first
 | exact HR.out
 | (have e : (x.name == x.name) = true := by simp
    simpa [e] using HR.out)
set_option maxRecDepth 100000 in
set_option maxHeartbeats 1000000 in
theorem equalOff_c (p : Option Addr) (c c2 : Nat) (l : List Off) (w : World) (R) (hA : OffsAt w p l) (hn : ∀ x ∈ l, x.name.size ≤ maxLen) (hl : l.length ≤ 1000) (hR : ∀ w', Below w.heap.size w w' → R (.returned (.bool true)) w') :
  Calls Tryz.prog 113 #[.slice p l.length c, .slice p l.length c2, .func (.func 114) #[] #[]] w R := by
 have HR := hide hR; have HA := hide hA; have Hn := hide hn
 have eg := enters_of Tryz.func114 (by kernel_rfl) rfl
 clear hR hA hn
 go_enter Tryz.func113, Tryz.ntmps113
 go_wp2
 go_loopw [17] (fun si wr => ∃ k : Nat, k ≤ l.length ∧ si = .int .i64 k ∧ Hid (Below w.heap.size w wr)) (fun si _ => l.length - (intOf si).toNat)
 case atStart => exact ⟨0, Nat.zero_le _, rfl, hide (Below.refl _ _)⟩
 case round =>
  obtain ⟨k, hk, rfl, HB⟩ := hrel
  by_cases hlt : k < l.length
  ·obtain ⟨b2, o2, x, hp2, hx, hcell⟩ := (HA.out.keep (Keeps.of_below HB.out)).at_ hlt
   have m0 : wr.cell? ⟨b2, o2 + k * 7, none⟩ = some (.string x.name) := hcell 0 _ rfl; have m1 := hcell 1 _ rfl; have m2 := hcell 2 _ rfl; have m3 := hcell 3 _ rfl; have m4 := hcell 4 _ rfl; have m5 := hcell 5 _ rfl; have m6 := hcell 6 _ rfl
   obtain ⟨w1, hw1⟩ : ∃ w1, wr.alloc (.cells x.cells.toArray 65) = w1 := ⟨_, rfl⟩
   have hb1 : Below wr.heap.size wr w1 := hw1 ▸ balloc (Below.refl _ _) _
   have k0 : Blk w1 wr.heap.size x.cells.toArray 65 := hw1 ▸ Blk.new _ _ _
   have m0' := cell_later hb1 m0; have m1' := cell_later hb1 m1; have m2' := cell_later hb1 m2; have m3' := cell_later hb1 m3; have m4' := cell_later hb1 m4; have m5' := cell_later hb1 m5; have m6' := cell_later hb1 m6
   obtain ⟨w2, hw2⟩ : ∃ w2, w1.alloc (.cells x.cells.toArray 65) = w2 := ⟨_, rfl⟩
   have hb2 : Below wr.heap.size wr w2 := hw2 ▸ balloc hb1 _
   have k1 : Blk w2 wr.heap.size x.cells.toArray 65 := hw2 ▸ k0.alloc _
   have k2 : Blk w2 w1.heap.size x.cells.toArray 65 := hw2 ▸ Blk.new _ _ _
   have n0 := k1.cell (k := 0) (v := .string x.name) rfl; have n1 := k1.cell (k := 1) (v := .int .i64 x.operator) rfl; have n2 := k1.cell (k := 2) (v := .int .i64 x.calendar) rfl; have n3 := k1.cell (k := 3) (v := .int .i64 x.pockets) rfl; have n4 := k1.cell (k := 4) (v := .int .i64 x.passes) rfl; have n5 := k1.cell (k := 5) (v := .int .i64 x.minutes) rfl; have n6 := k1.cell (k := 6) (v := .slice x.cp x.codes.length x.cc) rfl
   have r0 := k2.cell (k := 0) (v := .string x.name) rfl; have r1 := k2.cell (k := 1) (v := .int .i64 x.operator) rfl; have r2 := k2.cell (k := 2) (v := .int .i64 x.calendar) rfl; have r3 := k2.cell (k := 3) (v := .int .i64 x.pockets) rfl; have r4 := k2.cell (k := 4) (v := .int .i64 x.passes) rfl; have r5 := k2.cell (k := 5) (v := .int .i64 x.minutes) rfl; have r6 := k2.cell (k := 6) (v := .slice x.cp x.codes.length x.cc) rfl
   have HB2 := hide (bseq HB.out hb2)
   have HX := hide (Hn.out x (List.mem_of_getElem? hx))
   have q1 : (0 : Int) ≤ (k : Int) := by omega
   have q2 : (k : Int) < (l.length : Int) := by omega
   have Hlt := hide hlt
   have Hp := hide hp2
   rw [hp2]
   unfold Off.cells at hw1 hw2
   clear hcell hx k0 k1 k2 hb1 hb2 hp2
   go_wp2_with (go_at_call 114; refine Stop.out ?_)
   refine Stop.go (alike1_c x w2 _ HX.out ?_)
   intro w3 hb
   have HB3 := hide (bseq HB2.out hb)
   clear hb n0 n1 n2 n3 n4 n5 n6 r0 r1 r2 r3 r4 r5 r6 m0 m1 m2 m3 m4 m5 m6 m0' m1' m2' m3' m4' m5' m6' hw1 hw2
   go_wp2
   go_roundw
   case rel => exact ⟨k + 1, Hlt.out, by go_num, HB3⟩
   case measure => have := Hlt.out; simp [intOf]; omega
  ·have q1 : ¬ (k : Int) < (l.length : Int) := by omega
   have HE := hide (HR.out _ HB.out)
   go_wp2
   exact HE.out
set_option maxRecDepth 100000 in
set_option maxHeartbeats 1000000 in
theorem alike_c (N M : Net) (gn gm : Nat) (w : World) (R) (h1 : Blk w gn N.cells 29) (h2 : Blk w gm M.cells 29) (hN : NetAt w N) (hp : M.fp = N.fp) (ho : M.offs = N.offs) (hl : N.offs.length ≤ 1000) (hR : ∀ w', Below w.heap.size w w' → R (.returned (.bool true)) w') :
  Calls Tryz.prog 44 #[.pointer (some ⟨gn, 0, none⟩), .pointer (some ⟨gm, 0, none⟩)] w R := by
 have HR := hide hR; have HN := hide hN
 have y := h1.net6.2.2.2.1
 have z := h2.net6.2.2.2.1
 rw [hp, ho] at z
 have KB : Hid (∀ W', Below w.heap.size w W' → W'.cell? ⟨gn, 3, none⟩ = some (.slice N.fp N.offs.length N.fc) ∧ W'.cell? ⟨gm, 3, none⟩ = some (.slice N.fp N.offs.length M.fc)) := hide (fun W' hb => ⟨cell_later hb y, cell_later hb z⟩)
 clear hR hN h1 h2 y z
 go_enter Tryz.func44, Tryz.ntmps44
 go_wp2
 go_region_held3 (fun W' => W'.cell? ⟨gn, 3, none⟩ = some (.slice N.fp N.offs.length N.fc) ∧ W'.cell? ⟨gm, 3, none⟩ = some (.slice N.fp N.offs.length M.fc))
  (first | exact KB.out _ (Below.refl _ _).drew | exact KB.out _ hbb)
  (first
  | (go_at_call 113
     refine equalOff_c N.fp N.fc M.fc N.offs _ _ (HN.out.next (Below.refl _ _).drew).offs (fun x hx => (HN.out.off x hx).name) hl (fun W' hb => ?_)
     have hbb : Below w.heap.size w W' := bseq (Below.refl _ _).drew hb))
 have HF := hide (HR.out _ hbb)
 clear hbb hb KB
 go_wp2
 exact HF.out
end
section
open Go.RowKit Go.Shelf
attribute [local go_sem] Oper.semAt_some run_store_func
set_option maxRecDepth 100000 in
set_option maxHeartbeats 1000000 in
theorem usable1_c (N : Net) (gn g h o : Nat) (x : Int) (w : World) (R) (hN : NetAt w N) (hg : Blk w gn N.cells 29) (hb : Blk w g #[.pointer (some ⟨gn, 0, none⟩)] 102) (ho : Blk w h #[.int .i64 (o : Int)] 3) (hx : x = -1 ∨ (0 ≤ x ∧ x < N.lins.length ∧ (linOf N x).src = o)) (hR : ∀ w', Below w.heap.size w w' → R (.returned (.bool false)) w') :
  Calls Tryz.prog 116 #[.int .i64 x, .pointer (some ⟨g, 0, none⟩), .pointer (some ⟨h, 0, none⟩)] w R := by
 have HR := hide hR
 have x0 := hb.cell (k := 0) (v := .pointer (some ⟨gn, 0, none⟩)) rfl
 have x1 := ho.cell (k := 0) (v := .int .i64 (o : Int)) rfl
 have y4 := hg.net6.2.2.2.2.1
 clear hR hb hg ho
 rcases hx with rfl | ⟨h1, h2, h3⟩
 ·go_enter Tryz.func116, Tryz.ntmps116
  go_wp2
  go_quiet (fail)
  go_wp2
  exact HR.out _ (below_drewN' (Below.refl _ _) _)
 ·obtain ⟨i, rfl⟩ : ∃ i : Nat, x = (i : Int) := ⟨x.toNat, by omega⟩
  have hi : i < N.lins.length := by omega
  obtain ⟨b1, o1, l, hp1, hl', hlr, l0, l1, l2, l3, l4, l5⟩ := hN.lin_ hi
  have hls : l.src = (o : Int) := by rw [← h3]; unfold linOf; rw [show ((i : Int)).toNat = i by omega, getD_some hl']
  rw [hls] at l1
  rw [hp1] at y4
  have t2 : ((i : Int) != (-1 : Int)) = true := by simp
  have q5 : (0 : Int) ≤ (i : Int) := by omega
  have q6 : (i : Int) < (N.lins.length : Int) := by omega
  have Hi := hide hi
  clear hl' hlr l0 l2 l3 l4 l5 hls h3 h1 h2 hi
  go_enter Tryz.func116, Tryz.ntmps116
  go_wp2
  go_quiet ((go_at_call 117; refine tinside_yes i N.lins.length Hi.out _ _ ⟨rfl, _, rfl⟩))
  go_wp2
  exact HR.out _ (below_drewN' (Below.refl _ _) _)
set_option maxRecDepth 100000 in
set_option maxHeartbeats 1000000 in
theorem idxNone_c (n : Nat) (f : FuncId) (lb : Array Value) (M : Nat → Int) (b o c : Nat) (w : World) (R) (hn : n ≤ 1000) (hM : ∀ j, j < n → w.cell? ⟨b, o + j, none⟩ = some (.int .i64 (M j))) (eg : ∀ args w, (callFunc f args).run Tryz.prog w = .ok (.enter f args) w)
  (ht : ∀ j W, j < n → Below w.heap.size w W → ∀ R, (∀ W', Below W.heap.size W W' → R (.returned (.bool false)) W') → Calls Tryz.prog f (#[.int .i64 (M j)] ++ lb) W R)
  (hR : ∀ w', Below w.heap.size w w' → R (.returned (.int .i64 (-1))) w') :
  Calls Tryz.prog 184 #[.slice (some ⟨b, o, none⟩) n c, .func (.func f) #[] lb] w R := by
 have HR := hide hR; have HM := hide hM; have HT := hide ht
 clear hR hM ht
 go_enter Tryz.func184, Tryz.ntmps184
 go_wp2
 go_loopw [8] (fun si wr => ∃ k : Nat, k ≤ n ∧ si = .int .i64 k ∧ Hid (Below w.heap.size w wr)) (fun si _ => n - (intOf si).toNat)
 case atStart => exact ⟨0, Nat.zero_le _, rfl, hide (Below.refl _ _)⟩
 case round =>
  obtain ⟨k, hk, rfl, HB⟩ := hrel
  by_cases hlt : k < n
  ·have c0 := cell_later HB.out (HM.out k hlt)
   have q1 : (0 : Int) ≤ (k : Int) := by omega
   have q2 : (k : Int) < (n : Int) := by omega
   have HK := hide (HT.out k wr hlt HB.out)
   go_wp2
   refine HK.out _ (fun W' hb => ?_)
   have HB2 := hide (bseq HB.out hb)
   clear hb c0
   go_wp2
   go_roundw
   case rel => exact ⟨k + 1, by omega, by go_num, HB2⟩
   case measure => simp [intOf]; omega
  ·have q1 : ¬ (k : Int) < (n : Int) := by omega
   have HE := hide (HR.out _ HB.out)
   go_wp2
   exact HE.out
theorem contNone_c (n : Nat) (f : FuncId) (lb : Array Value) (M : Nat → Int) (b o c : Nat) (w : World) (R) (hn : n ≤ 1000) (hM : ∀ j, j < n → w.cell? ⟨b, o + j, none⟩ = some (.int .i64 (M j))) (eg : ∀ args w, (callFunc f args).run Tryz.prog w = .ok (.enter f args) w)
  (ht : ∀ j W, j < n → Below w.heap.size w W → ∀ R, (∀ W', Below W.heap.size W W' → R (.returned (.bool false)) W') → Calls Tryz.prog f (#[.int .i64 (M j)] ++ lb) W R)
  (hR : ∀ w', Below w.heap.size w w' → R (.returned (.bool false)) w') :
  Calls Tryz.prog 118 #[.slice (some ⟨b, o, none⟩) n c, .func (.func f) #[] lb] w R := by
 have HR := hide hR; have HM := hide hM; have HT := hide ht
 clear hR hM ht
 go_enter Tryz.func118, Tryz.ntmps118
 go_wp2_with (go_at_call 184; refine Stop.out ?_)
 refine Stop.go (idxNone_c n f lb M b o c w _ hn HM.out eg HT.out ?_)
 intro w' hb
 have HF := hide (HR.out w' hb)
 clear hb
 go_wp2
 exact HF.out
set_option maxRecDepth 100000 in
set_option maxHeartbeats 1000000 in
theorem tUsable_c (N : Net) (P : Pln) (nx : Mat) (gn gp : Nat) (w : World) (R) (hk : KwAt w) (hg : Blk w gn N.cells 29) (hp : Blk w gp P.cells.toArray 39) (hN : NetAt w N) (hS : soundB N = true) (hM : MatAt w P.np N.offs.length nx) (hF : Formed N nx) (hnn : P.nn = N.offs.length)
  (hR : ∀ w', Below w.heap.size w w' → R (.returned (.bool true)) w') :
  Calls Tryz.prog 45 #[.pointer (some ⟨gn, 0, none⟩), .pointer (some ⟨gp, 0, none⟩)] w R := by
 have hmf : ∀ (fn : Fn) (first cap : Array Value) (w : World), (Instr.makeFunc fn first cap).run Tryz.prog w = .ok (.func fn first cap) w := fun _ _ _ _ => rfl
 obtain ⟨w1, hw1⟩ : ∃ w1, w.alloc (.cells #[.pointer (some ⟨gn, 0, none⟩)] 102) = w1 := ⟨_, rfl⟩
 have hb1 : Below w.heap.size w w1 := hw1 ▸ balloc (Below.refl _ _) _
 have kb : Blk w1 w.heap.size #[.pointer (some ⟨gn, 0, none⟩)] 102 := hw1 ▸ Blk.new _ _ _
 have HR := hide hR; have HN := hide (hN.next hb1); have HM := hide (hM.next hb1); have HF := hide hF; have HG := hide (hg.next hb1); have HP := hide (hp.next hb1); have HKw := hide (hk.next hb1); have HS := hide hS; have HB1 := hide hb1; have HKb := hide kb
 have hno := (snd_of hS).noff
 obtain ⟨y0, y1, y2, y3, y4, y5⟩ := (hg.next hb1).net6
 have x0 := kb.cell (k := 0) (v := .pointer (some ⟨gn, 0, none⟩)) rfl
 have p2 := (hp.next hb1).cell (k := 2) (v := .slice P.np P.nn P.nc) rfl
 rw [hnn] at p2
 have KB : Hid (∀ W', Below w1.heap.size w1 W' → W'.cell? ⟨w.heap.size, 0, none⟩ = some (.pointer (some ⟨gn, 0, none⟩)) ∧ W'.cell? ⟨gn, 0, none⟩ = some (.slice N.cp N.cals.length N.cc) ∧ W'.cell? ⟨gn, 1, none⟩ = some (.slice N.np N.names.length N.nc) ∧ W'.cell? ⟨gn, 2, none⟩ = some (.slice N.op N.oprs.length N.oc) ∧ W'.cell? ⟨gn, 3, none⟩ = some (.slice N.fp N.offs.length N.fc) ∧ W'.cell? ⟨gn, 4, none⟩ = some (.slice N.lp N.lins.length N.lc) ∧ W'.cell? ⟨gn, 5, none⟩ = some (.slice N.kp N.clss.length N.kc) ∧ W'.cell? ⟨gp, 2, none⟩ = some (.slice P.np N.offs.length P.nc)) :=
  hide (fun W' hb => ⟨cell_later hb x0, cell_later hb y0, cell_later hb y1, cell_later hb y2, cell_later hb y3, cell_later hb y4, cell_later hb y5, cell_later hb p2⟩)
 clear hR hk hg hp hN hS hM hF hb1 kb x0 p2 y0 y1 y2 y3 y4 y5
 go_enter Tryz.func45, Tryz.ntmps45
 go_wp2
 clear hw1
 go_region_held3 (fun W' => W'.cell? ⟨w.heap.size, 0, none⟩ = some (.pointer (some ⟨gn, 0, none⟩)) ∧ W'.cell? ⟨gn, 0, none⟩ = some (.slice N.cp N.cals.length N.cc) ∧ W'.cell? ⟨gn, 1, none⟩ = some (.slice N.np N.names.length N.nc) ∧ W'.cell? ⟨gn, 2, none⟩ = some (.slice N.op N.oprs.length N.oc) ∧ W'.cell? ⟨gn, 3, none⟩ = some (.slice N.fp N.offs.length N.fc) ∧ W'.cell? ⟨gn, 4, none⟩ = some (.slice N.lp N.lins.length N.lc) ∧ W'.cell? ⟨gn, 5, none⟩ = some (.slice N.kp N.clss.length N.kc) ∧ W'.cell? ⟨gp, 2, none⟩ = some (.slice P.np N.offs.length P.nc))
  (first | exact KB.out _ (Below.refl _ _).drew | exact KB.out _ hbb)
  (first
  | (go_at_call 115
     refine check_c N _ _ (HKw.out.next (Below.refl _ _).drew) (HN.out.next (Below.refl _ _).drew) (fun W' pf n cap hb h0 _ => ?_)
     have hn0 : n = 0 := h0.2 HS.out
     subst hn0
     have hbb : Below w1.heap.size w1 W' := bseq (Below.refl _ _).drew hb
     clear h0))
 have HB2 := hide hbb
 have p2 := (KB.out _ hbb).2.2.2.2.2.2.2
 clear hbb hb
 go_wp2
 clear p2
 go_loopw [32] (fun si wr => ∃ k : Nat, k ≤ N.offs.length ∧ si = .int .i64 k ∧ Hid (Below w1.heap.size w1 wr)) (fun si _ => N.offs.length - (intOf si).toNat)
 case atStart => exact ⟨0, Nat.zero_le _, rfl, HB2⟩
 case round =>
  clear HB2
  obtain ⟨k, hk, rfl, HB⟩ := hrel
  by_cases hlt : k < N.offs.length
  ·obtain ⟨b, bo, b', o', c', hnp, hrw, hcl⟩ := HM.out k hlt
   have m0 := cell_later HB.out hrw
   have Hcl := hide hcl
   obtain ⟨w2, hw2⟩ : ∃ w2, wr.alloc (.cells #[.int .i64 (k : Int)] 3) = w2 := ⟨_, rfl⟩
   have hb2 : Below wr.heap.size wr w2 := hw2 ▸ balloc (Below.refl _ _) _
   have HKo : Hid (Blk w2 wr.heap.size #[.int .i64 (k : Int)] 3) := hide (hw2 ▸ Blk.new _ _ _)
   have HB2 := hide (bseq HB.out hb2)
   obtain ⟨x0, y0, y1, y2, y3, y4, y5, p2⟩ := KB.out _ HB2.out
   have q1 : (0 : Int) ≤ (k : Int) := by omega
   have q2 : (k : Int) < (N.offs.length : Int) := by omega
   have Hlt := hide hlt
   rw [hnp]
   clear hrw hcl hnp hb2 y0 y1 y2 y4 y5 p2
   go_wp2_with (go_at_call 118; refine Stop.out ?_)
   refine Stop.go (contNone_c N.offs.length 116 _ (nx k) b' o' c' _ _ (by omega) (fun j hj => cell_later HB2.out (Hcl.out j hj)) (enters_of Tryz.func116 (by kernel_rfl) rfl) ?_ ?_)
   ·intro j W hj hb R' hR'
    have hbW := bseq HB2.out hb
    exact usable1_c N gn w.heap.size wr.heap.size k (nx k j) W R' (HN.out.next hbW) (HG.out.next hbW) (HKb.out.next hbW) (HKo.out.next hb) (HF.out k j Hlt.out hj) hR'
   intro W' hb
   have HB3 := hide (bseq HB2.out hb)
   clear hb x0 y3 m0 hw2
   go_wp2
   go_roundw
   case rel => exact ⟨k + 1, Hlt.out, by go_num, HB3⟩
   case measure => have := Hlt.out; simp [intOf]; omega
  ·have q1 : ¬ (k : Int) < (N.offs.length : Int) := by omega
   have HE := hide (HR.out _ (bseq HB1.out HB.out))
   go_wp2
   exact HE.out
end
section
open Go.RowKit Go.Shelf
attribute [local go_sem] Oper.semAt_some run_store_func
theorem walkF_err0 {N : Net} {next : Mat} {tt : Nat} : ∀ (k o : Nat) (t e : Int), walkF N next tt k o t = .error e → e ≠ 0 := by
 intro k
 induction k with
 | zero =>
  intro o t e h
  rw [walkF] at h
  split at h
  ·cases h
  ·split at h
   ·injection h with h; omega
   ·split at h
    ·rename_i x hx; injection h with h; subst h; exact departF_ne0 hx
    ·injection h with h; omega
 | succ k ih =>
  intro o t e h
  rw [walkF] at h
  split at h
  ·cases h
  ·split at h
   ·injection h with h; omega
   ·split at h
    ·rename_i x hx; injection h with h; subst h; exact departF_ne0 hx
    ·split at h
     ·rename_i x hx; injection h with h; subst h; exact ih _ _ _ hx
     ·cases h
theorem wayF_err0 {N : Net} {nx : Mat} {o tt : Nat} {t e : Int} (h : wayF N nx o tt t = .error e) : e ≠ 0 := by
 unfold wayF at h
 split at h
 ·exact walkF_err0 _ _ _ _ h
 ·injection h with h; omega
set_option maxRecDepth 100000 in
set_option maxHeartbeats 1000000 in
theorem tWay_c (N : Net) (P : Pln) (nx : Mat) (o tt : Nat) (t : Int) (w : World) (R : Ending → World → Prop) (hk : KwAt w) (hN : NetAt w N) (hS : soundB N = true) (hM : MatAt w P.np N.offs.length nx) (hF : Formed N nx) (hnn : P.nn = N.offs.length) (ho : o < N.offs.length) (htt : tt < N.offs.length)
  (hok : ∀ l w' g cap, wayF N nx o tt t = .ok l → Below w.heap.size w w' → w'.ownsRow w.heap.size 53 4 (.slice (some ⟨g, 0, none⟩) l.length cap) l.length (l.flatMap Stp.cells) → R (.returned (.slice (some ⟨g, 0, none⟩) l.length cap)) w')
  (her : ∀ e w', wayF N nx o tt t = .error e → Below w.heap.size w w' → R (.panicked [{ v := .iface 43 (.int .i64 e), recovered := false }]) w') :
  Calls Tryz.prog 50 #[.agg N.cells, .agg P.cells.toArray, .int .i64 (o : Int), .int .i64 (tt : Int), .int .i64 t] w R := by
 obtain ⟨w1, hw1⟩ : ∃ w1, (w.alloc (.cells N.cells 29)).alloc (.cells P.cells.toArray 39) = w1 := ⟨_, rfl⟩
 have hb1 : Below w.heap.size w w1 := hw1 ▸ balloc (balloc (Below.refl _ _) _) _
 have k0 : Blk w1 w.heap.size N.cells 29 := by rw [← hw1]; exact Blk.alloc (Blk.new_at rfl) _
 have k1 : Blk w1 (w.heap.size + 1) P.cells.toArray 39 := by rw [← hw1]; exact Blk.new_at (by simp)
 have HOk := hide hok; have HEr := hide her; have HN := hide (hN.next hb1); have HM := hide (hM.next hb1); have HF := hide hF; have HK := hide (hk.next hb1); have HS := hide hS; have HB1 := hide hb1
 obtain ⟨y0, y1, y2, y3, y4, y5⟩ := k0.net6
 have p2 := k1.cell (k := 2) (v := .slice P.np P.nn P.nc) rfl
 rw [hnn] at p2
 unfold Net.cells Pln.cells at hw1
 clear hnn hok her hN hM hF hk hS hb1 k0 k1
 unfold Net.cells Pln.cells
 go_enter Tryz.func50, Tryz.ntmps50
 go_wp2_with (go_at_call 13; refine Stop.out ?_)
 clear hw1
 refine Stop.go (pWay_c N P.np P.nc nx o tt t w1 _ HK.out HN.out HS.out HM.out HF.out ho htt ?_ ?_)
 ·intro l w' g cap hl hb hrow
  have HE := hide (HOk.out l w' g cap hl (bseq HB1.out hb) (own_mono hrow HB1.out.size))
  clear hl hb hrow y0 y1 y2 y3 y4 y5 p2
  go_wp2
  exact HE.out
 ·intro e w' hl hb
  have he := wayF_err0 hl
  have t1 : (e != (0 : Int)) = true := by simpa using he
  have HE := hide (HEr.out e w' hl (bseq HB1.out hb))
  clear hl hb y0 y1 y2 y3 y4 y5 p2 he
  go_wp2
  exact ⟨rfl, HE.out⟩
theorem placeAt1_c (s : Stp) (g : Nat) (time : Int) (w : World) (R) (hb : Blk w g #[.int .i64 time] 3) (hR : ∀ w', Below w.heap.size w w' → R (.returned (.bool (placeP time s))) w') :
  Calls Tryz.prog 121 #[.agg s.cells.toArray, .pointer (some ⟨g, 0, none⟩)] w R := by
 obtain ⟨w1, hw1⟩ : ∃ w1, w.alloc (.cells s.cells.toArray 53) = w1 := ⟨_, rfl⟩
 have hb1 : Below w.heap.size w w1 := hw1 ▸ balloc (Below.refl _ _) _
 have k0 : Blk w1 w.heap.size s.cells.toArray 53 := hw1 ▸ Blk.new _ _ _
 have HR := hide (hR w1 hb1)
 have c2 := k0.cell (k := 2) (v := .int .i64 s.depart) rfl; have c3 := k0.cell (k := 3) (v := .int .i64 s.line) rfl
 have t0 := (hb.next hb1).cell (k := 0) (v := .int .i64 time) rfl
 obtain ⟨so, sa, sd, sl⟩ := s
 simp only at c2 c3
 unfold placeP at HR
 unfold Stp.cells at hw1 ⊢
 simp only at hw1 HR ⊢
 clear hR hb hb1 k0
 by_cases h1 : sl = -1
 ·have e1 : (sl == (-1 : Int)) = true := by simpa using h1
  rw [decide_eq_true h1, Bool.true_or] at HR
  clear h1
  go_enter Tryz.func121, Tryz.ntmps121
  go_wp2
  exact HR.out
 ·have e1 : (sl == (-1 : Int)) = false := by simpa using h1
  rw [decide_eq_false h1, Bool.false_or] at HR
  clear h1
  go_enter Tryz.func121, Tryz.ntmps121
  go_wp2
  exact HR.out
theorem findIdx_step {p : Stp → Bool} {l : List Stp} {k : Nat} (h : k ≤ l.findIdx p) (hk : k < l.length) (hp : p l[k] = false) : k + 1 ≤ l.findIdx p := by
 rcases Nat.lt_or_ge k (l.findIdx p) with h1 | h1
 ·omega
 ·have : l.findIdx p = k := by omega
  have h2 := List.findIdx_getElem (w := by omega) (xs := l) (p := p)
  simp only [this] at h2
  rw [h2] at hp; cases hp
set_option maxRecDepth 100000 in
set_option maxHeartbeats 1000000 in
theorem idxStop_c (l : List Stp) (p : Option Addr) (c g : Nat) (time : Int) (w : World) (R) (hl : l.length ≤ 1000) (hA : EncAt 4 Stp.cells w p l) (hb : Blk w g #[.int .i64 time] 3) (hf : placeF l time < l.length)
  (hR : ∀ w', Below w.heap.size w w' → R (.returned (.int .i64 (placeF l time))) w') :
  Calls Tryz.prog 120 #[.slice p l.length c, .func (.func 121) #[] #[.pointer (some ⟨g, 0, none⟩)]] w R := by
 have HR := hide hR; have HA := hide hA; have Hb := hide hb; have Hf := hide hf
 have eg := enters_of Tryz.func121 (by kernel_rfl) rfl
 clear hR hA hb hf
 go_enter Tryz.func120, Tryz.ntmps120
 go_wp2
 go_loopw [8] (fun si wr => ∃ k : Nat, k ≤ placeF l time ∧ si = .int .i64 k ∧ Hid (Below w.heap.size w wr)) (fun si _ => l.length - (intOf si).toNat)
 case atStart => exact ⟨0, Nat.zero_le _, rfl, hide (Below.refl _ _)⟩
 case round =>
  obtain ⟨k, hk, rfl, HB⟩ := hrel
  have hlt : k < l.length := by have := Hf.out; omega
  obtain ⟨b, o, x, hp, hx, hcell⟩ := (HA.out.keep (Keeps.of_below HB.out)).at_ hlt
  have m0 : wr.cell? ⟨b, o + k * 4, none⟩ = some (.int .i64 x.office) := hcell 0 _ rfl; have m1 := hcell 1 _ rfl; have m2 := hcell 2 _ rfl; have m3 := hcell 3 _ rfl
  have hxe : l[k] = x := by rw [List.getElem?_eq_getElem hlt] at hx; injection hx
  have q1 : (0 : Int) ≤ (k : Int) := by omega
  have q2 : (k : Int) < (l.length : Int) := by omega
  have Hk := hide hk; have Hlt := hide hlt
  have HS : Hid (placeP time x = true → placeF l time = k) := hide (fun h => by
   rcases Nat.lt_or_ge k (placeF l time) with h1 | h1
   ·have := List.not_of_lt_findIdx (p := placeP time) (xs := l) h1
    rw [hxe, h] at this; simp at this
   ·omega)
  have HN : Hid (placeP time x = false → k + 1 ≤ placeF l time) := hide (fun h => findIdx_step hk hlt (by rw [hxe]; exact h))
  rw [hp]
  clear hcell hx hk hlt hxe hp
  go_wp2_with (go_at_call 121; refine Stop.out ?_)
  refine Stop.go (placeAt1_c x g time wr _ (Hb.out.next HB.out) ?_)
  intro w' hb'
  have HB2 := hide (bseq HB.out hb')
  clear hb' m0 m1 m2 m3
  cases hpp : placeP time x with
  | true =>
   have HE := hide (HR.out _ HB2.out)
   rw [HS.out hpp] at HE
   clear hpp
   go_wp2
   exact HE.out
  | false =>
   have Hn2 := hide (HN.out hpp)
   clear hpp
   go_wp2
   go_roundw
   case rel => exact ⟨k + 1, Hn2.out, by go_num, HB2⟩
   case measure => have := Hlt.out; simp [intOf]; omega
theorem placeAt_c (l : List Stp) (p : Option Addr) (c : Nat) (time : Int) (w : World) (R) (hl : l.length ≤ 1000) (hA : EncAt 4 Stp.cells w p l) (hf : placeF l time < l.length)
  (hR : ∀ w', Below w.heap.size w w' → R (.returned (.int .i64 (placeF l time))) w') :
  Calls Tryz.prog 51 #[.slice p l.length c, .int .i64 time] w R := by
 have hmf : ∀ (fn : Fn) (first cap : Array Value) (w : World), (Instr.makeFunc fn first cap).run Tryz.prog w = .ok (.func fn first cap) w := fun _ _ _ _ => rfl
 obtain ⟨w1, hw1⟩ : ∃ w1, w.alloc (.cells #[.int .i64 time] 3) = w1 := ⟨_, rfl⟩
 have hb1 : Below w.heap.size w w1 := hw1 ▸ balloc (Below.refl _ _) _
 have k0 : Blk w1 w.heap.size #[.int .i64 time] 3 := hw1 ▸ Blk.new _ _ _
 have HR := hide hR; have HA := hide (hA.keep (Keeps.of_below hb1)); have HB1 := hide hb1; have HK := hide k0; have Hf := hide hf
 clear hR hA hb1 k0 hf
 go_enter Tryz.func51, Tryz.ntmps51
 go_wp2_with (go_at_call 120; refine Stop.out ?_)
 clear hw1
 refine Stop.go (idxStop_c l p c w.heap.size time w1 _ hl HA.out HK.out Hf.out ?_)
 intro w' hb
 have HF := hide (HR.out w' (bseq HB1.out hb))
 clear hb
 go_wp2
 exact HF.out
end
end Go.Proofs.YtgfhcmidnbahjaaGreatDoor
