/- Survey: check, for one kind. Survey: the faults of a network other than that offices cannot be reached. -/
import Derived.Test.YtgfhcmidnbahjaaGreatDoorJ9
import Derived.Test.YtgfhcmidnbahjaaGreatDoorJ10
set_option linter.unusedVariables false
set_option linter.unusedSimpArgs false
namespace Go.Proofs.YtgfhcmidnbahjaaGreatDoor
section
open Go.RowKit
attribute [local go_sem] run_store_func
set_option maxRecDepth 100000 in
set_option maxHeartbeats 8000000 in
theorem checkCls_c (N : Net) (gn : Nat) (w : World) (R) (hk : KwAt w) (hB : Blk w gn N.cells 29) (hN : NetAt w N)
  (hR : ∀ w' v xs, Below w.heap.size w w' → w'.ownsRow w.heap.size 238 3 v (kindN 4 N.clss.length (clsNm N) (clsGd N)) xs → (∀ u ∈ xs, u.oneCell' = true) → R (.returned v) w') :
  Calls Tryz.prog 240 #[.int .i64 5, .int .i64 4, .slice N.kp N.clss.length N.kc, .func (.func 239) #[] #[.pointer (some ⟨gn, 0, none⟩)], .func (.func 241) #[] #[]] w R := by
 have HR := hide hR; have HK0 := hide hk; have HB0 := hide hB; have HN0 := hide hN
 have hlen := hN.lens
 obtain ⟨w1, hw1⟩ : ∃ w1, (((w.alloc (.cells #[.slice N.kp N.clss.length N.kc] 27)).alloc (.cells #[.func (.func 239) #[] #[.pointer (some ⟨gn, 0, none⟩)]] 145)).alloc (.cells #[.func (.func 241) #[] #[]] 275)).alloc (.cells #[.func (.func 300) #[] #[.pointer (some ⟨w.heap.size + 1, 0, none⟩)], .func (.func 301) #[] #[.pointer (some ⟨w.heap.size + 1, 0, none⟩)], .func (.func 302) #[] #[.pointer (some ⟨w.heap.size + 1 + 1, 0, none⟩), .pointer (some ⟨w.heap.size, 0, none⟩)]] 306) = w1 := ⟨_, rfl⟩
 have hb1 : Below w.heap.size w w1 := hw1 ▸ balloc (balloc (balloc (balloc (Below.refl _ _) _) _) _) _
 have HI := hide (show CkCls w N gn w.heap.size w1 from ⟨hb1, hk.next hb1, hB.next hb1, hN.next hb1, by rw [← hw1]; repeat (first | exact Blk.new_at (by simp) | refine Blk.alloc ?_ _), by rw [← hw1]; repeat (first | exact Blk.new_at (by simp) | refine Blk.alloc ?_ _), by rw [← hw1]; repeat (first | exact Blk.new_at (by simp) | refine Blk.alloc ?_ _), by rw [← hw1]; repeat (first | exact Blk.new_at (by simp) | refine Blk.alloc ?_ _)⟩)
 have x7 : w1.cell? ⟨w.heap.size, 0, none⟩ = some (.slice N.kp N.clss.length N.kc) := HI.out.b7.cell (k := 0) rfl
 obtain ⟨bad, hbad⟩ : ∃ bad, (badAt (clsNm N) (clsGd N)) = bad := ⟨_, rfl⟩
 have HBad := hide hbad
 rw [kindN_eq, hbad] at HR
 have Hlen : Hid (N.clss.length = N.clss.length) := hide rfl
 clear hR hk hB hN hb1 hbad
 obtain ⟨n, hn⟩ : ∃ n, N.clss.length = n := ⟨_, rfl⟩
 have Hn := hide hn
 rw [hn] at hw1 x7 hlen HR ⊢
 obtain ⟨m, hm⟩ : ∃ m, min n 4 = m := ⟨_, rfl⟩
 have Hm := hide hm
 have hm1 : m ≤ n := by omega
 have hm2 : m ≤ 4 := by omega
 have hmin : min (n : Int) 4 = (m : Int) := by omega
 have hn63 : n ≤ 9223372036854775807 := by omega
 rw [hm] at HR
 clear hn hm hlen Hlen
 go_enter Tryz.func240, Tryz.ntmps240
 go_wp2
 clear hmin hw1 x7
 go_loopw [12, 25] (fun v si wr => ∃ (i : Nat) (xs : List Value), i ≤ m ∧ si = .int .i64 i ∧ Hid (CkCls w N gn w.heap.size wr) ∧ Hid (wr.ownsRow w.heap.size 238 3 v (cntB bad i) xs) ∧ Hid (∀ u ∈ xs, u.oneCell' = true)) (fun _ si _ => m - (intOf si).toNat)
 case atStart => exact ⟨0, [], Nat.zero_le _, rfl, HI, hide (World.ownsRow_nil _ _ _ _), hide (by simp)⟩
 case round =>
  clear HI
  obtain ⟨v0, rfl⟩ : ∃ v0, v0 = u12 := ⟨u12, rfl⟩
  obtain ⟨W0, rfl⟩ : ∃ W0, W0 = wr := ⟨wr, rfl⟩
  obtain ⟨i, xs, hi, rfl, HI, HO, HX⟩ := hrel
  have x7 : W0.cell? ⟨w.heap.size, 0, none⟩ = some (.slice N.kp n N.kc) := by rw [← Hn.out]; exact HI.out.b7.cell (k := 0) rfl
  by_cases hlt : i < m
  ·have Hi : Hid (i < N.clss.length) := hide (by rw [Hn.out]; omega)
   have y0 : W0.cell? ⟨w.heap.size + 1 + 1 + 1, 0, none⟩ = some (.func (.func 300) #[] #[.pointer (some ⟨w.heap.size + 1, 0, none⟩)]) := HI.out.b11.cell (k := 0) rfl
   have y1 : W0.cell? ⟨w.heap.size + 1 + 1 + 1, 1, none⟩ = some (.func (.func 301) #[] #[.pointer (some ⟨w.heap.size + 1, 0, none⟩)]) := HI.out.b11.cell (k := 1) rfl
   have y2 : W0.cell? ⟨w.heap.size + 1 + 1 + 1, 2, none⟩ = some (.func (.func 302) #[] #[.pointer (some ⟨w.heap.size + 1 + 1, 0, none⟩), .pointer (some ⟨w.heap.size, 0, none⟩)]) := HI.out.b11.cell (k := 2) rfl
   go_wp2
   clear y0 y1 y2 x7
   go_loopw [12, 29] (fun v sj wq => v = v0 ∧ ∃ j : Nat, j ≤ 3 ∧ sj = .int .i64 j ∧ Hid (0 < j → nameB (clsNm N i) = true) ∧ Hid (1 < j → dupB (clsNm N) i = false) ∧ Hid (2 < j → (clsGd N i) = true) ∧ Hid (CkCls w N gn w.heap.size wq) ∧ Hid (Below W0.heap.size W0 wq)) (fun _ sj _ => 3 - (intOf sj).toNat)
   case atStart => exact ⟨rfl, 0, by decide, rfl, hide (by omega), hide (by omega), hide (by omega), HI, hide (Below.refl _ _)⟩
   case round =>
    clear HI
    obtain ⟨hv0, j, hj, rfl, H1, H2, H3, HJ, HB⟩ := hrel
    obtain rfl : v0 = u12 := hv0.symm
    have HO1 := hide (own_below HO.out HB.out)
    have hcl := cntB_le bad i
    have hj3 : j = 0 ∨ j = 1 ∨ j = 2 ∨ j = 3 := by omega
    rcases hj3 with rfl | rfl | rfl | hlast
    ·have q : Sem.run Tryz.prog (Instr.index 306 (.agg #[.func (.func 300) #[] #[.pointer (some ⟨w.heap.size + 1, 0, none⟩)], .func (.func 301) #[] #[.pointer (some ⟨w.heap.size + 1, 0, none⟩)], .func (.func 302) #[] #[.pointer (some ⟨w.heap.size + 1 + 1, 0, none⟩), .pointer (some ⟨w.heap.size, 0, none⟩)]]) (.int .i64 0)) wr = .ok (.func (.func 300) #[] #[.pointer (some ⟨w.heap.size + 1, 0, none⟩)]) wr := run_index_arr wr (j := 0) undRules (by kernel_rfl) (fun w => by kernel_rfl) (by decide) rfl
     cases hb : nameB (clsNm N i)
     ·go_wp2_with (go_at_call 300; refine Stop.out ?_)
      refine Stop.go (r1Cls_c w N gn w.heap.size i _ _ HJ Hi.out ?_)
      rw [hb]
      intro W' hbw
      have HJ2 := hide (HJ.out.next hbw)
      have HO2 := hide (own_below HO1.out hbw)
      clear hbw q
      obtain ⟨i0, hi0, hz0, hz1, hz2⟩ := info_parts infoFault
      have HT3 := hide (And.intro hi0 (And.intro hz0 (And.intro hz1 hz2)))
      clear hi0 hz0 hz1 hz2
      go_wp2_with (at_builtin; refine Stop.out ?_)
      refine Stop.go ?_
      obtain ⟨hi0, hz0, hz1, hz2⟩ := HT3.out
      refine wpList_app _ rfl (.tmp 37) (.tmp 42) 178 rfl w.heap.size 238 i0 _ 3 24 Tryz.underlying178 hi0 hz0 hz1 hz2 rfl (by omega) v0 (cntB bad i) xs rfl (own_below HO2.out (balloc (Below.refl _ _) _)) _ 1 1 [.int .i64 5, .int .i64 i, .int .i64 1] rfl (Src.lit rfl 3 rfl) (by simp [Value.oneCell']) (by unfold maxLen; omega) (by omega) (Nat.le_trans HJ2.out.below.size (by simp)) ?_
      intro v9 w9 hown hgr
      have HJ9 := hide (CkI.app HK0.out HB0.out HN0.out (HJ2.out.next (balloc (Below.refl _ _) _)) (own_below HO2.out (balloc (Below.refl _ _) _)) hgr (by decide) (by decide))
      have HX9 : Hid (∀ u ∈ xs ++ [.int .i64 5, .int .i64 i, .int .i64 1], u.oneCell' = true) := hide (fun u hu => by rcases List.mem_append.1 hu with hu | hu; exact HX.out u hu; (simp at hu; rcases hu with rfl | rfl | rfl <;> rfl))
      have HO9 := hide hown
      clear hown hgr hi0 hz0 hz1 hz2 HT3
      have hbd : bad i = true := by rw [← HBad.out]; exact bad_1 hb
      have HO10 : Hid (w9.ownsRow w.heap.size 238 3 v9 (cntB bad (i + 1)) (xs ++ [.int .i64 5, .int .i64 i, .int .i64 1])) := hide (by rw [cntB_one hbd]; exact HO9.out)
      clear hbd HO9
      go_wp2
      go_roundw
      case rel => exact ⟨i + 1, _, by omega, by go_num, HJ9, HO10, HX9⟩
      case measure => simp [intOf]; omega
     ·go_wp2_with (go_at_call 300; refine Stop.out ?_)
      refine Stop.go (r1Cls_c w N gn w.heap.size i _ _ HJ Hi.out ?_)
      rw [hb]
      intro W' hbw
      have HJ2 := hide (HJ.out.next hbw)
      have HB2 := hide (bseq HB.out hbw)
      have Hb := hide hb
      clear hbw q hb
      go_wp2
      go_roundw
      case rel => exact ⟨rfl, 1, by omega, by go_num, hide (fun _ => by first | exact Hb.out | trivial), hide (by omega), hide (by omega), HJ2, HB2⟩
      case measure => simp [intOf]
    ·have q : Sem.run Tryz.prog (Instr.index 306 (.agg #[.func (.func 300) #[] #[.pointer (some ⟨w.heap.size + 1, 0, none⟩)], .func (.func 301) #[] #[.pointer (some ⟨w.heap.size + 1, 0, none⟩)], .func (.func 302) #[] #[.pointer (some ⟨w.heap.size + 1 + 1, 0, none⟩), .pointer (some ⟨w.heap.size, 0, none⟩)]]) (.int .i64 1)) wr = .ok (.func (.func 301) #[] #[.pointer (some ⟨w.heap.size + 1, 0, none⟩)]) wr := run_index_arr wr (j := 1) undRules (by kernel_rfl) (fun w => by kernel_rfl) (by decide) rfl
     cases hb : dupB (clsNm N) i
     ·go_wp2_with (go_at_call 301; refine Stop.out ?_)
      refine Stop.go (r2Cls_c w N gn w.heap.size i _ _ HJ Hi.out ?_)
      rw [hb]
      intro W' hbw
      have HJ2 := hide (HJ.out.next hbw)
      have HB2 := hide (bseq HB.out hbw)
      have Hb := hide hb
      clear hbw q hb
      go_wp2
      go_roundw
      case rel => exact ⟨rfl, 2, by omega, by go_num, hide (fun _ => H1.out (by omega)), hide (fun _ => by first | exact Hb.out | trivial), hide (by omega), HJ2, HB2⟩
      case measure => simp [intOf]
     ·go_wp2_with (go_at_call 301; refine Stop.out ?_)
      refine Stop.go (r2Cls_c w N gn w.heap.size i _ _ HJ Hi.out ?_)
      rw [hb]
      intro W' hbw
      have HJ2 := hide (HJ.out.next hbw)
      have HO2 := hide (own_below HO1.out hbw)
      clear hbw q
      obtain ⟨i0, hi0, hz0, hz1, hz2⟩ := info_parts infoFault
      have HT3 := hide (And.intro hi0 (And.intro hz0 (And.intro hz1 hz2)))
      clear hi0 hz0 hz1 hz2
      go_wp2_with (at_builtin; refine Stop.out ?_)
      refine Stop.go ?_
      obtain ⟨hi0, hz0, hz1, hz2⟩ := HT3.out
      refine wpList_app _ rfl (.tmp 37) (.tmp 42) 178 rfl w.heap.size 238 i0 _ 3 24 Tryz.underlying178 hi0 hz0 hz1 hz2 rfl (by omega) v0 (cntB bad i) xs rfl (own_below HO2.out (balloc (Below.refl _ _) _)) _ 1 1 [.int .i64 5, .int .i64 i, .int .i64 4] rfl (Src.lit rfl 3 rfl) (by simp [Value.oneCell']) (by unfold maxLen; omega) (by omega) (Nat.le_trans HJ2.out.below.size (by simp)) ?_
      intro v9 w9 hown hgr
      have HJ9 := hide (CkI.app HK0.out HB0.out HN0.out (HJ2.out.next (balloc (Below.refl _ _) _)) (own_below HO2.out (balloc (Below.refl _ _) _)) hgr (by decide) (by decide))
      have HX9 : Hid (∀ u ∈ xs ++ [.int .i64 5, .int .i64 i, .int .i64 4], u.oneCell' = true) := hide (fun u hu => by rcases List.mem_append.1 hu with hu | hu; exact HX.out u hu; (simp at hu; rcases hu with rfl | rfl | rfl <;> rfl))
      have HO9 := hide hown
      clear hown hgr hi0 hz0 hz1 hz2 HT3
      have hbd : bad i = true := by rw [← HBad.out]; exact bad_2 hb
      have HO10 : Hid (w9.ownsRow w.heap.size 238 3 v9 (cntB bad (i + 1)) (xs ++ [.int .i64 5, .int .i64 i, .int .i64 4])) := hide (by rw [cntB_one hbd]; exact HO9.out)
      clear hbd HO9
      go_wp2
      go_roundw
      case rel => exact ⟨i + 1, _, by omega, by go_num, HJ9, HO10, HX9⟩
      case measure => simp [intOf]; omega
    ·have q : Sem.run Tryz.prog (Instr.index 306 (.agg #[.func (.func 300) #[] #[.pointer (some ⟨w.heap.size + 1, 0, none⟩)], .func (.func 301) #[] #[.pointer (some ⟨w.heap.size + 1, 0, none⟩)], .func (.func 302) #[] #[.pointer (some ⟨w.heap.size + 1 + 1, 0, none⟩), .pointer (some ⟨w.heap.size, 0, none⟩)]]) (.int .i64 2)) wr = .ok (.func (.func 302) #[] #[.pointer (some ⟨w.heap.size + 1 + 1, 0, none⟩), .pointer (some ⟨w.heap.size, 0, none⟩)]) wr := run_index_arr wr (j := 2) undRules (by kernel_rfl) (fun w => by kernel_rfl) (by decide) rfl
     cases hb : (clsGd N i)
     ·go_wp2_with (go_at_call 302; refine Stop.out ?_)
      refine Stop.go (r3Cls_c w N gn w.heap.size i _ _ HJ Hi.out ?_)
      rw [hb]
      intro W' hbw
      have HJ2 := hide (HJ.out.next hbw)
      have HO2 := hide (own_below HO1.out hbw)
      clear hbw q
      obtain ⟨i0, hi0, hz0, hz1, hz2⟩ := info_parts infoFault
      have HT3 := hide (And.intro hi0 (And.intro hz0 (And.intro hz1 hz2)))
      clear hi0 hz0 hz1 hz2
      go_wp2_with (at_builtin; refine Stop.out ?_)
      refine Stop.go ?_
      obtain ⟨hi0, hz0, hz1, hz2⟩ := HT3.out
      refine wpList_app _ rfl (.tmp 37) (.tmp 42) 178 rfl w.heap.size 238 i0 _ 3 24 Tryz.underlying178 hi0 hz0 hz1 hz2 rfl (by omega) v0 (cntB bad i) xs rfl (own_below HO2.out (balloc (Below.refl _ _) _)) _ 1 1 [.int .i64 5, .int .i64 i, .int .i64 1] rfl (Src.lit rfl 3 rfl) (by simp [Value.oneCell']) (by unfold maxLen; omega) (by omega) (Nat.le_trans HJ2.out.below.size (by simp)) ?_
      intro v9 w9 hown hgr
      have HJ9 := hide (CkI.app HK0.out HB0.out HN0.out (HJ2.out.next (balloc (Below.refl _ _) _)) (own_below HO2.out (balloc (Below.refl _ _) _)) hgr (by decide) (by decide))
      have HX9 : Hid (∀ u ∈ xs ++ [.int .i64 5, .int .i64 i, .int .i64 1], u.oneCell' = true) := hide (fun u hu => by rcases List.mem_append.1 hu with hu | hu; exact HX.out u hu; (simp at hu; rcases hu with rfl | rfl | rfl <;> rfl))
      have HO9 := hide hown
      clear hown hgr hi0 hz0 hz1 hz2 HT3
      have hbd : bad i = true := by rw [← HBad.out]; exact bad_3 hb
      have HO10 : Hid (w9.ownsRow w.heap.size 238 3 v9 (cntB bad (i + 1)) (xs ++ [.int .i64 5, .int .i64 i, .int .i64 1])) := hide (by rw [cntB_one hbd]; exact HO9.out)
      clear hbd HO9
      go_wp2
      go_roundw
      case rel => exact ⟨i + 1, _, by omega, by go_num, HJ9, HO10, HX9⟩
      case measure => simp [intOf]; omega
     ·go_wp2_with (go_at_call 302; refine Stop.out ?_)
      refine Stop.go (r3Cls_c w N gn w.heap.size i _ _ HJ Hi.out ?_)
      rw [hb]
      intro W' hbw
      have HJ2 := hide (HJ.out.next hbw)
      have HB2 := hide (bseq HB.out hbw)
      have Hb := hide hb
      clear hbw q hb
      go_wp2
      go_roundw
      case rel => exact ⟨rfl, 3, by omega, by go_num, hide (fun _ => H1.out (by omega)), hide (fun _ => H2.out (by omega)), hide (fun _ => by first | exact Hb.out | trivial), HJ2, HB2⟩
      case measure => simp [intOf]
    ·have hjI : ¬ (j : Int) < 3 := by omega
     have hbd : bad i = false := by rw [← HBad.out]; exact bad_no (H1.out (by omega)) (H2.out (by omega)) (H3.out (by omega))
     have HO10 : Hid (wr.ownsRow w.heap.size 238 3 v0 (cntB bad (i + 1)) xs) := hide (by rw [cntB_none hbd]; exact HO1.out)
     clear hbd hj hlast
     go_wp2
     go_roundw
     case rel => exact ⟨i + 1, xs, by omega, by go_num, HJ, HO10, HX⟩
     case measure => simp [intOf]; omega
  ·have hiI : ¬ (i : Int) < (m : Int) := by omega
   obtain rfl : i = m := by omega
   have hcl := cntB_le bad i
   by_cases hbig : 4 < n
   ·have hbI : (4 : Int) < (n : Int) := by omega
    have HR1 := HR.out
    rw [if_pos hbig] at HR1
    have HR1 := hide HR1
    clear hbig hlt hi
    obtain ⟨i0, hi0, hz0, hz1, hz2⟩ := info_parts infoFault
    have HT3 := hide (And.intro hi0 (And.intro hz0 (And.intro hz1 hz2)))
    clear hi0 hz0 hz1 hz2
    go_wp2_with (at_builtin; refine Stop.out ?_)
    refine Stop.go ?_
    obtain ⟨hi0, hz0, hz1, hz2⟩ := HT3.out
    refine wpList_app _ rfl (.tmp 50) (.tmp 54) 178 rfl w.heap.size 238 i0 _ 3 24 Tryz.underlying178 hi0 hz0 hz1 hz2 rfl (by omega) v0 (cntB bad i) xs rfl (own_below HO.out (balloc (Below.refl _ _) _)) _ 1 1 [.int .i64 5, .int .i64 4, .int .i64 2] rfl (Src.lit rfl 3 rfl) (by simp [Value.oneCell']) (by unfold maxLen; omega) (by omega) (Nat.le_trans HI.out.below.size (by simp)) ?_
    intro v9 w9 hown hgr
    have HJ9 := hide (CkI.app HK0.out HB0.out HN0.out (HI.out.next (balloc (Below.refl _ _) _)) (own_below HO.out (balloc (Below.refl _ _) _)) hgr (by decide) (by decide))
    have HX9 : Hid (∀ u ∈ xs ++ [.int .i64 5, .int .i64 4, .int .i64 2], u.oneCell' = true) := hide (fun u hu => by rcases List.mem_append.1 hu with hu | hu; exact HX.out u hu; (simp at hu; rcases hu with rfl | rfl | rfl <;> rfl))
    have HO9 := hide hown
    clear hown hgr hi0 hz0 hz1 hz2 HT3
    have HF := hide (HR1.out _ _ _ HJ9.out.below HO9.out HX9.out)
    go_wp2
    exact HF.out
   ·have hbI : ¬ (4 : Int) < (n : Int) := by omega
    have HR1 := HR.out
    rw [if_neg hbig] at HR1
    have HF := hide (HR1 _ _ _ HI.out.below HO.out HX.out)
    clear HR1 hbig hlt hi
    go_wp2
    exact HF.out
end
section
open Go.RowKit
attribute [local go_sem] run_store_func
theorem kindN_le (lim len : Nat) (nm : Nat → ByteArray) (good : Nat → Bool) : kindN lim len nm good ≤ lim + 1 := by
 rw [kindN_eq]
 have := cntB_le (badAt nm good) (min len lim)
 split <;> omega
theorem Src.own {w : World} {base e size m c : Nat} {p : Option Addr} {xs : List Value} (h : w.ownsRow base e size (.slice p m c) m xs) : Src w p m size xs := by
 refine ⟨h.1, fun h0 => ?_⟩
 obtain ⟨g, cap, hv, _, _⟩ := own_form h h0
 injection hv with h1 h2 h3
 subst h1
 exact ⟨_, rfl, fun j u hu => h.cells (g := g) rfl j u hu⟩
structure InI (w : World) (N : Net) (v : Value) (n : Nat) (xs : List Value) (W : World) : Prop where
 below : Below w.heap.size w W
 kw : KwAt W
 net : Blk W w.heap.size N.cells 29
 data : NetAt W N
 own : W.ownsRow w.heap.size 238 3 v n xs
 one : ∀ u ∈ xs, u.oneCell' = true
theorem InI.next {w : World} {N : Net} {v : Value} {n : Nat} {xs : List Value} {W W' : World} (h : InI w N v n xs W) (hb : Below W.heap.size W W') : InI w N v n xs W' :=
 ⟨bseq h.below hb, h.kw.next hb, h.net.next hb, h.data.next hb, own_below h.own hb, h.one⟩
theorem InI.app {w : World} {N : Net} {v v' : Value} {n n' : Nat} {xs ys : List Value} {W W' : World} (hk : KwAt w) (hN : NetAt w N) (h : InI w N v n xs W) (hg : W.grownBy W' v.ownBlock) (ho : W'.ownsRow w.heap.size 238 3 v' n' (xs ++ ys)) (hy : ∀ u ∈ ys, u.oneCell' = true) : InI w N v' n' (xs ++ ys) W' := by
 have hb : Below w.heap.size w W' := h.below.grown hg h.below.size (fun k hk => (own_lt h.own hk).1)
 refine ⟨hb, hk.next hb, h.net.grown hg (own_ne_blk h.own h.net (by decide)), hN.next hb, ho, fun u hu => ?_⟩
 rcases List.mem_append.1 hu with hu | hu
 ·exact h.one u hu
 ·exact hy u hu
set_option maxRecDepth 100000 in
set_option maxHeartbeats 8000000 in
theorem incon_c (N : Net) (w : World) (R) (hk : KwAt w) (hN : NetAt w N)
  (hR : ∀ w' v xs, Below w.heap.size w w' → w'.ownsRow w.heap.size 238 3 v (faultsN N) xs → (∀ u ∈ xs, u.oneCell' = true) → R (.returned v) w') : Calls Tryz.prog 182 #[.agg N.cells] w R := by
 have HK := hide hk; have HN := hide hN
 obtain ⟨w1, hw1⟩ : ∃ w1, w.alloc (.cells N.cells 29) = w1 := ⟨_, rfl⟩
 have hb1 : Below w.heap.size w w1 := hw1 ▸ balloc (Below.refl _ _) _
 have HI := hide (show InI w N (.slice none 0 0) 0 [] w1 from ⟨hb1, hk.next hb1, hw1 ▸ Blk.new _ _ _, hN.next hb1, World.ownsRow_nil _ _ _ _, by simp⟩)
 obtain ⟨c0, hc0⟩ : ∃ c0, (if N.names.length = N.cals.length then 0 else 1) = c0 := ⟨_, rfl⟩
 have hc0b : c0 ≤ 1 := by rw [← hc0]; split <;> omega
 obtain ⟨m1, hm1⟩ : ∃ m1, kindN 6 N.cals.length (calNm N) (calGd N) = m1 := ⟨_, rfl⟩
 obtain ⟨m2, hm2⟩ : ∃ m2, kindN 6 N.oprs.length (oprNm N) (fun _ => true) = m2 := ⟨_, rfl⟩
 obtain ⟨m3, hm3⟩ : ∃ m3, kindN 12 N.offs.length (offNm N) (offGd N) = m3 := ⟨_, rfl⟩
 obtain ⟨m4, hm4⟩ : ∃ m4, kindN 40 N.lins.length (linNm N) (linGd N) = m4 := ⟨_, rfl⟩
 obtain ⟨m5, hm5⟩ : ∃ m5, kindN 4 N.clss.length (clsNm N) (clsGd N) = m5 := ⟨_, rfl⟩
 have hb_1 : m1 ≤ 7 := hm1 ▸ kindN_le _ _ _ _
 have hb_2 : m2 ≤ 7 := hm2 ▸ kindN_le _ _ _ _
 have hb_3 : m3 ≤ 13 := hm3 ▸ kindN_le _ _ _ _
 have hb_4 : m4 ≤ 41 := hm4 ▸ kindN_le _ _ _ _
 have hb_5 : m5 ≤ 5 := hm5 ▸ kindN_le _ _ _ _
 rw [show faultsN N = c0 + m1 + m2 + m3 + m4 + m5 by unfold faultsN; rw [hc0, hm1, hm2, hm3, hm4, hm5]] at hR
 have HR := hide hR
 have Hm1 := hide hm1; have Hm2 := hide hm2; have Hm3 := hide hm3; have Hm4 := hide hm4; have Hm5 := hide hm5
 have hlen := hN.lens
 have e1 : (N.names.length : Int) ≤ 9223372036854775807 := by omega
 have e2 : (N.cals.length : Int) ≤ 9223372036854775807 := by omega
 have z0 : w1.cell? ⟨w.heap.size, 0, none⟩ = some (.slice N.cp N.cals.length N.cc) := HI.out.net.cell (k := 0) rfl
 have z1 : w1.cell? ⟨w.heap.size, 1, none⟩ = some (.slice N.np N.names.length N.nc) := HI.out.net.cell (k := 1) rfl
 have HC : Hid (N.names.length = N.cals.length ∧ c0 = 0 ∨ ¬ N.names.length = N.cals.length ∧ c0 = 1) := hide (by rw [← hc0]; split <;> rename_i h; exact .inl ⟨h, rfl⟩; exact .inr ⟨h, rfl⟩)
 clear hR hk hN hb1 hlen hc0 hm1 hm2 hm3 hm4 hm5
 have step : ∀ (v : Value) (xs : List Value) (W : World), InI w N v c0 xs W → Hid (InI w N v c0 xs W) := fun v xs W h => hide h
 rcases HC.out with ⟨hne, rfl⟩ | ⟨hne, rfl⟩
 ·have t1 : ((N.names.length : Int) == (N.cals.length : Int)) = true := by simp; omega
  have t2 : ((N.names.length : Int) != (N.cals.length : Int)) = false := by simp; omega
  clear hne HC step
  go_enter Tryz.func182, Tryz.ntmps182
  go_wp2_with (go_at_call 226; refine Stop.out ?_)
  clear z0 z1 t1 t2
  clear hw1
  have z1x := HI.out.net.cell (k := 0) (v := .slice N.cp N.cals.length N.cc) rfl
  refine Stop.go (checkCal_c N w.heap.size _ _ HI.out.kw HI.out.net HI.out.data ?_)
  rw [Hm1.out]
  intro w12 v12 ys1 hb1 ho1 hy1
  obtain ⟨p1, k1, rfl, _⟩ := own_val ho1
  have HI12 := hide (HI.out.next hb1); have HS1 := hide (Src.own ho1); have HY1 := hide hy1
  obtain ⟨i0, hi0, hz0, hz1, hz2⟩ := info_parts infoFault
  have HT3 := hide (And.intro hi0 (And.intro hz0 (And.intro hz1 hz2)))
  clear hi0 hz0 hz1 hz2 hb1 ho1 hy1 z1x
  go_wp2_with (at_builtin; refine Stop.out ?_)
  refine Stop.go ?_
  obtain ⟨hi0, hz0, hz1, hz2⟩ := HT3.out
  refine wpList_app _ rfl (.tmp 21) (.tmp 25) 178 rfl w.heap.size 238 i0 _ 3 24 Tryz.underlying178 hi0 hz0 hz1 hz2 rfl (by omega) (.slice none 0 0) (0) [] rfl HI12.out.own p1 m1 k1 ys1 rfl HS1.out HY1.out (by unfold maxLen; omega) (by omega) HI12.out.below.size ?_
  intro v13 w13 hown hgr
  have HI13 := hide (InI.app HK.out HN.out HI12.out hgr hown HY1.out)
  clear hown hgr hi0 hz0 hz1 hz2 HT3
  have z2x := HI13.out.net.cell (k := 2) (v := .slice N.op N.oprs.length N.oc) rfl
  go_wp2_with (go_at_call 229; refine Stop.out ?_)
  refine Stop.go (checkOpr_c N w.heap.size _ _ HI13.out.kw HI13.out.net HI13.out.data ?_)
  rw [Hm2.out]
  intro w22 v22 ys2 hb2 ho2 hy2
  obtain ⟨p2, k2, rfl, _⟩ := own_val ho2
  have HI22 := hide (HI13.out.next hb2); have HS2 := hide (Src.own ho2); have HY2 := hide hy2
  obtain ⟨i0, hi0, hz0, hz1, hz2⟩ := info_parts infoFault
  have HT3 := hide (And.intro hi0 (And.intro hz0 (And.intro hz1 hz2)))
  clear hi0 hz0 hz1 hz2 hb2 ho2 hy2 z2x
  go_wp2_with (at_builtin; refine Stop.out ?_)
  refine Stop.go ?_
  obtain ⟨hi0, hz0, hz1, hz2⟩ := HT3.out
  refine wpList_app _ rfl (.tmp 28) (.tmp 32) 178 rfl w.heap.size 238 i0 _ 3 24 Tryz.underlying178 hi0 hz0 hz1 hz2 rfl (by omega) v13 (0 + m1) ([] ++ ys1) rfl HI22.out.own p2 m2 k2 ys2 rfl HS2.out HY2.out (by unfold maxLen; omega) (by omega) HI22.out.below.size ?_
  intro v23 w23 hown hgr
  have HI23 := hide (InI.app HK.out HN.out HI22.out hgr hown HY2.out)
  clear hown hgr hi0 hz0 hz1 hz2 HT3
  have z3x := HI23.out.net.cell (k := 3) (v := .slice N.fp N.offs.length N.fc) rfl
  go_wp2_with (go_at_call 232; refine Stop.out ?_)
  refine Stop.go (checkOff_c N w.heap.size _ _ HI23.out.kw HI23.out.net HI23.out.data ?_)
  rw [Hm3.out]
  intro w32 v32 ys3 hb3 ho3 hy3
  obtain ⟨p3, k3, rfl, _⟩ := own_val ho3
  have HI32 := hide (HI23.out.next hb3); have HS3 := hide (Src.own ho3); have HY3 := hide hy3
  obtain ⟨i0, hi0, hz0, hz1, hz2⟩ := info_parts infoFault
  have HT3 := hide (And.intro hi0 (And.intro hz0 (And.intro hz1 hz2)))
  clear hi0 hz0 hz1 hz2 hb3 ho3 hy3 z3x
  go_wp2_with (at_builtin; refine Stop.out ?_)
  refine Stop.go ?_
  obtain ⟨hi0, hz0, hz1, hz2⟩ := HT3.out
  refine wpList_app _ rfl (.tmp 35) (.tmp 40) 178 rfl w.heap.size 238 i0 _ 3 24 Tryz.underlying178 hi0 hz0 hz1 hz2 rfl (by omega) v23 (0 + m1 + m2) (([] ++ ys1) ++ ys2) rfl HI32.out.own p3 m3 k3 ys3 rfl HS3.out HY3.out (by unfold maxLen; omega) (by omega) HI32.out.below.size ?_
  intro v33 w33 hown hgr
  have HI33 := hide (InI.app HK.out HN.out HI32.out hgr hown HY3.out)
  clear hown hgr hi0 hz0 hz1 hz2 HT3
  have z4x := HI33.out.net.cell (k := 4) (v := .slice N.lp N.lins.length N.lc) rfl
  go_wp2_with (go_at_call 236; refine Stop.out ?_)
  refine Stop.go (checkLin_c N w.heap.size _ _ HI33.out.kw HI33.out.net HI33.out.data ?_)
  rw [Hm4.out]
  intro w42 v42 ys4 hb4 ho4 hy4
  obtain ⟨p4, k4, rfl, _⟩ := own_val ho4
  have HI42 := hide (HI33.out.next hb4); have HS4 := hide (Src.own ho4); have HY4 := hide hy4
  obtain ⟨i0, hi0, hz0, hz1, hz2⟩ := info_parts infoFault
  have HT3 := hide (And.intro hi0 (And.intro hz0 (And.intro hz1 hz2)))
  clear hi0 hz0 hz1 hz2 hb4 ho4 hy4 z4x
  go_wp2_with (at_builtin; refine Stop.out ?_)
  refine Stop.go ?_
  obtain ⟨hi0, hz0, hz1, hz2⟩ := HT3.out
  refine wpList_app _ rfl (.tmp 43) (.tmp 48) 178 rfl w.heap.size 238 i0 _ 3 24 Tryz.underlying178 hi0 hz0 hz1 hz2 rfl (by omega) v33 (0 + m1 + m2 + m3) ((([] ++ ys1) ++ ys2) ++ ys3) rfl HI42.out.own p4 m4 k4 ys4 rfl HS4.out HY4.out (by unfold maxLen; omega) (by omega) HI42.out.below.size ?_
  intro v43 w43 hown hgr
  have HI43 := hide (InI.app HK.out HN.out HI42.out hgr hown HY4.out)
  clear hown hgr hi0 hz0 hz1 hz2 HT3
  have z5x := HI43.out.net.cell (k := 5) (v := .slice N.kp N.clss.length N.kc) rfl
  go_wp2_with (go_at_call 240; refine Stop.out ?_)
  refine Stop.go (checkCls_c N w.heap.size _ _ HI43.out.kw HI43.out.net HI43.out.data ?_)
  rw [Hm5.out]
  intro w52 v52 ys5 hb5 ho5 hy5
  obtain ⟨p5, k5, rfl, _⟩ := own_val ho5
  have HI52 := hide (HI43.out.next hb5); have HS5 := hide (Src.own ho5); have HY5 := hide hy5
  obtain ⟨i0, hi0, hz0, hz1, hz2⟩ := info_parts infoFault
  have HT3 := hide (And.intro hi0 (And.intro hz0 (And.intro hz1 hz2)))
  clear hi0 hz0 hz1 hz2 hb5 ho5 hy5 z5x
  go_wp2_with (at_builtin; refine Stop.out ?_)
  refine Stop.go ?_
  obtain ⟨hi0, hz0, hz1, hz2⟩ := HT3.out
  refine wpList_app _ rfl (.tmp 51) (.tmp 55) 178 rfl w.heap.size 238 i0 _ 3 24 Tryz.underlying178 hi0 hz0 hz1 hz2 rfl (by omega) v43 (0 + m1 + m2 + m3 + m4) (((([] ++ ys1) ++ ys2) ++ ys3) ++ ys4) rfl HI52.out.own p5 m5 k5 ys5 rfl HS5.out HY5.out (by unfold maxLen; omega) (by omega) HI52.out.below.size ?_
  intro v53 w53 hown hgr
  have HI53 := hide (InI.app HK.out HN.out HI52.out hgr hown HY5.out)
  clear hown hgr hi0 hz0 hz1 hz2 HT3
  have HF := hide (HR.out _ _ _ HI53.out.below HI53.out.own HI53.out.one)
  go_wp2
  exact HF.out
 ·have t1 : ((N.names.length : Int) == (N.cals.length : Int)) = false := by simp; omega
  have t2 : ((N.names.length : Int) != (N.cals.length : Int)) = true := by simp; omega
  obtain ⟨i0, hi0, hz0, hz1, hz2⟩ := info_parts infoFault
  have HT3 := hide (And.intro hi0 (And.intro hz0 (And.intro hz1 hz2)))
  clear hne HC step hi0 hz0 hz1 hz2
  go_enter Tryz.func182, Tryz.ntmps182
  go_wp2_with (at_builtin; refine Stop.out ?_)
  refine Stop.go ?_
  clear z0 z1 t1 t2
  clear hw1
  obtain ⟨hi0, hz0, hz1, hz2⟩ := HT3.out
  refine wpList_app _ rfl (.tmp 16) (.tmp 18) 178 rfl w.heap.size 238 i0 _ 3 24 Tryz.underlying178 hi0 hz0 hz1 hz2 rfl (by omega) (.slice none 0 0) 0 [] rfl (World.ownsRow_nil _ _ _ _) _ 1 1 [.int .i64 1, .int .i64 (-1), .int .i64 1] rfl (Src.lit rfl 3 rfl) (by simp [Value.oneCell']) (by unfold maxLen; omega) (by omega) (Nat.le_trans HI.out.below.size (by simp)) ?_
  intro v03 w03 hown hgr
  have HI03 := hide (InI.app HK.out HN.out (HI.out.next (balloc (Below.refl _ _) _)) hgr hown (by simp [Value.oneCell']))
  clear hown hgr hi0 hz0 hz1 hz2 HT3 HI
  have z1x := HI03.out.net.cell (k := 0) (v := .slice N.cp N.cals.length N.cc) rfl
  go_wp2_with (go_at_call 226; refine Stop.out ?_)
  refine Stop.go (checkCal_c N w.heap.size _ _ HI03.out.kw HI03.out.net HI03.out.data ?_)
  rw [Hm1.out]
  intro w12 v12 ys1 hb1 ho1 hy1
  obtain ⟨p1, k1, rfl, _⟩ := own_val ho1
  have HI12 := hide (HI03.out.next hb1); have HS1 := hide (Src.own ho1); have HY1 := hide hy1
  obtain ⟨i0, hi0, hz0, hz1, hz2⟩ := info_parts infoFault
  have HT3 := hide (And.intro hi0 (And.intro hz0 (And.intro hz1 hz2)))
  clear hi0 hz0 hz1 hz2 hb1 ho1 hy1 z1x
  go_wp2_with (at_builtin; refine Stop.out ?_)
  refine Stop.go ?_
  obtain ⟨hi0, hz0, hz1, hz2⟩ := HT3.out
  refine wpList_app _ rfl (.tmp 21) (.tmp 25) 178 rfl w.heap.size 238 i0 _ 3 24 Tryz.underlying178 hi0 hz0 hz1 hz2 rfl (by omega) v03 (0 + 1) ([] ++ [.int .i64 1, .int .i64 (-1), .int .i64 1]) rfl HI12.out.own p1 m1 k1 ys1 rfl HS1.out HY1.out (by unfold maxLen; omega) (by omega) HI12.out.below.size ?_
  intro v13 w13 hown hgr
  have HI13 := hide (InI.app HK.out HN.out HI12.out hgr hown HY1.out)
  clear hown hgr hi0 hz0 hz1 hz2 HT3
  have z2x := HI13.out.net.cell (k := 2) (v := .slice N.op N.oprs.length N.oc) rfl
  go_wp2_with (go_at_call 229; refine Stop.out ?_)
  refine Stop.go (checkOpr_c N w.heap.size _ _ HI13.out.kw HI13.out.net HI13.out.data ?_)
  rw [Hm2.out]
  intro w22 v22 ys2 hb2 ho2 hy2
  obtain ⟨p2, k2, rfl, _⟩ := own_val ho2
  have HI22 := hide (HI13.out.next hb2); have HS2 := hide (Src.own ho2); have HY2 := hide hy2
  obtain ⟨i0, hi0, hz0, hz1, hz2⟩ := info_parts infoFault
  have HT3 := hide (And.intro hi0 (And.intro hz0 (And.intro hz1 hz2)))
  clear hi0 hz0 hz1 hz2 hb2 ho2 hy2 z2x
  go_wp2_with (at_builtin; refine Stop.out ?_)
  refine Stop.go ?_
  obtain ⟨hi0, hz0, hz1, hz2⟩ := HT3.out
  refine wpList_app _ rfl (.tmp 28) (.tmp 32) 178 rfl w.heap.size 238 i0 _ 3 24 Tryz.underlying178 hi0 hz0 hz1 hz2 rfl (by omega) v13 (0 + 1 + m1) (([] ++ [.int .i64 1, .int .i64 (-1), .int .i64 1]) ++ ys1) rfl HI22.out.own p2 m2 k2 ys2 rfl HS2.out HY2.out (by unfold maxLen; omega) (by omega) HI22.out.below.size ?_
  intro v23 w23 hown hgr
  have HI23 := hide (InI.app HK.out HN.out HI22.out hgr hown HY2.out)
  clear hown hgr hi0 hz0 hz1 hz2 HT3
  have z3x := HI23.out.net.cell (k := 3) (v := .slice N.fp N.offs.length N.fc) rfl
  go_wp2_with (go_at_call 232; refine Stop.out ?_)
  refine Stop.go (checkOff_c N w.heap.size _ _ HI23.out.kw HI23.out.net HI23.out.data ?_)
  rw [Hm3.out]
  intro w32 v32 ys3 hb3 ho3 hy3
  obtain ⟨p3, k3, rfl, _⟩ := own_val ho3
  have HI32 := hide (HI23.out.next hb3); have HS3 := hide (Src.own ho3); have HY3 := hide hy3
  obtain ⟨i0, hi0, hz0, hz1, hz2⟩ := info_parts infoFault
  have HT3 := hide (And.intro hi0 (And.intro hz0 (And.intro hz1 hz2)))
  clear hi0 hz0 hz1 hz2 hb3 ho3 hy3 z3x
  go_wp2_with (at_builtin; refine Stop.out ?_)
  refine Stop.go ?_
  obtain ⟨hi0, hz0, hz1, hz2⟩ := HT3.out
  refine wpList_app _ rfl (.tmp 35) (.tmp 40) 178 rfl w.heap.size 238 i0 _ 3 24 Tryz.underlying178 hi0 hz0 hz1 hz2 rfl (by omega) v23 (0 + 1 + m1 + m2) ((([] ++ [.int .i64 1, .int .i64 (-1), .int .i64 1]) ++ ys1) ++ ys2) rfl HI32.out.own p3 m3 k3 ys3 rfl HS3.out HY3.out (by unfold maxLen; omega) (by omega) HI32.out.below.size ?_
  intro v33 w33 hown hgr
  have HI33 := hide (InI.app HK.out HN.out HI32.out hgr hown HY3.out)
  clear hown hgr hi0 hz0 hz1 hz2 HT3
  have z4x := HI33.out.net.cell (k := 4) (v := .slice N.lp N.lins.length N.lc) rfl
  go_wp2_with (go_at_call 236; refine Stop.out ?_)
  refine Stop.go (checkLin_c N w.heap.size _ _ HI33.out.kw HI33.out.net HI33.out.data ?_)
  rw [Hm4.out]
  intro w42 v42 ys4 hb4 ho4 hy4
  obtain ⟨p4, k4, rfl, _⟩ := own_val ho4
  have HI42 := hide (HI33.out.next hb4); have HS4 := hide (Src.own ho4); have HY4 := hide hy4
  obtain ⟨i0, hi0, hz0, hz1, hz2⟩ := info_parts infoFault
  have HT3 := hide (And.intro hi0 (And.intro hz0 (And.intro hz1 hz2)))
  clear hi0 hz0 hz1 hz2 hb4 ho4 hy4 z4x
  go_wp2_with (at_builtin; refine Stop.out ?_)
  refine Stop.go ?_
  obtain ⟨hi0, hz0, hz1, hz2⟩ := HT3.out
  refine wpList_app _ rfl (.tmp 43) (.tmp 48) 178 rfl w.heap.size 238 i0 _ 3 24 Tryz.underlying178 hi0 hz0 hz1 hz2 rfl (by omega) v33 (0 + 1 + m1 + m2 + m3) (((([] ++ [.int .i64 1, .int .i64 (-1), .int .i64 1]) ++ ys1) ++ ys2) ++ ys3) rfl HI42.out.own p4 m4 k4 ys4 rfl HS4.out HY4.out (by unfold maxLen; omega) (by omega) HI42.out.below.size ?_
  intro v43 w43 hown hgr
  have HI43 := hide (InI.app HK.out HN.out HI42.out hgr hown HY4.out)
  clear hown hgr hi0 hz0 hz1 hz2 HT3
  have z5x := HI43.out.net.cell (k := 5) (v := .slice N.kp N.clss.length N.kc) rfl
  go_wp2_with (go_at_call 240; refine Stop.out ?_)
  refine Stop.go (checkCls_c N w.heap.size _ _ HI43.out.kw HI43.out.net HI43.out.data ?_)
  rw [Hm5.out]
  intro w52 v52 ys5 hb5 ho5 hy5
  obtain ⟨p5, k5, rfl, _⟩ := own_val ho5
  have HI52 := hide (HI43.out.next hb5); have HS5 := hide (Src.own ho5); have HY5 := hide hy5
  obtain ⟨i0, hi0, hz0, hz1, hz2⟩ := info_parts infoFault
  have HT3 := hide (And.intro hi0 (And.intro hz0 (And.intro hz1 hz2)))
  clear hi0 hz0 hz1 hz2 hb5 ho5 hy5 z5x
  go_wp2_with (at_builtin; refine Stop.out ?_)
  refine Stop.go ?_
  obtain ⟨hi0, hz0, hz1, hz2⟩ := HT3.out
  refine wpList_app _ rfl (.tmp 51) (.tmp 55) 178 rfl w.heap.size 238 i0 _ 3 24 Tryz.underlying178 hi0 hz0 hz1 hz2 rfl (by omega) v43 (0 + 1 + m1 + m2 + m3 + m4) ((((([] ++ [.int .i64 1, .int .i64 (-1), .int .i64 1]) ++ ys1) ++ ys2) ++ ys3) ++ ys4) rfl HI52.out.own p5 m5 k5 ys5 rfl HS5.out HY5.out (by unfold maxLen; omega) (by omega) HI52.out.below.size ?_
  intro v53 w53 hown hgr
  have HI53 := hide (InI.app HK.out HN.out HI52.out hgr hown HY5.out)
  clear hown hgr hi0 hz0 hz1 hz2 HT3
  have HF := hide (HR.out _ _ _ HI53.out.below HI53.out.own HI53.out.one)
  go_wp2
  exact HF.out
end
end Go.Proofs.YtgfhcmidnbahjaaGreatDoor
