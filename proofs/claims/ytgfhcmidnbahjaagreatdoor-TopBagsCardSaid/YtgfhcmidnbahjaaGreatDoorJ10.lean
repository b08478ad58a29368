/- Survey: check, for one kind. Survey: check, for one kind. -/
import Derived.Test.YtgfhcmidnbahjaaGreatDoorJ9
set_option linter.unusedVariables false
set_option linter.unusedSimpArgs false
namespace Go.Proofs.YtgfhcmidnbahjaaGreatDoor
section
open Go.RowKit
attribute [local go_sem] run_store_func
set_option maxRecDepth 100000 in
set_option maxHeartbeats 8000000 in
theorem checkOff_c (N : Net) (gn : Nat) (w : World) (R) (hk : KwAt w) (hB : Blk w gn N.cells 29) (hN : NetAt w N)
  (hR : ∀ w' v xs, Below w.heap.size w w' → w'.ownsRow w.heap.size 238 3 v (kindN 12 N.offs.length (offNm N) (offGd N)) xs → (∀ u ∈ xs, u.oneCell' = true) → R (.returned v) w') :
  Calls Tryz.prog 232 #[.int .i64 3, .int .i64 12, .slice N.fp N.offs.length N.fc, .func (.func 231) #[] #[.pointer (some ⟨gn, 0, none⟩)], .func (.func 233) #[] #[.pointer (some ⟨gn, 0, none⟩)]] w R := by
 have HR := hide hR; have HK0 := hide hk; have HB0 := hide hB; have HN0 := hide hN
 have hlen := hN.lens
 obtain ⟨w1, hw1⟩ : ∃ w1, (((w.alloc (.cells #[.slice N.fp N.offs.length N.fc] 25)).alloc (.cells #[.func (.func 231) #[] #[.pointer (some ⟨gn, 0, none⟩)]] 145)).alloc (.cells #[.func (.func 233) #[] #[.pointer (some ⟨gn, 0, none⟩)]] 270)).alloc (.cells #[.func (.func 289) #[] #[.pointer (some ⟨w.heap.size + 1, 0, none⟩)], .func (.func 290) #[] #[.pointer (some ⟨w.heap.size + 1, 0, none⟩)], .func (.func 291) #[] #[.pointer (some ⟨w.heap.size + 1 + 1, 0, none⟩), .pointer (some ⟨w.heap.size, 0, none⟩)]] 306) = w1 := ⟨_, rfl⟩
 have hb1 : Below w.heap.size w w1 := hw1 ▸ balloc (balloc (balloc (balloc (Below.refl _ _) _) _) _) _
 have HI := hide (show CkOff w N gn w.heap.size w1 from ⟨hb1, hk.next hb1, hB.next hb1, hN.next hb1, by rw [← hw1]; repeat (first | exact Blk.new_at (by simp) | refine Blk.alloc ?_ _), by rw [← hw1]; repeat (first | exact Blk.new_at (by simp) | refine Blk.alloc ?_ _), by rw [← hw1]; repeat (first | exact Blk.new_at (by simp) | refine Blk.alloc ?_ _), by rw [← hw1]; repeat (first | exact Blk.new_at (by simp) | refine Blk.alloc ?_ _)⟩)
 have x7 : w1.cell? ⟨w.heap.size, 0, none⟩ = some (.slice N.fp N.offs.length N.fc) := HI.out.b7.cell (k := 0) rfl
 obtain ⟨bad, hbad⟩ : ∃ bad, (badAt (offNm N) (offGd N)) = bad := ⟨_, rfl⟩
 have HBad := hide hbad
 rw [kindN_eq, hbad] at HR
 have Hlen : Hid (N.offs.length = N.offs.length) := hide rfl
 clear hR hk hB hN hb1 hbad
 obtain ⟨n, hn⟩ : ∃ n, N.offs.length = n := ⟨_, rfl⟩
 have Hn := hide hn
 rw [hn] at hw1 x7 hlen HR ⊢
 obtain ⟨m, hm⟩ : ∃ m, min n 12 = m := ⟨_, rfl⟩
 have Hm := hide hm
 have hm1 : m ≤ n := by omega
 have hm2 : m ≤ 12 := by omega
 have hmin : min (n : Int) 12 = (m : Int) := by omega
 have hn63 : n ≤ 9223372036854775807 := by omega
 rw [hm] at HR
 clear hn hm hlen Hlen
 go_enter Tryz.func232, Tryz.ntmps232
 go_wp2
 clear hmin hw1 x7
 go_loopw [12, 25] (fun v si wr => ∃ (i : Nat) (xs : List Value), i ≤ m ∧ si = .int .i64 i ∧ Hid (CkOff w N gn w.heap.size wr) ∧ Hid (wr.ownsRow w.heap.size 238 3 v (cntB bad i) xs) ∧ Hid (∀ u ∈ xs, u.oneCell' = true)) (fun _ si _ => m - (intOf si).toNat)
 case atStart => exact ⟨0, [], Nat.zero_le _, rfl, HI, hide (World.ownsRow_nil _ _ _ _), hide (by simp)⟩
 case round =>
  clear HI
  obtain ⟨v0, rfl⟩ : ∃ v0, v0 = u12 := ⟨u12, rfl⟩
  obtain ⟨W0, rfl⟩ : ∃ W0, W0 = wr := ⟨wr, rfl⟩
  obtain ⟨i, xs, hi, rfl, HI, HO, HX⟩ := hrel
  have x7 : W0.cell? ⟨w.heap.size, 0, none⟩ = some (.slice N.fp n N.fc) := by rw [← Hn.out]; exact HI.out.b7.cell (k := 0) rfl
  by_cases hlt : i < m
  ·have Hi : Hid (i < N.offs.length) := hide (by rw [Hn.out]; omega)
   have y0 : W0.cell? ⟨w.heap.size + 1 + 1 + 1, 0, none⟩ = some (.func (.func 289) #[] #[.pointer (some ⟨w.heap.size + 1, 0, none⟩)]) := HI.out.b11.cell (k := 0) rfl
   have y1 : W0.cell? ⟨w.heap.size + 1 + 1 + 1, 1, none⟩ = some (.func (.func 290) #[] #[.pointer (some ⟨w.heap.size + 1, 0, none⟩)]) := HI.out.b11.cell (k := 1) rfl
   have y2 : W0.cell? ⟨w.heap.size + 1 + 1 + 1, 2, none⟩ = some (.func (.func 291) #[] #[.pointer (some ⟨w.heap.size + 1 + 1, 0, none⟩), .pointer (some ⟨w.heap.size, 0, none⟩)]) := HI.out.b11.cell (k := 2) rfl
   go_wp2
   clear y0 y1 y2 x7
   go_loopw [12, 29] (fun v sj wq => v = v0 ∧ ∃ j : Nat, j ≤ 3 ∧ sj = .int .i64 j ∧ Hid (0 < j → nameB (offNm N i) = true) ∧ Hid (1 < j → dupB (offNm N) i = false) ∧ Hid (2 < j → (offGd N i) = true) ∧ Hid (CkOff w N gn w.heap.size wq) ∧ Hid (Below W0.heap.size W0 wq)) (fun _ sj _ => 3 - (intOf sj).toNat)
   case atStart => exact ⟨rfl, 0, by decide, rfl, hide (by omega), hide (by omega), hide (by omega), HI, hide (Below.refl _ _)⟩
   case round =>
    clear HI
    obtain ⟨hv0, j, hj, rfl, H1, H2, H3, HJ, HB⟩ := hrel
    obtain rfl : v0 = u12 := hv0.symm
    have HO1 := hide (own_below HO.out HB.out)
    have hcl := cntB_le bad i
    have hj3 : j = 0 ∨ j = 1 ∨ j = 2 ∨ j = 3 := by omega
    rcases hj3 with rfl | rfl | rfl | hlast
    ·have q : Sem.run Tryz.prog (Instr.index 306 (.agg #[.func (.func 289) #[] #[.pointer (some ⟨w.heap.size + 1, 0, none⟩)], .func (.func 290) #[] #[.pointer (some ⟨w.heap.size + 1, 0, none⟩)], .func (.func 291) #[] #[.pointer (some ⟨w.heap.size + 1 + 1, 0, none⟩), .pointer (some ⟨w.heap.size, 0, none⟩)]]) (.int .i64 0)) wr = .ok (.func (.func 289) #[] #[.pointer (some ⟨w.heap.size + 1, 0, none⟩)]) wr := run_index_arr wr (j := 0) undRules (by kernel_rfl) (fun w => by kernel_rfl) (by decide) rfl
     cases hb : nameB (offNm N i)
     ·go_wp2_with (go_at_call 289; refine Stop.out ?_)
      refine Stop.go (r1Off_c w N gn w.heap.size i _ _ HJ Hi.out ?_)
      rw [hb]
      intro W' hbw
      have HJ2 := hide (HJ.out.next hbw)
      have HO2 := hide (own_below HO1.out hbw)
      clear hbw q
      obtain ⟨i0, hi0, hz0, hz1, hz2⟩ := info_parts infoFault
      have HT3 := hide (And.intro hi0 (And.intro hz0 (And.intro hz1 hz2)))
      clear hi0 hz0 hz1 hz2
      go_wp2_with (at_builtin; refine Stop.out ?_)
      refine Stop.go ?_
      obtain ⟨hi0, hz0, hz1, hz2⟩ := HT3.out
      refine wpList_app _ rfl (.tmp 37) (.tmp 42) 178 rfl w.heap.size 238 i0 _ 3 24 Tryz.underlying178 hi0 hz0 hz1 hz2 rfl (by omega) v0 (cntB bad i) xs rfl (own_below HO2.out (balloc (Below.refl _ _) _)) _ 1 1 [.int .i64 3, .int .i64 i, .int .i64 1] rfl (Src.lit rfl 3 rfl) (by simp [Value.oneCell']) (by unfold maxLen; omega) (by omega) (Nat.le_trans HJ2.out.below.size (by simp)) ?_
      intro v9 w9 hown hgr
      have HJ9 := hide (CkI.app HK0.out HB0.out HN0.out (HJ2.out.next (balloc (Below.refl _ _) _)) (own_below HO2.out (balloc (Below.refl _ _) _)) hgr (by decide) (by decide))
      have HX9 : Hid (∀ u ∈ xs ++ [.int .i64 3, .int .i64 i, .int .i64 1], u.oneCell' = true) := hide (fun u hu => by rcases List.mem_append.1 hu with hu | hu; exact HX.out u hu; (simp at hu; rcases hu with rfl | rfl | rfl <;> rfl))
      have HO9 := hide hown
      clear hown hgr hi0 hz0 hz1 hz2 HT3
      have hbd : bad i = true := by rw [← HBad.out]; exact bad_1 hb
      have HO10 : Hid (w9.ownsRow w.heap.size 238 3 v9 (cntB bad (i + 1)) (xs ++ [.int .i64 3, .int .i64 i, .int .i64 1])) := hide (by rw [cntB_one hbd]; exact HO9.out)
      clear hbd HO9
      go_wp2
      go_roundw
      case rel => exact ⟨i + 1, _, by omega, by go_num, HJ9, HO10, HX9⟩
      case measure => simp [intOf]; omega
     ·go_wp2_with (go_at_call 289; refine Stop.out ?_)
      refine Stop.go (r1Off_c w N gn w.heap.size i _ _ HJ Hi.out ?_)
      rw [hb]
      intro W' hbw
      have HJ2 := hide (HJ.out.next hbw)
      have HB2 := hide (bseq HB.out hbw)
      have Hb := hide hb
      clear hbw q hb
      go_wp2
      go_roundw
      case rel => exact ⟨rfl, 1, by omega, by go_num, hide (fun _ => by first | exact Hb.out | trivial), hide (by omega), hide (by omega), HJ2, HB2⟩
      case measure => simp [intOf]
    ·have q : Sem.run Tryz.prog (Instr.index 306 (.agg #[.func (.func 289) #[] #[.pointer (some ⟨w.heap.size + 1, 0, none⟩)], .func (.func 290) #[] #[.pointer (some ⟨w.heap.size + 1, 0, none⟩)], .func (.func 291) #[] #[.pointer (some ⟨w.heap.size + 1 + 1, 0, none⟩), .pointer (some ⟨w.heap.size, 0, none⟩)]]) (.int .i64 1)) wr = .ok (.func (.func 290) #[] #[.pointer (some ⟨w.heap.size + 1, 0, none⟩)]) wr := run_index_arr wr (j := 1) undRules (by kernel_rfl) (fun w => by kernel_rfl) (by decide) rfl
     cases hb : dupB (offNm N) i
     ·go_wp2_with (go_at_call 290; refine Stop.out ?_)
      refine Stop.go (r2Off_c w N gn w.heap.size i _ _ HJ Hi.out ?_)
      rw [hb]
      intro W' hbw
      have HJ2 := hide (HJ.out.next hbw)
      have HB2 := hide (bseq HB.out hbw)
      have Hb := hide hb
      clear hbw q hb
      go_wp2
      go_roundw
      case rel => exact ⟨rfl, 2, by omega, by go_num, hide (fun _ => H1.out (by omega)), hide (fun _ => by first | exact Hb.out | trivial), hide (by omega), HJ2, HB2⟩
      case measure => simp [intOf]
     ·go_wp2_with (go_at_call 290; refine Stop.out ?_)
      refine Stop.go (r2Off_c w N gn w.heap.size i _ _ HJ Hi.out ?_)
      rw [hb]
      intro W' hbw
      have HJ2 := hide (HJ.out.next hbw)
      have HO2 := hide (own_below HO1.out hbw)
      clear hbw q
      obtain ⟨i0, hi0, hz0, hz1, hz2⟩ := info_parts infoFault
      have HT3 := hide (And.intro hi0 (And.intro hz0 (And.intro hz1 hz2)))
      clear hi0 hz0 hz1 hz2
      go_wp2_with (at_builtin; refine Stop.out ?_)
      refine Stop.go ?_
      obtain ⟨hi0, hz0, hz1, hz2⟩ := HT3.out
      refine wpList_app _ rfl (.tmp 37) (.tmp 42) 178 rfl w.heap.size 238 i0 _ 3 24 Tryz.underlying178 hi0 hz0 hz1 hz2 rfl (by omega) v0 (cntB bad i) xs rfl (own_below HO2.out (balloc (Below.refl _ _) _)) _ 1 1 [.int .i64 3, .int .i64 i, .int .i64 4] rfl (Src.lit rfl 3 rfl) (by simp [Value.oneCell']) (by unfold maxLen; omega) (by omega) (Nat.le_trans HJ2.out.below.size (by simp)) ?_
      intro v9 w9 hown hgr
      have HJ9 := hide (CkI.app HK0.out HB0.out HN0.out (HJ2.out.next (balloc (Below.refl _ _) _)) (own_below HO2.out (balloc (Below.refl _ _) _)) hgr (by decide) (by decide))
      have HX9 : Hid (∀ u ∈ xs ++ [.int .i64 3, .int .i64 i, .int .i64 4], u.oneCell' = true) := hide (fun u hu => by rcases List.mem_append.1 hu with hu | hu; exact HX.out u hu; (simp at hu; rcases hu with rfl | rfl | rfl <;> rfl))
      have HO9 := hide hown
      clear hown hgr hi0 hz0 hz1 hz2 HT3
      have hbd : bad i = true := by rw [← HBad.out]; exact bad_2 hb
      have HO10 : Hid (w9.ownsRow w.heap.size 238 3 v9 (cntB bad (i + 1)) (xs ++ [.int .i64 3, .int .i64 i, .int .i64 4])) := hide (by rw [cntB_one hbd]; exact HO9.out)
      clear hbd HO9
      go_wp2
      go_roundw
      case rel => exact ⟨i + 1, _, by omega, by go_num, HJ9, HO10, HX9⟩
      case measure => simp [intOf]; omega
    ·have q : Sem.run Tryz.prog (Instr.index 306 (.agg #[.func (.func 289) #[] #[.pointer (some ⟨w.heap.size + 1, 0, none⟩)], .func (.func 290) #[] #[.pointer (some ⟨w.heap.size + 1, 0, none⟩)], .func (.func 291) #[] #[.pointer (some ⟨w.heap.size + 1 + 1, 0, none⟩), .pointer (some ⟨w.heap.size, 0, none⟩)]]) (.int .i64 2)) wr = .ok (.func (.func 291) #[] #[.pointer (some ⟨w.heap.size + 1 + 1, 0, none⟩), .pointer (some ⟨w.heap.size, 0, none⟩)]) wr := run_index_arr wr (j := 2) undRules (by kernel_rfl) (fun w => by kernel_rfl) (by decide) rfl
     cases hb : (offGd N i)
     ·go_wp2_with (go_at_call 291; refine Stop.out ?_)
      refine Stop.go (r3Off_c w N gn w.heap.size i _ _ HJ Hi.out ?_)
      rw [hb]
      intro W' hbw
      have HJ2 := hide (HJ.out.next hbw)
      have HO2 := hide (own_below HO1.out hbw)
      clear hbw q
      obtain ⟨i0, hi0, hz0, hz1, hz2⟩ := info_parts infoFault
      have HT3 := hide (And.intro hi0 (And.intro hz0 (And.intro hz1 hz2)))
      clear hi0 hz0 hz1 hz2
      go_wp2_with (at_builtin; refine Stop.out ?_)
      refine Stop.go ?_
      obtain ⟨hi0, hz0, hz1, hz2⟩ := HT3.out
      refine wpList_app _ rfl (.tmp 37) (.tmp 42) 178 rfl w.heap.size 238 i0 _ 3 24 Tryz.underlying178 hi0 hz0 hz1 hz2 rfl (by omega) v0 (cntB bad i) xs rfl (own_below HO2.out (balloc (Below.refl _ _) _)) _ 1 1 [.int .i64 3, .int .i64 i, .int .i64 1] rfl (Src.lit rfl 3 rfl) (by simp [Value.oneCell']) (by unfold maxLen; omega) (by omega) (Nat.le_trans HJ2.out.below.size (by simp)) ?_
      intro v9 w9 hown hgr
      have HJ9 := hide (CkI.app HK0.out HB0.out HN0.out (HJ2.out.next (balloc (Below.refl _ _) _)) (own_below HO2.out (balloc (Below.refl _ _) _)) hgr (by decide) (by decide))
      have HX9 : Hid (∀ u ∈ xs ++ [.int .i64 3, .int .i64 i, .int .i64 1], u.oneCell' = true) := hide (fun u hu => by rcases List.mem_append.1 hu with hu | hu; exact HX.out u hu; (simp at hu; rcases hu with rfl | rfl | rfl <;> rfl))
      have HO9 := hide hown
      clear hown hgr hi0 hz0 hz1 hz2 HT3
      have hbd : bad i = true := by rw [← HBad.out]; exact bad_3 hb
      have HO10 : Hid (w9.ownsRow w.heap.size 238 3 v9 (cntB bad (i + 1)) (xs ++ [.int .i64 3, .int .i64 i, .int .i64 1])) := hide (by rw [cntB_one hbd]; exact HO9.out)
      clear hbd HO9
      go_wp2
      go_roundw
      case rel => exact ⟨i + 1, _, by omega, by go_num, HJ9, HO10, HX9⟩
      case measure => simp [intOf]; omega
     ·go_wp2_with (go_at_call 291; refine Stop.out ?_)
      refine Stop.go (r3Off_c w N gn w.heap.size i _ _ HJ Hi.out ?_)
      rw [hb]
      intro W' hbw
      have HJ2 := hide (HJ.out.next hbw)
      have HB2 := hide (bseq HB.out hbw)
      have Hb := hide hb
      clear hbw q hb
      go_wp2
      go_roundw
      case rel => exact ⟨rfl, 3, by omega, by go_num, hide (fun _ => H1.out (by omega)), hide (fun _ => H2.out (by omega)), hide (fun _ => by first | exact Hb.out | trivial), HJ2, HB2⟩
      case measure => simp [intOf]
    ·have hjI : ¬ (j : Int) < 3 := by omega
     have hbd : bad i = false := by rw [← HBad.out]; exact bad_no (H1.out (by omega)) (H2.out (by omega)) (H3.out (by omega))
     have HO10 : Hid (wr.ownsRow w.heap.size 238 3 v0 (cntB bad (i + 1)) xs) := hide (by rw [cntB_none hbd]; exact HO1.out)
     clear hbd hj hlast
     go_wp2
     go_roundw
     case rel => exact ⟨i + 1, xs, by omega, by go_num, HJ, HO10, HX⟩
     case measure => simp [intOf]; omega
  ·have hiI : ¬ (i : Int) < (m : Int) := by omega
   obtain rfl : i = m := by omega
   have hcl := cntB_le bad i
   by_cases hbig : 12 < n
   ·have hbI : (12 : Int) < (n : Int) := by omega
    have HR1 := HR.out
    rw [if_pos hbig] at HR1
    have HR1 := hide HR1
    clear hbig hlt hi
    obtain ⟨i0, hi0, hz0, hz1, hz2⟩ := info_parts infoFault
    have HT3 := hide (And.intro hi0 (And.intro hz0 (And.intro hz1 hz2)))
    clear hi0 hz0 hz1 hz2
    go_wp2_with (at_builtin; refine Stop.out ?_)
    refine Stop.go ?_
    obtain ⟨hi0, hz0, hz1, hz2⟩ := HT3.out
    refine wpList_app _ rfl (.tmp 50) (.tmp 54) 178 rfl w.heap.size 238 i0 _ 3 24 Tryz.underlying178 hi0 hz0 hz1 hz2 rfl (by omega) v0 (cntB bad i) xs rfl (own_below HO.out (balloc (Below.refl _ _) _)) _ 1 1 [.int .i64 3, .int .i64 12, .int .i64 2] rfl (Src.lit rfl 3 rfl) (by simp [Value.oneCell']) (by unfold maxLen; omega) (by omega) (Nat.le_trans HI.out.below.size (by simp)) ?_
    intro v9 w9 hown hgr
    have HJ9 := hide (CkI.app HK0.out HB0.out HN0.out (HI.out.next (balloc (Below.refl _ _) _)) (own_below HO.out (balloc (Below.refl _ _) _)) hgr (by decide) (by decide))
    have HX9 : Hid (∀ u ∈ xs ++ [.int .i64 3, .int .i64 12, .int .i64 2], u.oneCell' = true) := hide (fun u hu => by rcases List.mem_append.1 hu with hu | hu; exact HX.out u hu; (simp at hu; rcases hu with rfl | rfl | rfl <;> rfl))
    have HO9 := hide hown
    clear hown hgr hi0 hz0 hz1 hz2 HT3
    have HF := hide (HR1.out _ _ _ HJ9.out.below HO9.out HX9.out)
    go_wp2
    exact HF.out
   ·have hbI : ¬ (12 : Int) < (n : Int) := by omega
    have HR1 := HR.out
    rw [if_neg hbig] at HR1
    have HF := hide (HR1 _ _ _ HI.out.below HO.out HX.out)
    clear HR1 hbig hlt hi
    go_wp2
    exact HF.out
end
section
open Go.RowKit
attribute [local go_sem] run_store_func
set_option maxRecDepth 100000 in
set_option maxHeartbeats 8000000 in
theorem checkLin_c (N : Net) (gn : Nat) (w : World) (R) (hk : KwAt w) (hB : Blk w gn N.cells 29) (hN : NetAt w N)
  (hR : ∀ w' v xs, Below w.heap.size w w' → w'.ownsRow w.heap.size 238 3 v (kindN 40 N.lins.length (linNm N) (linGd N)) xs → (∀ u ∈ xs, u.oneCell' = true) → R (.returned v) w') :
  Calls Tryz.prog 236 #[.int .i64 4, .int .i64 40, .slice N.lp N.lins.length N.lc, .func (.func 235) #[] #[.pointer (some ⟨gn, 0, none⟩)], .func (.func 237) #[] #[.pointer (some ⟨gn, 0, none⟩)]] w R := by
 have HR := hide hR; have HK0 := hide hk; have HB0 := hide hB; have HN0 := hide hN
 have hlen := hN.lens
 obtain ⟨w1, hw1⟩ : ∃ w1, (((w.alloc (.cells #[.slice N.lp N.lins.length N.lc] 26)).alloc (.cells #[.func (.func 235) #[] #[.pointer (some ⟨gn, 0, none⟩)]] 145)).alloc (.cells #[.func (.func 237) #[] #[.pointer (some ⟨gn, 0, none⟩)]] 273)).alloc (.cells #[.func (.func 296) #[] #[.pointer (some ⟨w.heap.size + 1, 0, none⟩)], .func (.func 297) #[] #[.pointer (some ⟨w.heap.size + 1, 0, none⟩)], .func (.func 298) #[] #[.pointer (some ⟨w.heap.size + 1 + 1, 0, none⟩), .pointer (some ⟨w.heap.size, 0, none⟩)]] 306) = w1 := ⟨_, rfl⟩
 have hb1 : Below w.heap.size w w1 := hw1 ▸ balloc (balloc (balloc (balloc (Below.refl _ _) _) _) _) _
 have HI := hide (show CkLin w N gn w.heap.size w1 from ⟨hb1, hk.next hb1, hB.next hb1, hN.next hb1, by rw [← hw1]; repeat (first | exact Blk.new_at (by simp) | refine Blk.alloc ?_ _), by rw [← hw1]; repeat (first | exact Blk.new_at (by simp) | refine Blk.alloc ?_ _), by rw [← hw1]; repeat (first | exact Blk.new_at (by simp) | refine Blk.alloc ?_ _), by rw [← hw1]; repeat (first | exact Blk.new_at (by simp) | refine Blk.alloc ?_ _)⟩)
 have x7 : w1.cell? ⟨w.heap.size, 0, none⟩ = some (.slice N.lp N.lins.length N.lc) := HI.out.b7.cell (k := 0) rfl
 obtain ⟨bad, hbad⟩ : ∃ bad, (badAt (linNm N) (linGd N)) = bad := ⟨_, rfl⟩
 have HBad := hide hbad
 rw [kindN_eq, hbad] at HR
 have Hlen : Hid (N.lins.length = N.lins.length) := hide rfl
 clear hR hk hB hN hb1 hbad
 obtain ⟨n, hn⟩ : ∃ n, N.lins.length = n := ⟨_, rfl⟩
 have Hn := hide hn
 rw [hn] at hw1 x7 hlen HR ⊢
 obtain ⟨m, hm⟩ : ∃ m, min n 40 = m := ⟨_, rfl⟩
 have Hm := hide hm
 have hm1 : m ≤ n := by omega
 have hm2 : m ≤ 40 := by omega
 have hmin : min (n : Int) 40 = (m : Int) := by omega
 have hn63 : n ≤ 9223372036854775807 := by omega
 rw [hm] at HR
 clear hn hm hlen Hlen
 go_enter Tryz.func236, Tryz.ntmps236
 go_wp2
 clear hmin hw1 x7
 go_loopw [12, 25] (fun v si wr => ∃ (i : Nat) (xs : List Value), i ≤ m ∧ si = .int .i64 i ∧ Hid (CkLin w N gn w.heap.size wr) ∧ Hid (wr.ownsRow w.heap.size 238 3 v (cntB bad i) xs) ∧ Hid (∀ u ∈ xs, u.oneCell' = true)) (fun _ si _ => m - (intOf si).toNat)
 case atStart => exact ⟨0, [], Nat.zero_le _, rfl, HI, hide (World.ownsRow_nil _ _ _ _), hide (by simp)⟩
 case round =>
  clear HI
  obtain ⟨v0, rfl⟩ : ∃ v0, v0 = u12 := ⟨u12, rfl⟩
  obtain ⟨W0, rfl⟩ : ∃ W0, W0 = wr := ⟨wr, rfl⟩
  obtain ⟨i, xs, hi, rfl, HI, HO, HX⟩ := hrel
  have x7 : W0.cell? ⟨w.heap.size, 0, none⟩ = some (.slice N.lp n N.lc) := by rw [← Hn.out]; exact HI.out.b7.cell (k := 0) rfl
  by_cases hlt : i < m
  ·have Hi : Hid (i < N.lins.length) := hide (by rw [Hn.out]; omega)
   have y0 : W0.cell? ⟨w.heap.size + 1 + 1 + 1, 0, none⟩ = some (.func (.func 296) #[] #[.pointer (some ⟨w.heap.size + 1, 0, none⟩)]) := HI.out.b11.cell (k := 0) rfl
   have y1 : W0.cell? ⟨w.heap.size + 1 + 1 + 1, 1, none⟩ = some (.func (.func 297) #[] #[.pointer (some ⟨w.heap.size + 1, 0, none⟩)]) := HI.out.b11.cell (k := 1) rfl
   have y2 : W0.cell? ⟨w.heap.size + 1 + 1 + 1, 2, none⟩ = some (.func (.func 298) #[] #[.pointer (some ⟨w.heap.size + 1 + 1, 0, none⟩), .pointer (some ⟨w.heap.size, 0, none⟩)]) := HI.out.b11.cell (k := 2) rfl
   go_wp2
   clear y0 y1 y2 x7
   go_loopw [12, 29] (fun v sj wq => v = v0 ∧ ∃ j : Nat, j ≤ 3 ∧ sj = .int .i64 j ∧ Hid (0 < j → nameB (linNm N i) = true) ∧ Hid (1 < j → dupB (linNm N) i = false) ∧ Hid (2 < j → (linGd N i) = true) ∧ Hid (CkLin w N gn w.heap.size wq) ∧ Hid (Below W0.heap.size W0 wq)) (fun _ sj _ => 3 - (intOf sj).toNat)
   case atStart => exact ⟨rfl, 0, by decide, rfl, hide (by omega), hide (by omega), hide (by omega), HI, hide (Below.refl _ _)⟩
   case round =>
    clear HI
    obtain ⟨hv0, j, hj, rfl, H1, H2, H3, HJ, HB⟩ := hrel
    obtain rfl : v0 = u12 := hv0.symm
    have HO1 := hide (own_below HO.out HB.out)
    have hcl := cntB_le bad i
    have hj3 : j = 0 ∨ j = 1 ∨ j = 2 ∨ j = 3 := by omega
    rcases hj3 with rfl | rfl | rfl | hlast
    ·have q : Sem.run Tryz.prog (Instr.index 306 (.agg #[.func (.func 296) #[] #[.pointer (some ⟨w.heap.size + 1, 0, none⟩)], .func (.func 297) #[] #[.pointer (some ⟨w.heap.size + 1, 0, none⟩)], .func (.func 298) #[] #[.pointer (some ⟨w.heap.size + 1 + 1, 0, none⟩), .pointer (some ⟨w.heap.size, 0, none⟩)]]) (.int .i64 0)) wr = .ok (.func (.func 296) #[] #[.pointer (some ⟨w.heap.size + 1, 0, none⟩)]) wr := run_index_arr wr (j := 0) undRules (by kernel_rfl) (fun w => by kernel_rfl) (by decide) rfl
     cases hb : nameB (linNm N i)
     ·go_wp2_with (go_at_call 296; refine Stop.out ?_)
      refine Stop.go (r1Lin_c w N gn w.heap.size i _ _ HJ Hi.out ?_)
      rw [hb]
      intro W' hbw
      have HJ2 := hide (HJ.out.next hbw)
      have HO2 := hide (own_below HO1.out hbw)
      clear hbw q
      obtain ⟨i0, hi0, hz0, hz1, hz2⟩ := info_parts infoFault
      have HT3 := hide (And.intro hi0 (And.intro hz0 (And.intro hz1 hz2)))
      clear hi0 hz0 hz1 hz2
      go_wp2_with (at_builtin; refine Stop.out ?_)
      refine Stop.go ?_
      obtain ⟨hi0, hz0, hz1, hz2⟩ := HT3.out
      refine wpList_app _ rfl (.tmp 37) (.tmp 42) 178 rfl w.heap.size 238 i0 _ 3 24 Tryz.underlying178 hi0 hz0 hz1 hz2 rfl (by omega) v0 (cntB bad i) xs rfl (own_below HO2.out (balloc (Below.refl _ _) _)) _ 1 1 [.int .i64 4, .int .i64 i, .int .i64 1] rfl (Src.lit rfl 3 rfl) (by simp [Value.oneCell']) (by unfold maxLen; omega) (by omega) (Nat.le_trans HJ2.out.below.size (by simp)) ?_
      intro v9 w9 hown hgr
      have HJ9 := hide (CkI.app HK0.out HB0.out HN0.out (HJ2.out.next (balloc (Below.refl _ _) _)) (own_below HO2.out (balloc (Below.refl _ _) _)) hgr (by decide) (by decide))
      have HX9 : Hid (∀ u ∈ xs ++ [.int .i64 4, .int .i64 i, .int .i64 1], u.oneCell' = true) := hide (fun u hu => by rcases List.mem_append.1 hu with hu | hu; exact HX.out u hu; (simp at hu; rcases hu with rfl | rfl | rfl <;> rfl))
      have HO9 := hide hown
      clear hown hgr hi0 hz0 hz1 hz2 HT3
      have hbd : bad i = true := by rw [← HBad.out]; exact bad_1 hb
      have HO10 : Hid (w9.ownsRow w.heap.size 238 3 v9 (cntB bad (i + 1)) (xs ++ [.int .i64 4, .int .i64 i, .int .i64 1])) := hide (by rw [cntB_one hbd]; exact HO9.out)
      clear hbd HO9
      go_wp2
      go_roundw
      case rel => exact ⟨i + 1, _, by omega, by go_num, HJ9, HO10, HX9⟩
      case measure => simp [intOf]; omega
     ·go_wp2_with (go_at_call 296; refine Stop.out ?_)
      refine Stop.go (r1Lin_c w N gn w.heap.size i _ _ HJ Hi.out ?_)
      rw [hb]
      intro W' hbw
      have HJ2 := hide (HJ.out.next hbw)
      have HB2 := hide (bseq HB.out hbw)
      have Hb := hide hb
      clear hbw q hb
      go_wp2
      go_roundw
      case rel => exact ⟨rfl, 1, by omega, by go_num, hide (fun _ => by first | exact Hb.out | trivial), hide (by omega), hide (by omega), HJ2, HB2⟩
      case measure => simp [intOf]
    ·have q : Sem.run Tryz.prog (Instr.index 306 (.agg #[.func (.func 296) #[] #[.pointer (some ⟨w.heap.size + 1, 0, none⟩)], .func (.func 297) #[] #[.pointer (some ⟨w.heap.size + 1, 0, none⟩)], .func (.func 298) #[] #[.pointer (some ⟨w.heap.size + 1 + 1, 0, none⟩), .pointer (some ⟨w.heap.size, 0, none⟩)]]) (.int .i64 1)) wr = .ok (.func (.func 297) #[] #[.pointer (some ⟨w.heap.size + 1, 0, none⟩)]) wr := run_index_arr wr (j := 1) undRules (by kernel_rfl) (fun w => by kernel_rfl) (by decide) rfl
     cases hb : dupB (linNm N) i
     ·go_wp2_with (go_at_call 297; refine Stop.out ?_)
      refine Stop.go (r2Lin_c w N gn w.heap.size i _ _ HJ Hi.out ?_)
      rw [hb]
      intro W' hbw
      have HJ2 := hide (HJ.out.next hbw)
      have HB2 := hide (bseq HB.out hbw)
      have Hb := hide hb
      clear hbw q hb
      go_wp2
      go_roundw
      case rel => exact ⟨rfl, 2, by omega, by go_num, hide (fun _ => H1.out (by omega)), hide (fun _ => by first | exact Hb.out | trivial), hide (by omega), HJ2, HB2⟩
      case measure => simp [intOf]
     ·go_wp2_with (go_at_call 297; refine Stop.out ?_)
      refine Stop.go (r2Lin_c w N gn w.heap.size i _ _ HJ Hi.out ?_)
      rw [hb]
      intro W' hbw
      have HJ2 := hide (HJ.out.next hbw)
      have HO2 := hide (own_below HO1.out hbw)
      clear hbw q
      obtain ⟨i0, hi0, hz0, hz1, hz2⟩ := info_parts infoFault
      have HT3 := hide (And.intro hi0 (And.intro hz0 (And.intro hz1 hz2)))
      clear hi0 hz0 hz1 hz2
      go_wp2_with (at_builtin; refine Stop.out ?_)
      refine Stop.go ?_
      obtain ⟨hi0, hz0, hz1, hz2⟩ := HT3.out
      refine wpList_app _ rfl (.tmp 37) (.tmp 42) 178 rfl w.heap.size 238 i0 _ 3 24 Tryz.underlying178 hi0 hz0 hz1 hz2 rfl (by omega) v0 (cntB bad i) xs rfl (own_below HO2.out (balloc (Below.refl _ _) _)) _ 1 1 [.int .i64 4, .int .i64 i, .int .i64 4] rfl (Src.lit rfl 3 rfl) (by simp [Value.oneCell']) (by unfold maxLen; omega) (by omega) (Nat.le_trans HJ2.out.below.size (by simp)) ?_
      intro v9 w9 hown hgr
      have HJ9 := hide (CkI.app HK0.out HB0.out HN0.out (HJ2.out.next (balloc (Below.refl _ _) _)) (own_below HO2.out (balloc (Below.refl _ _) _)) hgr (by decide) (by decide))
      have HX9 : Hid (∀ u ∈ xs ++ [.int .i64 4, .int .i64 i, .int .i64 4], u.oneCell' = true) := hide (fun u hu => by rcases List.mem_append.1 hu with hu | hu; exact HX.out u hu; (simp at hu; rcases hu with rfl | rfl | rfl <;> rfl))
      have HO9 := hide hown
      clear hown hgr hi0 hz0 hz1 hz2 HT3
      have hbd : bad i = true := by rw [← HBad.out]; exact bad_2 hb
      have HO10 : Hid (w9.ownsRow w.heap.size 238 3 v9 (cntB bad (i + 1)) (xs ++ [.int .i64 4, .int .i64 i, .int .i64 4])) := hide (by rw [cntB_one hbd]; exact HO9.out)
      clear hbd HO9
      go_wp2
      go_roundw
      case rel => exact ⟨i + 1, _, by omega, by go_num, HJ9, HO10, HX9⟩
      case measure => simp [intOf]; omega
    ·have q : Sem.run Tryz.prog (Instr.index 306 (.agg #[.func (.func 296) #[] #[.pointer (some ⟨w.heap.size + 1, 0, none⟩)], .func (.func 297) #[] #[.pointer (some ⟨w.heap.size + 1, 0, none⟩)], .func (.func 298) #[] #[.pointer (some ⟨w.heap.size + 1 + 1, 0, none⟩), .pointer (some ⟨w.heap.size, 0, none⟩)]]) (.int .i64 2)) wr = .ok (.func (.func 298) #[] #[.pointer (some ⟨w.heap.size + 1 + 1, 0, none⟩), .pointer (some ⟨w.heap.size, 0, none⟩)]) wr := run_index_arr wr (j := 2) undRules (by kernel_rfl) (fun w => by kernel_rfl) (by decide) rfl
     cases hb : (linGd N i)
     ·go_wp2_with (go_at_call 298; refine Stop.out ?_)
      refine Stop.go (r3Lin_c w N gn w.heap.size i _ _ HJ Hi.out ?_)
      rw [hb]
      intro W' hbw
      have HJ2 := hide (HJ.out.next hbw)
      have HO2 := hide (own_below HO1.out hbw)
      clear hbw q
      obtain ⟨i0, hi0, hz0, hz1, hz2⟩ := info_parts infoFault
      have HT3 := hide (And.intro hi0 (And.intro hz0 (And.intro hz1 hz2)))
      clear hi0 hz0 hz1 hz2
      go_wp2_with (at_builtin; refine Stop.out ?_)
      refine Stop.go ?_
      obtain ⟨hi0, hz0, hz1, hz2⟩ := HT3.out
      refine wpList_app _ rfl (.tmp 37) (.tmp 42) 178 rfl w.heap.size 238 i0 _ 3 24 Tryz.underlying178 hi0 hz0 hz1 hz2 rfl (by omega) v0 (cntB bad i) xs rfl (own_below HO2.out (balloc (Below.refl _ _) _)) _ 1 1 [.int .i64 4, .int .i64 i, .int .i64 1] rfl (Src.lit rfl 3 rfl) (by simp [Value.oneCell']) (by unfold maxLen; omega) (by omega) (Nat.le_trans HJ2.out.below.size (by simp)) ?_
      intro v9 w9 hown hgr
      have HJ9 := hide (CkI.app HK0.out HB0.out HN0.out (HJ2.out.next (balloc (Below.refl _ _) _)) (own_below HO2.out (balloc (Below.refl _ _) _)) hgr (by decide) (by decide))
      have HX9 : Hid (∀ u ∈ xs ++ [.int .i64 4, .int .i64 i, .int .i64 1], u.oneCell' = true) := hide (fun u hu => by rcases List.mem_append.1 hu with hu | hu; exact HX.out u hu; (simp at hu; rcases hu with rfl | rfl | rfl <;> rfl))
      have HO9 := hide hown
      clear hown hgr hi0 hz0 hz1 hz2 HT3
      have hbd : bad i = true := by rw [← HBad.out]; exact bad_3 hb
      have HO10 : Hid (w9.ownsRow w.heap.size 238 3 v9 (cntB bad (i + 1)) (xs ++ [.int .i64 4, .int .i64 i, .int .i64 1])) := hide (by rw [cntB_one hbd]; exact HO9.out)
      clear hbd HO9
      go_wp2
      go_roundw
      case rel => exact ⟨i + 1, _, by omega, by go_num, HJ9, HO10, HX9⟩
      case measure => simp [intOf]; omega
     ·go_wp2_with (go_at_call 298; refine Stop.out ?_)
      refine Stop.go (r3Lin_c w N gn w.heap.size i _ _ HJ Hi.out ?_)
      rw [hb]
      intro W' hbw
      have HJ2 := hide (HJ.out.next hbw)
      have HB2 := hide (bseq HB.out hbw)
      have Hb := hide hb
      clear hbw q hb
      go_wp2
      go_roundw
      case rel => exact ⟨rfl, 3, by omega, by go_num, hide (fun _ => H1.out (by omega)), hide (fun _ => H2.out (by omega)), hide (fun _ => by first | exact Hb.out | trivial), HJ2, HB2⟩
      case measure => simp [intOf]
    ·have hjI : ¬ (j : Int) < 3 := by omega
     have hbd : bad i = false := by rw [← HBad.out]; exact bad_no (H1.out (by omega)) (H2.out (by omega)) (H3.out (by omega))
     have HO10 : Hid (wr.ownsRow w.heap.size 238 3 v0 (cntB bad (i + 1)) xs) := hide (by rw [cntB_none hbd]; exact HO1.out)
     clear hbd hj hlast
     go_wp2
     go_roundw
     case rel => exact ⟨i + 1, xs, by omega, by go_num, HJ, HO10, HX⟩
     case measure => simp [intOf]; omega
  ·have hiI : ¬ (i : Int) < (m : Int) := by omega
   obtain rfl : i = m := by omega
   have hcl := cntB_le bad i
   by_cases hbig : 40 < n
   ·have hbI : (40 : Int) < (n : Int) := by omega
    have HR1 := HR.out
    rw [if_pos hbig] at HR1
    have HR1 := hide HR1
    clear hbig hlt hi
    obtain ⟨i0, hi0, hz0, hz1, hz2⟩ := info_parts infoFault
    have HT3 := hide (And.intro hi0 (And.intro hz0 (And.intro hz1 hz2)))
    clear hi0 hz0 hz1 hz2
    go_wp2_with (at_builtin; refine Stop.out ?_)
    refine Stop.go ?_
    obtain ⟨hi0, hz0, hz1, hz2⟩ := HT3.out
    refine wpList_app _ rfl (.tmp 50) (.tmp 54) 178 rfl w.heap.size 238 i0 _ 3 24 Tryz.underlying178 hi0 hz0 hz1 hz2 rfl (by omega) v0 (cntB bad i) xs rfl (own_below HO.out (balloc (Below.refl _ _) _)) _ 1 1 [.int .i64 4, .int .i64 40, .int .i64 2] rfl (Src.lit rfl 3 rfl) (by simp [Value.oneCell']) (by unfold maxLen; omega) (by omega) (Nat.le_trans HI.out.below.size (by simp)) ?_
    intro v9 w9 hown hgr
    have HJ9 := hide (CkI.app HK0.out HB0.out HN0.out (HI.out.next (balloc (Below.refl _ _) _)) (own_below HO.out (balloc (Below.refl _ _) _)) hgr (by decide) (by decide))
    have HX9 : Hid (∀ u ∈ xs ++ [.int .i64 4, .int .i64 40, .int .i64 2], u.oneCell' = true) := hide (fun u hu => by rcases List.mem_append.1 hu with hu | hu; exact HX.out u hu; (simp at hu; rcases hu with rfl | rfl | rfl <;> rfl))
    have HO9 := hide hown
    clear hown hgr hi0 hz0 hz1 hz2 HT3
    have HF := hide (HR1.out _ _ _ HJ9.out.below HO9.out HX9.out)
    go_wp2
    exact HF.out
   ·have hbI : ¬ (40 : Int) < (n : Int) := by omega
    have HR1 := HR.out
    rw [if_neg hbig] at HR1
    have HF := hide (HR1 _ _ _ HI.out.below HO.out HX.out)
    clear HR1 hbig hlt hi
    go_wp2
    exact HF.out
end
end Go.Proofs.YtgfhcmidnbahjaaGreatDoor
