/- warrant.Parse: a certificate's text is read. -/
import Derived.Test.YtgfhcmidnbahjaaGreatDoorQT46
set_option linter.unusedVariables false
set_option linter.unusedSimpArgs false
namespace Go.Proofs.YtgfhcmidnbahjaaGreatDoor
open Go.RowKit Go.Shelf
attribute [local go_sem] Oper.semAt_some run_store_func
structure PaN (w2 : World) (l : List Int) (v : Value) (W : World) : Prop where
  own : W.ownsRow w2.heap.size 3 1 v l.length (l.map (Value.int .i64))
  below : Below w2.heap.size w2 W
theorem PaN.next {w2 W W' : World} {l : List Int} {v : Value} (h : PaN w2 l v W) (hb : Below W.heap.size W W') : PaN w2 l v W' := ⟨own_below h.own hb, bseq h.below hb⟩
theorem PaN.app {w2 W W' : World} {l : List Int} {v v' : Value} {x : Int} (h : PaN w2 l v W) (hown : W'.ownsRow w2.heap.size 3 1 v' (l.length + 1) (l.map (Value.int .i64) ++ [.int .i64 x])) (hg : W.grownBy W' v.ownBlock) : PaN w2 (l ++ [x]) v' W' :=
  ⟨by rw [List.map_append, List.length_append]; exact hown, h.below.grown hg h.below.size (fun k hk => (own_lt h.own hk).1)⟩
set_option maxRecDepth 100000 in
set_option maxHeartbeats 4000000 in
theorem parse_c (xs : List Nat) (sl : Nat) (m : Int) (w : World) (R : Ending → World → Prop) (hm : w.cell? ⟨0, 0, none⟩ = some (.int .i64 m)) (hr : ∀ x ∈ sl :: xs, x ≤ 99999) (hl : xs.length ≤ 100000) (h1 : 1 ≤ xs.length)
    (hR : ∀ q c w', Below w.heap.size w w' → IntsAt .i64 w' q (intsN xs) → xs.length ≤ c → R (.returned (.tuple #[.agg #[.slice q xs.length c, .int .i64 (sl : Int)], .int .i64 0])) w') :
    Calls Tryz.prog 25 #[.string (certT sl xs)] w R := by
  have HR := hide hR; have HG := hide hr
  obtain ⟨hcount, hsplit⟩ := certT_words sl xs
  have hsize := certT_size hr
  obtain ⟨tx, htx⟩ : ∃ tx, certT sl xs = tx := ⟨_, rfl⟩
  rw [htx] at hcount hsplit hsize ⊢
  obtain ⟨w1, hw1⟩ : ∃ w1, w.alloc (.cells #[.slice none 0 0, .int .i64 0] 42) = w1 := ⟨_, rfl⟩
  have hb1 : Below w.heap.size w w1 := hw1 ▸ balloc (Below.refl _ _) _
  have k1 : Blk w1 w.heap.size #[.slice none 0 0, .int .i64 0] 42 := hw1 ▸ Blk.new _ _ _
  have hm1 := cell_later hb1 hm
  have hsp := Tryz.strings_Split tx ⟨#[32]⟩ m w1 (by omega) hm1 (by decide)
  rw [hcount] at hsp hsplit
  rw [hsplit] at hsp
  obtain ⟨nums, hnums⟩ : ∃ nums, sl :: xs = nums := ⟨_, rfl⟩
  have hnl : nums.length = xs.length + 1 := by rw [← hnums]; simp
  have HNums := hide hnums; have HNl := hide hnl
  rw [hnums] at hsp hr
  obtain ⟨w2, hw2⟩ : ∃ w2, w1.alloc (.cells ((nums.map fun x => (⟨(Lib.decDigits x).toArray⟩ : ByteArray)).map Value.string).toArray 9) = w2 := ⟨_, rfl⟩
  have hb2 : Below w1.heap.size w1 w2 := hw2 ▸ balloc (Below.refl _ _) _
  have kw : Blk w2 w1.heap.size ((nums.map fun x => (⟨(Lib.decDigits x).toArray⟩ : ByteArray)).map Value.string).toArray 9 := hw2 ▸ Blk.new _ _ _
  rw [hw2] at hsp
  have HSp := hide hsp; have HB2 := hide (bseq hb1 hb2); have K1 := hide (k1.next hb2); have KW := hide kw
  obtain ⟨L, hL⟩ : ∃ L, xs.length + 1 = L := ⟨_, rfl⟩
  have HL := hide hL
  rw [hL] at HSp HNl
  have hgB : w1.heap.size < w2.heap.size := kw.lt
  have hg0 : w.heap.size < w2.heap.size := Nat.lt_of_lt_of_le k1.lt hb2.size
  clear hR hr hm hm1 hb1 hb2 k1 kw hsp hw2 hnums hnl hcount hsplit htx hL
  go_enter Tryz.func25, Tryz.ntmps25
  go_wp2_with (go_at_call 90; refine Stop.out ?_)
  refine Stop.go (HSp.out.mono fun e w' hh => ?_)
  obtain ⟨rfl, rfl⟩ := hh
  go_wp2
  obtain ⟨B1, hB1⟩ : ∃ B1, w1.heap.size = B1 := ⟨_, rfl⟩
  rw [hB1] at KW hgB ⊢
  clear hB1 hw1
  go_loopw [4, 12] (fun rv si wr => ∃ i : Nat, i ≤ L ∧ si = .int .i64 i ∧ Hid (PaN w' (intsN (nums.take i)) rv wr)) (fun _ si _ => L - (intOf si).toNat)
  case atStart => exact ⟨0, Nat.zero_le _, rfl, hide ⟨World.ownsRow_nil _ _ _ _, Below.refl _ _⟩⟩
  case round =>
    obtain ⟨i, hi, rfl, HI⟩ := hrel
    by_cases hlt : i < L
    · obtain ⟨x, hx⟩ : ∃ x, nums[i]? = some x := ⟨_, List.getElem?_eq_getElem (by rw [HNl.out]; exact hlt)⟩
      have hxr : x ≤ 99999 := HG.out x (by rw [HNums.out]; exact List.mem_of_getElem? hx)
      have c0 : wr.cell? ⟨B1, i, none⟩ = some (.string ⟨(Lib.decDigits x).toArray⟩) := cell_later HI.out.below (KW.out.cell (k := i) (by simp [hx]))
      have Hx := hide hx
      have q1 : (0 : Int) ≤ (i : Int) := by omega
      have q2 : (i : Int) < (L : Int) := by omega
      clear hx
      go_wp2_with (go_at_call 91; refine Stop.out ?_)
      refine Stop.go (number_c ⟨(Lib.decDigits x).toArray⟩ wr _ (numOk_dec hxr) ?_)
      intro w3 hb3
      rw [show numVal (⟨(Lib.decDigits x).toArray⟩ : ByteArray).data.toList = x from numVal_dec x]
      obtain ⟨w4, hw4⟩ : ∃ w4, w3.alloc (.cells #[.int .i64 (x : Int)] 3) = w4 := ⟨_, rfl⟩
      have HI4 := hide (HI.out.next (hw4 ▸ balloc hb3 _))
      have hsrc : Src w4 (some ⟨w3.heap.size, 0, none⟩) 1 1 [.int .i64 (x : Int)] := hw4 ▸ Src.lit rfl 1 rfl
      have HSr := hide hsrc
      obtain ⟨i0, hi0, hz0, hz1, hz2⟩ := info_parts infoI2
      clear c0 hb3
      go_wp2_with (at_builtin; refine Stop.out ?_)
      try rw [hw4]
      clear hw4
      refine Stop.go ?_
      have HO := hide HI4.out.own
      have hlt' : (intsN (nums.take i)).length = i := by rw [intsN_len, List.length_take]; have := HNl.out; omega
      have Hlt' := hide hlt'
      have HLe := hide (show L ≤ 100001 from by have := HL.out; omega)
      have hbs := HI4.out.below.size
      clear hsrc hlt'
      refine wpList_app _ rfl (.tmp 24) (.tmp 26) 40 rfl w'.heap.size 3 i0 _ 1 8 Tryz.underlying40 hi0 hz0 hz1 hz2 rfl (by omega) _ (intsN (nums.take i)).length _ rfl HO.out (some ⟨w3.heap.size, 0, none⟩) 1 1 [.int .i64 (x : Int)] rfl HSr.out (by simp [Value.oneCell']) (by have := Hlt'.out; have := HLe.out; unfold maxLen; omega) (by have := Hlt'.out; have := HLe.out; omega) hbs ?_
      intro v3 w5 hown3 hg3
      have HI5 : Hid (PaN w' (intsN (nums.take (i + 1))) v3 w5) := hide (by
        have h := HI4.out.app hown3 hg3
        have e : intsN (nums.take i) ++ [(x : Int)] = intsN (nums.take (i + 1)) := by unfold intsN; rw [List.take_add_one, Hx.out, List.map_append]; rfl
        rwa [e] at h)
      have hi60 : i ≤ 100001 := by have := HLe.out; omega
      clear hown3 hg3 hi0 hz0 hz1 hz2 HO HSr hbs
      go_wp2_with fail
      go_roundw
      case rel => exact ⟨i + 1, by omega, by go_num, HI5⟩
      case measure => simp [intOf]; omega
    · have q1 : ¬ (i : Int) < (L : Int) := by omega
      obtain rfl : i = L := by omega
      have hall : nums.take i = nums := List.take_of_length_le (by rw [HNl.out]; exact Nat.le_refl _)
      rw [hall] at HI
      have hints : ∃ g cap, u4 = .slice (some ⟨g, 0, none⟩) i cap ∧ i ≤ cap ∧ cap ≤ maxLen := by
        have hln : (intsN nums).length = i := by rw [intsN_len, HNl.out]
        rcases HI.out.own.2 with ⟨hv, h0⟩ | ⟨g, cap, cur, hv, _, _, hc1, hc2, _⟩
        · rw [hln] at h0; have := HL.out; omega
        · rw [hln] at hv hc1; exact ⟨g, cap, hv, hc1, hc2⟩
      obtain ⟨g, cap, rfl, hcap, hcm⟩ := hints
      have hIn : IntsAt .i64 wr (some ⟨g, 0, none⟩) (intsN nums) := by
        have hln : (intsN nums).length = i := by rw [intsN_len, HNl.out]
        have ho := HI.out.own
        rw [hln] at ho
        exact IntsAt.of_own ho
      rw [← HNums.out] at hIn
      obtain ⟨bb, oo, y, hpp, hy, hc0⟩ := hIn.at_ (i := 0) (by rw [intsN_len]; simp)
      injection hpp with hpp; injection hpp with e1 e2; subst e1; subst e2
      have hy2 : y = (sl : Int) := by simp [intsN] at hy; exact hy.symm
      subst hy2
      have HIn := hide (show IntsAt .i64 wr (some ⟨g, 0 + 1, none⟩) (intsN xs) from ints_tail (x := (sl : Int)) (by simpa [intsN] using hIn))
      have KB := hide (K1.out.next (show Below w'.heap.size w' wr from by simpa using HI.out.below))
      have hBW := hide (HB2.out.trans ((show Below w'.heap.size w' wr from by simpa using HI.out.below).mono HB2.out.size))
      have f0 := KB.out.free 0; have f1 := KB.out.free 1
      unfold maxLen at hcm
      have hi2 : 2 ≤ i := by have := HL.out; omega
      have q2 : (0 : Int) < (i : Int) := by omega
      have q3 : (1 : Int) ≤ (i : Int) := by omega
      have q4 : (i : Int) ≤ (cap : Int) := by omega
      have q5 : ¬ i = 0 := by omega
      have q7 : 0 < i := by omega
      have q8 : 1 ≤ i := by omega
      have q9 : i ≤ cap := by omega
      have q6 : ¬ cap = 1 := by omega
      rw [Nat.add_zero] at hc0
      clear hall hIn hy hi hlt
      go_wp2
      go_still_tail 6, (by kernel_rfl)
      change wpList _ _ _ _ _ wr.drew
      have KBd := hide (KB.out.next (Below.refl _ _).drew)
      have z0 := KB.out.cell (k := 0) rfl; have z1 := KB.out.cell (k := 1) rfl
      have HF := hide (HR.out (some ⟨g, 1, none⟩) (cap - 1) ((wr.drew.setCell ⟨w.heap.size, 0, none⟩ (.slice (some ⟨g, 1, none⟩) (i - 1) (cap - 1))).setCell ⟨w.heap.size, 1, none⟩ (.int .i64 (sl : Int)))
        ((hBW.drew.setCell (p := ⟨w.heap.size, 0, none⟩) (Nat.le_refl _) _).setCell (p := ⟨w.heap.size, 1, none⟩) (Nat.le_refl _) _) (fun h0 => by
          obtain ⟨b9, o9, hp9, hc9⟩ := HIn.out h0
          refine ⟨b9, o9, hp9, fun j x hx => ?_⟩
          injection hp9 with hp9; injection hp9 with e1 e2; subst e1; subst e2
          have hne : g ≠ w.heap.size := by
            rcases HI.out.own.2 with ⟨hv, h0⟩ | ⟨g', cap', cur', hv, hgg, _⟩
            · cases hv
            · injection hv with hv; injection hv with hv; injection hv with hv; omega
          refine (World.cell?_of_block ((Below.heap_setCell _ _ _ _ hne).trans (Below.heap_setCell _ _ _ _ hne))).trans (hc9 j x hx)) (by have := HL.out; omega))
      have hi1 : i - 1 = xs.length := by have := HL.out; omega
      rw [← hi1] at HF
      have KF := hide ((KB.out.set 0 (.slice (some ⟨g, 1, none⟩) (i - 1) (cap - 1))).set 1 (.int .i64 (sl : Int)))
      clear hi1 hBW HB2 HI hc0
      go_wp2
      refine bodyPost_ret (v := .tuple #[.agg #[.slice (some ⟨g, 1, none⟩) (i - 1) (cap - 1), .int .i64 (sl : Int)], .int .i64 0]) ?_ rfl HF.out
      have w0' := KF.out.cell (k := 0) rfl; have w1' := KF.out.cell (k := 1) rfl
      simp [results, Tryz.results25, go_sem, w0', w1']
end Go.Proofs.YtgfhcmidnbahjaaGreatDoor
