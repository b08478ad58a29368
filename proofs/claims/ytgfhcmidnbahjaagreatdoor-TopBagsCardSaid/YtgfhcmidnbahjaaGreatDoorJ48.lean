/- Top: small networks. Top: few, small. Top: small networks, of the law. Top: small networks and few days, of the law. -/
import Derived.Test.YtgfhcmidnbahjaaGreatDoorJ31
set_option linter.unusedVariables false
set_option linter.unusedSimpArgs false
namespace Go.Proofs.YtgfhcmidnbahjaaGreatDoor
section
open Go.RowKit Go.Shelf
attribute [local go_sem] Oper.semAt_some run_store_func
set_option maxHeartbeats 1000000 in
theorem calSmall_c (c : Cal) (w : World) (R) (hR : ∀ b w', Below w.heap.size w w' → R (.returned (.bool b)) w') : Calls Tryz.prog 164 #[.agg c.cells.toArray] w R := by
 have HR := hide hR
 have hb1 : ∀ o, Below w.heap.size w (w.alloc o) := fun o => balloc (Below.refl _ _) _
 have HB := hide hb1
 unfold Cal.cells
 clear hR hb1
 go_enter Tryz.func164, Tryz.ntmps164
 go_wp2
 all_goals exact HR.out _ _ (HB.out _)
theorem infoStr : (Tryz.prog.info? 9).map (fun i => (i.zero, i.size, i.bytes)) = some (some (.string ⟨#[]⟩), 1, 16) := by kernel_rfl
structure NaI (w : World) (N : Net) (g : Nat) (v : Value) (n : Nat) (W : World) : Prop where
 below : Below w.heap.size w W
 box : Blk W g N.cells 29
 own : ∃ l : List ByteArray, W.ownsRow (w.heap.size + 1) 9 1 v n (l.map Value.string)
theorem NaI.next {w W W' : World} {N : Net} {g : Nat} {v : Value} {n : Nat} (h : NaI w N g v n W) (hb : Below W.heap.size W W') : NaI w N g v n W' :=
 ⟨bseq h.below hb, h.box.next hb, by obtain ⟨l, hl⟩ := h.own; exact ⟨l, own_below hl hb⟩⟩
theorem NaI.app {w W W' : World} {N : Net} {v v' : Value} {n : Nat} {l : List ByteArray} {s : ByteArray} (h : NaI w N w.heap.size v n W) (ho : W.ownsRow (w.heap.size + 1) 9 1 v n (l.map Value.string)) (hown : W'.ownsRow (w.heap.size + 1) 9 1 v' (n + 1) (l.map Value.string ++ [.string s])) (hg : W.grownBy W' v.ownBlock) : NaI w N w.heap.size v' (n + 1) W' :=
 ⟨h.below.grown hg h.below.size (fun k hk => by have := (own_lt ho hk).1; omega), h.box.grown hg (fun e => by have := (own_lt ho e.symm).1; omega), l ++ [s], by rw [List.map_append]; exact hown⟩
theorem map_flat : ∀ l : List ByteArray, l.map Value.string = l.flatMap (fun s => [Value.string s])
 | [] => rfl
 | x :: l => by rw [List.map_cons, List.flatMap_cons, map_flat l]; rfl
theorem str_row {w : World} {base n : Nat} {v : Value} {l : List ByteArray} (h : w.ownsRow base 9 1 v n (l.map Value.string)) : ∃ p m c, v = .slice p m c ∧ (∃ l : List ByteArray, l.length = m ∧ EncAt 1 (fun s => [Value.string s]) w p l) ∧ m = n := by
 have hn : l.length = n := by have := h.1; simpa using this
 have hfl := map_flat l
 rcases Nat.eq_zero_or_pos n with h0 | h0
 ·subst h0
  have hl : l = [] := List.eq_nil_of_length_eq_zero hn
  subst hl
  rcases h.2 with ⟨hv, _⟩ | ⟨g, cap, cur, hv, _⟩
  ·exact ⟨none, 0, 0, hv, ⟨[], rfl, EncAt.nil⟩, rfl⟩
  ·exact ⟨_, 0, cap, hv, ⟨[], rfl, EncAt.nil⟩, rfl⟩
 ·obtain ⟨g, cap, hv, _⟩ := own_form h h0
  subst hv
  rw [hfl] at h
  exact ⟨_, n, cap, rfl, ⟨l, hn, EncAt.of_own (fun _ => rfl) (by decide) h⟩, rfl⟩
set_option maxRecDepth 100000 in
set_option maxHeartbeats 1000000 in
theorem refNames_c (N : Net) (k : Int) (w : World) (R) (hk : 1 ≤ k ∧ k ≤ 5) (hN : NetAt w N) (hl : N.cals.length ≤ 10 ∧ N.names.length ≤ 10 ∧ N.oprs.length ≤ 10 ∧ N.offs.length ≤ 16 ∧ N.lins.length ≤ 50 ∧ N.clss.length ≤ 8)
  (hR : ∀ w' p n c, (∃ l : List ByteArray, l.length = n ∧ EncAt 1 (fun s => [Value.string s]) w' p l) → n ≤ 50 → Below w.heap.size w w' → R (.returned (.slice p n c)) w') :
  Calls Tryz.prog 165 #[.agg N.cells, .int .i64 k] w R := by
 have HR := hide hR; have HN := hide hN; have Hl := hide hl
 obtain ⟨w1, hw1⟩ : ∃ w1, w.alloc (.cells N.cells 29) = w1 := ⟨_, rfl⟩
 have hb1 : Below w.heap.size w w1 := hw1 ▸ balloc (Below.refl _ _) _
 have k1 : Blk w1 w.heap.size N.cells 29 := hw1 ▸ Blk.new _ _ _
 have HI := hide (show NaI w N w.heap.size (.slice none 0 0) 0 w1 from ⟨hb1, k1, [], World.ownsRow_nil _ _ _ _⟩)
 obtain ⟨y0, y1, y2, y3, y4, y5⟩ := k1.net6
 unfold Net.cells at hw1 ⊢
 clear hR hN hl hb1 k1
 rcases (show k = 1 ∨ k = 2 ∨ k = 3 ∨ k = 4 ∨ k = 5 by omega) with rfl | rfl | rfl | rfl | rfl
 ·go_enter Tryz.func165, Tryz.ntmps165
  go_wp2
  clear hw1 y0 y1 y2 y3 y4 y5
  go_loopw [5, 6] (fun rv sv wq => ∃ (i : Nat), i ≤ N.cals.length ∧ sv = .int .i64 (i : Int) ∧ Hid (NaI w N w.heap.size rv i wq)) (fun _ sv _ => N.cals.length - (intOf sv).toNat)
  case atStart => exact ⟨0, by omega, rfl, HI⟩
  case round =>
   clear HI
   obtain ⟨i, hi, rfl, HI⟩ := hrel
   obtain ⟨y0, y1, y2, y3, y4, y5⟩ := HI.out.box.net6
   by_cases hlt : i < N.cals.length
   ·have q1 : (0 : Int) ≤ (i : Int) := by omega
    have q2 : (i : Int) < (N.cals.length : Int) := by omega
    by_cases hlt2 : i < N.names.length
    ·have q3 : (i : Int) < (N.names.length : Int) := by omega
     obtain ⟨b, bo, s, hp, hs, m0, _⟩ := (HN.out.names.keep (Keeps.of_below HI.out.below)).at_ hlt2
     rw [hp] at y1
     clear hp hs
     obtain ⟨i0, hi0, hz0, hz1, hz2⟩ := info_parts infoStr
     obtain ⟨w2, hw2⟩ : ∃ w2, wr.alloc (.cells #[.string s] 9) = w2 := ⟨_, rfl⟩
     have HI2 := hide (HI.out.next (hw2 ▸ balloc (Below.refl _ _) _))
     have hsrc : Src w2 (some ⟨wr.heap.size, 0, none⟩) 1 1 [.string s] := hw2 ▸ Src.lit rfl 1 rfl
     have HSr := hide hsrc
     have Hlt := hide hlt
     clear hsrc
     go_wp2_with (at_builtin; refine Stop.out ?_)
     try rw [hw2]
     clear hw2
     obtain ⟨l, hown⟩ := HI2.out.own
     have HO := hide hown
     refine Stop.go ?_
     refine wpList_app _ rfl (.tmp 26) (.tmp 32) 23 rfl (w.heap.size + 1) 9 i0 _ 1 16 Tryz.underlying23 hi0 hz0 hz1 hz2 rfl (by omega) _ i _ rfl HO.out (some ⟨wr.heap.size, 0, none⟩) 1 1 [.string s] rfl HSr.out (by simp [Value.oneCell']) (by have := Hlt.out; have := Hl.out; unfold maxLen; omega) (by have := Hlt.out; have := Hl.out; omega) (by have := HI2.out.box.lt; omega) ?_
     intro v3 w3 hown3 hg3
     have HI3 : Hid (NaI w N w.heap.size v3 (i + 1) w3) := hide (HI2.out.app HO.out hown3 hg3)
     have hi60 : i ≤ 60 := by have := Hlt.out; have := Hl.out; omega
     clear hown hown3 hg3 hi0 hz0 hz1 hz2
     go_wp2_with fail
     go_roundw
     case rel => exact ⟨i + 1, Hlt.out, by go_num, HI3⟩
     case measure => have := Hlt.out; simp [intOf]; omega
    ·have q3 : ¬ ((i : Int) < (N.names.length : Int)) := by omega
     obtain ⟨i0, hi0, hz0, hz1, hz2⟩ := info_parts infoStr
     obtain ⟨w2, hw2⟩ : ∃ w2, wr.alloc (.cells #[.string ⟨#[]⟩] 9) = w2 := ⟨_, rfl⟩
     have HI2 := hide (HI.out.next (hw2 ▸ balloc (Below.refl _ _) _))
     have hsrc : Src w2 (some ⟨wr.heap.size, 0, none⟩) 1 1 [.string ⟨#[]⟩] := hw2 ▸ Src.lit rfl 1 rfl
     have HSr := hide hsrc
     have Hlt := hide hlt
     clear hsrc
     go_wp2_with (at_builtin; refine Stop.out ?_)
     try rw [hw2]
     clear hw2
     obtain ⟨l, hown⟩ := HI2.out.own
     have HO := hide hown
     refine Stop.go ?_
     refine wpList_app _ rfl (.tmp 34) (.tmp 35) 23 rfl (w.heap.size + 1) 9 i0 _ 1 16 Tryz.underlying23 hi0 hz0 hz1 hz2 rfl (by omega) _ i _ rfl HO.out (some ⟨wr.heap.size, 0, none⟩) 1 1 [.string ⟨#[]⟩] rfl HSr.out (by simp [Value.oneCell']) (by have := Hlt.out; have := Hl.out; unfold maxLen; omega) (by have := Hlt.out; have := Hl.out; omega) (by have := HI2.out.box.lt; omega) ?_
     intro v3 w3 hown3 hg3
     have HI3 : Hid (NaI w N w.heap.size v3 (i + 1) w3) := hide (HI2.out.app HO.out hown3 hg3)
     have hi60 : i ≤ 60 := by have := Hlt.out; have := Hl.out; omega
     clear hown hown3 hg3 hi0 hz0 hz1 hz2
     go_wp2_with fail
     go_roundw
     case rel => exact ⟨i + 1, Hlt.out, by go_num, HI3⟩
     case measure => have := Hlt.out; simp [intOf]; omega
   ·have q2 : ¬ ((i : Int) < (N.cals.length : Int)) := by omega
    obtain ⟨l, hown⟩ := HI.out.own
    obtain ⟨p, n, c, hv, hr, hn⟩ := str_row hown
    subst hv; subst hn
    have HF := hide (HR.out wr p n c hr (by have := Hl.out; omega) HI.out.below)
    clear hown hr
    go_wp2
    exact HF.out
 ·go_enter Tryz.func165, Tryz.ntmps165
  go_wp2
  clear hw1 y0 y1 y2 y3 y4 y5
  go_loopw [5, 7] (fun rv sv wq => ∃ (i : Nat), i ≤ N.oprs.length ∧ sv = .int .i64 (i : Int) ∧ Hid (NaI w N w.heap.size rv i wq)) (fun _ sv _ => N.oprs.length - (intOf sv).toNat)
  case atStart => exact ⟨0, by omega, rfl, HI⟩
  case round =>
   clear HI
   obtain ⟨i, hi, rfl, HI⟩ := hrel
   obtain ⟨y0, y1, y2, y3, y4, y5⟩ := HI.out.box.net6
   by_cases hlt : i < N.oprs.length
   ·have q1 : (0 : Int) ≤ (i : Int) := by omega
    have q2 : (i : Int) < (N.oprs.length : Int) := by omega
    have h9 := HN.out.oprs.keep (Keeps.of_below HI.out.below)
    obtain ⟨b, bo, s, hp, hs, m0, _⟩ := h9.at_ hlt
    rw [hp] at y2
    clear h9 hp hs
    obtain ⟨i0, hi0, hz0, hz1, hz2⟩ := info_parts infoStr
    obtain ⟨w2, hw2⟩ : ∃ w2, wr.alloc (.cells #[.string s] 9) = w2 := ⟨_, rfl⟩
    have HI2 := hide (HI.out.next (hw2 ▸ balloc (Below.refl _ _) _))
    have hsrc : Src w2 (some ⟨wr.heap.size, 0, none⟩) 1 1 [.string s] := hw2 ▸ Src.lit rfl 1 rfl
    have HSr := hide hsrc
    have Hlt := hide hlt
    clear hsrc
    go_wp2_with (at_builtin; refine Stop.out ?_)
    try rw [hw2]
    clear hw2
    obtain ⟨l, hown⟩ := HI2.out.own
    have HO := hide hown
    refine Stop.go ?_
    refine wpList_app _ rfl (.tmp 46) (.tmp 53) 23 rfl (w.heap.size + 1) 9 i0 _ 1 16 Tryz.underlying23 hi0 hz0 hz1 hz2 rfl (by omega) _ i _ rfl HO.out (some ⟨wr.heap.size, 0, none⟩) 1 1 [.string s] rfl HSr.out (by simp [Value.oneCell']) (by have := Hlt.out; have := Hl.out; unfold maxLen; omega) (by have := Hlt.out; have := Hl.out; omega) (by have := HI2.out.box.lt; omega) ?_
    intro v3 w3 hown3 hg3
    have HI3 : Hid (NaI w N w.heap.size v3 (i + 1) w3) := hide (HI2.out.app HO.out hown3 hg3)
    have hi60 : i ≤ 60 := by have := Hlt.out; have := Hl.out; omega
    clear hown hown3 hg3 hi0 hz0 hz1 hz2
    go_wp2_with fail
    go_roundw
    case rel => exact ⟨i + 1, Hlt.out, by go_num, HI3⟩
    case measure => have := Hlt.out; simp [intOf]; omega
   ·have q2 : ¬ ((i : Int) < (N.oprs.length : Int)) := by omega
    obtain ⟨l, hown⟩ := HI.out.own
    obtain ⟨p, n, c, hv, hr, hn⟩ := str_row hown
    subst hv; subst hn
    have HF := hide (HR.out wr p n c hr (by have := Hl.out; omega) HI.out.below)
    clear hown hr
    go_wp2
    exact HF.out
 ·go_enter Tryz.func165, Tryz.ntmps165
  go_wp2
  clear hw1 y0 y1 y2 y3 y4 y5
  go_loopw [5, 8] (fun rv sv wq => ∃ (i : Nat), i ≤ N.offs.length ∧ sv = .int .i64 (i : Int) ∧ Hid (NaI w N w.heap.size rv i wq)) (fun _ sv _ => N.offs.length - (intOf sv).toNat)
  case atStart => exact ⟨0, by omega, rfl, HI⟩
  case round =>
   clear HI
   obtain ⟨i, hi, rfl, HI⟩ := hrel
   obtain ⟨y0, y1, y2, y3, y4, y5⟩ := HI.out.box.net6
   by_cases hlt : i < N.offs.length
   ·have q1 : (0 : Int) ≤ (i : Int) := by omega
    have q2 : (i : Int) < (N.offs.length : Int) := by omega
    have h9 := HN.out.offs.keep (Keeps.of_below HI.out.below)
    obtain ⟨b, bo, x, hp, hs, hcell⟩ := h9.at_ hlt
    obtain ⟨s, hse⟩ : ∃ s, x.name = s := ⟨_, rfl⟩
    have m0 : wr.cell? ⟨b, bo + i * 7, none⟩ = some (.string s) := by rw [← hse]; exact hcell 0 _ rfl
    clear hcell hse
    rw [hp] at y3
    clear h9 hp hs
    obtain ⟨i0, hi0, hz0, hz1, hz2⟩ := info_parts infoStr
    obtain ⟨w2, hw2⟩ : ∃ w2, wr.alloc (.cells #[.string s] 9) = w2 := ⟨_, rfl⟩
    have HI2 := hide (HI.out.next (hw2 ▸ balloc (Below.refl _ _) _))
    have hsrc : Src w2 (some ⟨wr.heap.size, 0, none⟩) 1 1 [.string s] := hw2 ▸ Src.lit rfl 1 rfl
    have HSr := hide hsrc
    have Hlt := hide hlt
    clear hsrc
    go_wp2_with (at_builtin; refine Stop.out ?_)
    try rw [hw2]
    clear hw2
    obtain ⟨l, hown⟩ := HI2.out.own
    have HO := hide hown
    refine Stop.go ?_
    refine wpList_app _ rfl (.tmp 64) (.tmp 71) 23 rfl (w.heap.size + 1) 9 i0 _ 1 16 Tryz.underlying23 hi0 hz0 hz1 hz2 rfl (by omega) _ i _ rfl HO.out (some ⟨wr.heap.size, 0, none⟩) 1 1 [.string s] rfl HSr.out (by simp [Value.oneCell']) (by have := Hlt.out; have := Hl.out; unfold maxLen; omega) (by have := Hlt.out; have := Hl.out; omega) (by have := HI2.out.box.lt; omega) ?_
    intro v3 w3 hown3 hg3
    have HI3 : Hid (NaI w N w.heap.size v3 (i + 1) w3) := hide (HI2.out.app HO.out hown3 hg3)
    have hi60 : i ≤ 60 := by have := Hlt.out; have := Hl.out; omega
    clear hown hown3 hg3 hi0 hz0 hz1 hz2
    go_wp2_with fail
    go_roundw
    case rel => exact ⟨i + 1, Hlt.out, by go_num, HI3⟩
    case measure => have := Hlt.out; simp [intOf]; omega
   ·have q2 : ¬ ((i : Int) < (N.offs.length : Int)) := by omega
    obtain ⟨l, hown⟩ := HI.out.own
    obtain ⟨p, n, c, hv, hr, hn⟩ := str_row hown
    subst hv; subst hn
    have HF := hide (HR.out wr p n c hr (by have := Hl.out; omega) HI.out.below)
    clear hown hr
    go_wp2
    exact HF.out
 ·go_enter Tryz.func165, Tryz.ntmps165
  go_wp2
  clear hw1 y0 y1 y2 y3 y4 y5
  go_loopw [5, 9] (fun rv sv wq => ∃ (i : Nat), i ≤ N.lins.length ∧ sv = .int .i64 (i : Int) ∧ Hid (NaI w N w.heap.size rv i wq)) (fun _ sv _ => N.lins.length - (intOf sv).toNat)
  case atStart => exact ⟨0, by omega, rfl, HI⟩
  case round =>
   clear HI
   obtain ⟨i, hi, rfl, HI⟩ := hrel
   obtain ⟨y0, y1, y2, y3, y4, y5⟩ := HI.out.box.net6
   by_cases hlt : i < N.lins.length
   ·have q1 : (0 : Int) ≤ (i : Int) := by omega
    have q2 : (i : Int) < (N.lins.length : Int) := by omega
    have h9 := HN.out.lins.keep (Keeps.of_below HI.out.below)
    obtain ⟨b, bo, x, hp, hs, hcell⟩ := h9.at_ hlt
    obtain ⟨s, hse⟩ : ∃ s, x.name = s := ⟨_, rfl⟩
    have m0 : wr.cell? ⟨b, bo + i * 6, none⟩ = some (.string s) := by rw [← hse]; exact hcell 0 _ rfl
    clear hcell hse
    rw [hp] at y4
    clear h9 hp hs
    obtain ⟨i0, hi0, hz0, hz1, hz2⟩ := info_parts infoStr
    obtain ⟨w2, hw2⟩ : ∃ w2, wr.alloc (.cells #[.string s] 9) = w2 := ⟨_, rfl⟩
    have HI2 := hide (HI.out.next (hw2 ▸ balloc (Below.refl _ _) _))
    have hsrc : Src w2 (some ⟨wr.heap.size, 0, none⟩) 1 1 [.string s] := hw2 ▸ Src.lit rfl 1 rfl
    have HSr := hide hsrc
    have Hlt := hide hlt
    clear hsrc
    go_wp2_with (at_builtin; refine Stop.out ?_)
    try rw [hw2]
    clear hw2
    obtain ⟨l, hown⟩ := HI2.out.own
    have HO := hide hown
    refine Stop.go ?_
    refine wpList_app _ rfl (.tmp 82) (.tmp 89) 23 rfl (w.heap.size + 1) 9 i0 _ 1 16 Tryz.underlying23 hi0 hz0 hz1 hz2 rfl (by omega) _ i _ rfl HO.out (some ⟨wr.heap.size, 0, none⟩) 1 1 [.string s] rfl HSr.out (by simp [Value.oneCell']) (by have := Hlt.out; have := Hl.out; unfold maxLen; omega) (by have := Hlt.out; have := Hl.out; omega) (by have := HI2.out.box.lt; omega) ?_
    intro v3 w3 hown3 hg3
    have HI3 : Hid (NaI w N w.heap.size v3 (i + 1) w3) := hide (HI2.out.app HO.out hown3 hg3)
    have hi60 : i ≤ 60 := by have := Hlt.out; have := Hl.out; omega
    clear hown hown3 hg3 hi0 hz0 hz1 hz2
    go_wp2_with fail
    go_roundw
    case rel => exact ⟨i + 1, Hlt.out, by go_num, HI3⟩
    case measure => have := Hlt.out; simp [intOf]; omega
   ·have q2 : ¬ ((i : Int) < (N.lins.length : Int)) := by omega
    obtain ⟨l, hown⟩ := HI.out.own
    obtain ⟨p, n, c, hv, hr, hn⟩ := str_row hown
    subst hv; subst hn
    have HF := hide (HR.out wr p n c hr (by have := Hl.out; omega) HI.out.below)
    clear hown hr
    go_wp2
    exact HF.out
 ·go_enter Tryz.func165, Tryz.ntmps165
  go_wp2
  clear hw1 y0 y1 y2 y3 y4 y5
  go_loopw [5, 10] (fun rv sv wq => ∃ (i : Nat), i ≤ N.clss.length ∧ sv = .int .i64 (i : Int) ∧ Hid (NaI w N w.heap.size rv i wq)) (fun _ sv _ => N.clss.length - (intOf sv).toNat)
  case atStart => exact ⟨0, by omega, rfl, HI⟩
  case round =>
   clear HI
   obtain ⟨i, hi, rfl, HI⟩ := hrel
   obtain ⟨y0, y1, y2, y3, y4, y5⟩ := HI.out.box.net6
   by_cases hlt : i < N.clss.length
   ·have q1 : (0 : Int) ≤ (i : Int) := by omega
    have q2 : (i : Int) < (N.clss.length : Int) := by omega
    have h9 := HN.out.clss.keep (Keeps.of_below HI.out.below)
    obtain ⟨b, bo, x, hp, hs, hcell⟩ := h9.at_ hlt
    obtain ⟨s, hse⟩ : ∃ s, x.name = s := ⟨_, rfl⟩
    have m0 : wr.cell? ⟨b, bo + i * 3, none⟩ = some (.string s) := by rw [← hse]; exact hcell 0 _ rfl
    clear hcell hse
    rw [hp] at y5
    clear h9 hp hs
    obtain ⟨i0, hi0, hz0, hz1, hz2⟩ := info_parts infoStr
    obtain ⟨w2, hw2⟩ : ∃ w2, wr.alloc (.cells #[.string s] 9) = w2 := ⟨_, rfl⟩
    have HI2 := hide (HI.out.next (hw2 ▸ balloc (Below.refl _ _) _))
    have hsrc : Src w2 (some ⟨wr.heap.size, 0, none⟩) 1 1 [.string s] := hw2 ▸ Src.lit rfl 1 rfl
    have HSr := hide hsrc
    have Hlt := hide hlt
    clear hsrc
    go_wp2_with (at_builtin; refine Stop.out ?_)
    try rw [hw2]
    clear hw2
    obtain ⟨l, hown⟩ := HI2.out.own
    have HO := hide hown
    refine Stop.go ?_
    refine wpList_app _ rfl (.tmp 100) (.tmp 107) 23 rfl (w.heap.size + 1) 9 i0 _ 1 16 Tryz.underlying23 hi0 hz0 hz1 hz2 rfl (by omega) _ i _ rfl HO.out (some ⟨wr.heap.size, 0, none⟩) 1 1 [.string s] rfl HSr.out (by simp [Value.oneCell']) (by have := Hlt.out; have := Hl.out; unfold maxLen; omega) (by have := Hlt.out; have := Hl.out; omega) (by have := HI2.out.box.lt; omega) ?_
    intro v3 w3 hown3 hg3
    have HI3 : Hid (NaI w N w.heap.size v3 (i + 1) w3) := hide (HI2.out.app HO.out hown3 hg3)
    have hi60 : i ≤ 60 := by have := Hlt.out; have := Hl.out; omega
    clear hown hown3 hg3 hi0 hz0 hz1 hz2
    go_wp2_with fail
    go_roundw
    case rel => exact ⟨i + 1, Hlt.out, by go_num, HI3⟩
    case measure => have := Hlt.out; simp [intOf]; omega
   ·have q2 : ¬ ((i : Int) < (N.clss.length : Int)) := by omega
    obtain ⟨l, hown⟩ := HI.out.own
    obtain ⟨p, n, c, hv, hr, hn⟩ := str_row hown
    subst hv; subst hn
    have HF := hide (HR.out wr p n c hr (by have := Hl.out; omega) HI.out.below)
    clear hown hr
    go_wp2
    exact HF.out
end
section
open Go.RowKit Go.Shelf
attribute [local go_sem] Oper.semAt_some run_store_func
set_option maxRecDepth 100000 in
set_option maxHeartbeats 2000000 in
theorem few_c (N : Net) (w : World) (R) (hN : NetAt w N) (hR : ∀ b w', Below w.heap.size w w' → R (.returned (.bool b)) w') :
  Calls Tryz.prog 107 #[.agg N.cells] w R := by
 have HR := hide hR; have HN := hide hN
 obtain ⟨w1, hw1⟩ : ∃ w1, w.alloc (.cells N.cells 29) = w1 := ⟨_, rfl⟩
 have hb1 : Below w.heap.size w w1 := hw1 ▸ balloc (Below.refl _ _) _
 have k1 : Blk w1 w.heap.size N.cells 29 := hw1 ▸ Blk.new _ _ _
 have HB := hide hb1; have HK := hide k1
 obtain ⟨y0, y1, y2, y3, y4, y5⟩ := k1.net6
 unfold Net.cells at hw1 ⊢
 clear hR hN hb1 k1
 go_enter Tryz.func107, Tryz.ntmps107
 go_wp2
 all_goals try exact HR.out _ _ HB.out
 have hl : N.cals.length ≤ 10 ∧ N.names.length ≤ 10 ∧ N.oprs.length ≤ 10 ∧ N.offs.length ≤ 16 ∧ N.lins.length ≤ 50 ∧ N.clss.length ≤ 8 := by omega
 have Hl := hide hl
 clear hw1 y0 y1 y2 y3 y4 y5
 go_loopw [3] (fun sv wq => ∃ i : Nat, i ≤ N.cals.length ∧ sv = .int .i64 (i : Int) ∧ Hid (Below w.heap.size w wq) ∧ Hid (Blk wq w.heap.size N.cells 29)) (fun sv _ => N.cals.length - (intOf sv).toNat)
 case atStart => exact ⟨0, by omega, rfl, HB, HK⟩
 case round =>
  clear HB HK
  obtain ⟨i, hi, rfl, HB, HK⟩ := hrel
  obtain ⟨y0, y1, y2, y3, y4, y5⟩ := HK.out.net6
  by_cases hlt : i < N.cals.length
  ·have q1 : (0 : Int) ≤ (i : Int) := by omega
   have q2 : (i : Int) < (N.cals.length : Int) := by omega
   obtain ⟨b, bo, x, hp, hx, hcell⟩ := (HN.out.next HB.out).cals.at_ hlt
   have m0 : wr.cell? ⟨b, bo + i * 3, none⟩ = some (.int .i64 x.zone) := hcell 0 _ rfl; have m1 := hcell 1 _ rfl; have m2 := hcell 2 _ rfl
   have Hlt := hide hlt
   rw [hp] at y0
   clear hcell hp hx
   go_wp2_with (go_at_call 164; refine Stop.out ?_)
   refine Stop.go (calSmall_c x wr _ ?_)
   intro bb w2 hb
   have HB2 := hide (bseq HB.out hb); have HK2 := hide (HK.out.next hb)
   have hi60 : i ≤ 60 := by have := Hlt.out; have := Hl.out; omega
   clear hb m0 m1 m2 y0 y1 y2 y3 y4 y5
   cases bb with
   | true =>
    go_wp2
    go_roundw
    case rel => exact ⟨i + 1, Hlt.out, by go_num, HB2, HK2⟩
    case measure => have := Hlt.out; simp [intOf]; omega
   | false =>
    go_wp2
    exact HR.out _ _ HB2.out
  ·have q2 : ¬ ((i : Int) < (N.cals.length : Int)) := by omega
   have HB0 := HB; have HK0 := HK
   go_wp2
   clear y0 y1 y2 y3 y4 y5 HB HK
   go_loopw [4] (fun sv wq => ∃ i : Nat, i ≤ N.offs.length ∧ sv = .int .i64 (i : Int) ∧ Hid (Below w.heap.size w wq) ∧ Hid (Blk wq w.heap.size N.cells 29)) (fun sv _ => N.offs.length - (intOf sv).toNat)
   case atStart => exact ⟨0, by omega, rfl, HB0, HK0⟩
   case round =>
    clear HB0 HK0
    obtain ⟨j, hj, rfl, HB, HK⟩ := hrel
    obtain ⟨y0, y1, y2, y3, y4, y5⟩ := HK.out.net6
    by_cases hlt : j < N.offs.length
    ·have q1 : (0 : Int) ≤ (j : Int) := by omega
     have q2 : (j : Int) < (N.offs.length : Int) := by omega
     obtain ⟨b, bo, x, hp, hx, hcell⟩ := (HN.out.next HB.out).offs.at_ hlt
     have m6 := hcell 6 _ rfl
     have Hlt := hide hlt
     have hi60 : j ≤ 60 := by have := Hlt.out; have := Hl.out; omega
     rw [hp] at y3
     clear hcell hp hx
     by_cases h30 : 30 < x.codes.length
     ·have r1 : (30 : Int) < (x.codes.length : Int) := by omega
      go_wp2
      exact HR.out _ _ HB.out
     ·have r1 : ¬ ((30 : Int) < (x.codes.length : Int)) := by omega
      go_wp2
      go_roundw
      case rel => exact ⟨j + 1, Hlt.out, by go_num, HB, HK⟩
      case measure => have := Hlt.out; simp [intOf]; omega
    ·have q2 : ¬ ((j : Int) < (N.offs.length : Int)) := by omega
     have HB1 := HB; have HK1 := HK
     go_wp2
     clear y0 y1 y2 y3 y4 y5 HB HK
     go_loopw [5] (fun sv wq => ∃ k : Int, (1 ≤ k ∧ k ≤ 6) ∧ sv = .int .i64 k ∧ Hid (Below w.heap.size w wq) ∧ Hid (Blk wq w.heap.size N.cells 29)) (fun sv _ => (6 - intOf sv).toNat)
     case atStart => exact ⟨1, by omega, rfl, HB1, HK1⟩
     case round =>
      clear HB1 HK1
      obtain ⟨k, hk, rfl, HB, HK⟩ := hrel
      by_cases hk6 : k ≤ 5
      ·obtain ⟨y0, y1, y2, y3, y4, y5⟩ := HK.out.net6
       go_wp2_with (go_at_call 165; refine Stop.out ?_)
       have hcall := refNames_c N k wr
       unfold Net.cells at hcall
       refine Stop.go (hcall _ ⟨by omega, hk6⟩ (HN.out.next HB.out) Hl.out ?_)
       intro w2 p n c hrow hn50 hb
       have HB2 := hide (bseq HB.out hb); have HK2 := hide (HK.out.next hb); have Hrow := hide hrow
       clear hb hrow y0 y1 y2 y3 y4 y5 hcall
       have HBk := HB; have HKk := HK
       clear HB HK
       go_wp2
       go_loopw [7] (fun sv wq => (∃ i : Nat, i ≤ n ∧ sv = .int .i64 (i : Int)) ∧ wq = w2) (fun sv _ => n - (intOf sv).toNat)
       case atStart => exact ⟨⟨0, by omega, rfl⟩, rfl⟩
       case round =>
        obtain ⟨⟨i, hi, rfl⟩, hwq⟩ := hrel
        subst hwq
        by_cases hlt3 : i < n
        ·have q1 : (0 : Int) ≤ (i : Int) := by omega
         have q2 : (i : Int) < (n : Int) := by omega
         obtain ⟨l, hln, hE⟩ := Hrow.out
         obtain ⟨b, bo, s, hp, hs, hcell⟩ := hE.at_ (i := i) (by omega)
         have m0 := hcell 0 _ rfl
         simp only [Nat.mul_one, Nat.add_zero] at m0
         have Hlt := hide hlt3
         rw [hp]
         clear hE hcell hp hs hln
         by_cases h40 : 40 < s.size
         ·have r1 : (40 : Int) < (s.size : Int) := by omega
          go_wp2
          exact HR.out _ _ HB2.out
         ·have r1 : ¬ ((40 : Int) < (s.size : Int)) := by omega
          go_wp2
          go_roundw
          case rel => exact ⟨⟨i + 1, Hlt.out, by go_num⟩, by first | rfl | trivial⟩
          case measure => have := Hlt.out; simp [intOf]; omega
        ·have q2 : ¬ ((i : Int) < (n : Int)) := by omega
         have e1 : IntKind.i64.wrap (k + 1) = k + 1 := IntWalk.i64_in _ (by omega)
         go_wp2
         go_roundw
         case rel => exact ⟨k + 1, by omega, by first | rfl | go_num, HB2, HK2⟩
         case measure => simp [intOf]; omega
      ·go_wp2
       exact HR.out _ _ HB.out
end
section
open Go.RowKit Go.Shelf
attribute [local go_sem] Oper.semAt_some run_store_func
set_option maxRecDepth 100000 in
set_option maxHeartbeats 2000000 in
theorem small_c (N : Net) (w : World) (R) (hN : NetAt w N) (hR : ∀ b w', (b = true → N.offs.length ≤ 6) → Below w.heap.size w w' → R (.returned (.bool b)) w') :
  Calls Tryz.prog 34 #[.agg N.cells, .slice none 0 0] w R := by
 have HR := hide hR; have HN := hide hN
 obtain ⟨w1, hw1⟩ : ∃ w1, w.alloc (.cells N.cells 29) = w1 := ⟨_, rfl⟩
 have hb1 : Below w.heap.size w w1 := hw1 ▸ balloc (Below.refl _ _) _
 have k1 : Blk w1 w.heap.size N.cells 29 := hw1 ▸ Blk.new _ _ _
 have HB := hide hb1; have HK := hide k1
 obtain ⟨y0, y1, y2, y3, y4, y5⟩ := k1.net6
 unfold Net.cells at hw1 ⊢
 clear hR hN hb1 k1
 go_enter Tryz.func34, Tryz.ntmps34
 go_wp2_with (go_at_call 107; refine Stop.out ?_)
 have hcall := few_c N w1
 unfold Net.cells at hcall
 clear hw1
 refine Stop.go (hcall _ (HN.out.next HB.out) ?_)
 intro b w2 hb
 have HB2 := hide (bseq HB.out hb)
 obtain ⟨y0', y1', y2', y3', y4', y5'⟩ := (HK.out.next hb).net6
 clear hb y0 y1 y2 y3 y4 y5 hcall
 cases b with
 | false =>
  go_wp2
  exact HR.out _ _ (by simp) HB2.out
 | true =>
  by_cases h6 : 6 < N.offs.length
  ·have r1 : (6 : Int) < (N.offs.length : Int) := by omega
   go_wp2
   exact HR.out _ _ (by simp) HB2.out
  ·have r1 : ¬ ((6 : Int) < (N.offs.length : Int)) := by omega
   have H6 := hide h6
   clear h6
   go_wp2
   go_loopw [5] (fun sv wq => sv = .int .i64 0 ∧ wq = w2) (fun sv _ => 0)
   case atStart => exact ⟨rfl, rfl⟩
   case round =>
    obtain ⟨rfl, hwq⟩ := hrel
    subst hwq
    go_wp2
    exact HR.out _ _ (fun _ => by have := H6.out; omega) HB2.out
end
section
open Go.RowKit Go.Shelf
attribute [local go_sem] Oper.semAt_some run_store_func
set_option maxRecDepth 100000 in
set_option maxHeartbeats 2000000 in
theorem topSmall2_c (N : Net) (fr till : Int) (w : World) (R) (hN : NetAt w N) (hR : ∀ b w', (b = true → N.offs.length ≤ 6 ∧ till ≤ wrap64 (fr + 9)) → Below w.heap.size w w' → R (.returned (.bool b)) w') :
  Calls Tryz.prog 8 #[.agg N.cells, .int .i64 fr, .int .i64 till] w R := by
 have HR := hide hR; have HN := hide hN
 obtain ⟨w1, hw1⟩ : ∃ w1, w.alloc (.cells N.cells 29) = w1 := ⟨_, rfl⟩
 have hb1 : Below w.heap.size w w1 := hw1 ▸ balloc (Below.refl _ _) _
 have k1 : Blk w1 w.heap.size N.cells 29 := hw1 ▸ Blk.new _ _ _
 have HB := hide hb1; have HK := hide k1
 obtain ⟨y0, y1, y2, y3, y4, y5⟩ := k1.net6
 unfold Net.cells at hw1 ⊢
 clear hR hN hb1 k1
 go_enter Tryz.func8, Tryz.ntmps8
 go_wp2_with (go_at_call 34; refine Stop.out ?_)
 have hcall := small_c N w1
 unfold Net.cells at hcall
 clear hw1
 refine Stop.go (hcall _ (HN.out.next HB.out) ?_)
 intro b w2 hb6 hb
 have HB2 := hide (bseq HB.out hb); have H6 := hide hb6
 obtain ⟨y0', y1', y2', y3', y4', y5'⟩ := (HK.out.next hb).net6
 clear hb y0 y1 y2 y3 y4 y5 hcall hb6
 cases b with
 | false =>
  go_wp2
  exact HR.out _ _ (by simp) HB2.out
 | true =>
  have HR2 : Hid (∀ b, (b = true → till ≤ wrap64 (fr + 9)) → R (.returned (.bool b)) w2) := hide (fun b h => HR.out b w2 (fun e => ⟨H6.out rfl, h e⟩) HB2.out)
  go_wp2
  all_goals exact HR2.out _ (by
   intro e
   first
   | exact absurd e (by decide)
   | exact of_decide_eq_true e
   | (have e := of_decide_eq_true e; rw [IntKind.wrap_i64]; exact e))
end
end Go.Proofs.YtgfhcmidnbahjaaGreatDoor
