import Derived.Test.YtjaecoebleijmaaC2
import Derived.Test.YtjaecoebleijmaaC3
import Derived.Test.YtjaecoebleijmaaC4
import Derived.OwnWalk
set_option linter.unusedVariables false
set_option linter.unusedSimpArgs false
namespace Go.Proofs.Ytjaecoebleijmaa
open Go.RowKit

def valAt (most : Int) (bytes : List Int) (i : Nat) : Int := if bytes.length = 0 then 0 else bytes.getD (i % bytes.length) 0 % (most + 1)
/-- Values from 0 to most that bytes determine. -/
def valL (n : Nat) (most : Int) (bytes : List Int) : List Int := (List.range n).map (valAt most bytes)
theorem valL_len (n : Nat) (most : Int) (bytes : List Int) : (valL n most bytes).length = n := by simp [valL]
theorem valAt_bd {most : Int} (h : 0 ≤ most) (bytes : List Int) (i : Nat) : 0 ≤ valAt most bytes i ∧ valAt most bytes i ≤ most := by
  unfold valAt
  split
  · omega
  · have h1 := Int.emod_nonneg (bytes.getD (i % bytes.length) 0) (show most + 1 ≠ 0 by omega)
    have h2 := Int.emod_lt_of_pos (bytes.getD (i % bytes.length) 0) (show 0 < most + 1 by omega)
    omega
theorem valL_bd {n : Nat} {most : Int} (h : 0 ≤ most) (bytes : List Int) : Bd most (valL n most bytes) := fun x hx => by
  obtain ⟨i, _, rfl⟩ := List.mem_map.1 hx
  exact valAt_bd h bytes i
theorem wf_u16 {n : Int} : (Lit.int .u16 n).wf = true ↔ 0 ≤ n ∧ n ≤ 65535 := by
  simp [Lit.wf, show IntKind.min .u16 = 0 from rfl, show IntKind.max .u16 = 65535 from rfl]
theorem zeros_cells (n : Nat) (most : Int) (l : List Int) : (madeCells (Value.int .i64 0).cells (n * 1)).toList = ((List.range n).map fun i => if i < 0 then valAt most l i else 0).map (Value.int .i64) := by
  apply List.ext_getElem?
  intro i
  simp only [madeCells, Value.cells, Array.toList_map, Array.toList_range, List.getElem?_map, Nat.mul_one]
  rcases Nat.lt_or_ge i n with h | h
  · rw [List.getElem?_range h]; simp [Nat.mod_one]
  · rw [List.getElem?_eq_none (by simpa using h)]; rfl

theorem grownBy_some {w w' : World} (h : w.grownBy w' none) (r : Option Nat) : w.grownBy w' r := ⟨h.os, h.tape, h.output, h.size, fun k hk _ => h.block k hk (by simp)⟩
def valK (n k : Nat) (most : Int) (l : List Int) : List Int := (List.range n).map fun i => if i < k then valAt most l i else 0
theorem valK_set (n k : Nat) (most : Int) (l : List Int) (x : Int) (hx : valAt most l k = x) : (valK n k most l).set k x = valK n (k + 1) most l := by
  unfold valK
  refine set_range _ _ _ _ _ fun i hi => ?_
  by_cases h : k = i
  · subst h; simp [hx]
  · by_cases h2 : i < k
    · rw [if_pos (by omega), if_neg h, if_pos h2]
    · rw [if_neg (by omega), if_neg h, if_neg h2]
theorem valK_same (n k : Nat) (most : Int) (l : List Int) (hx : l.length = 0) : valK n k most l = valK n (k + 1) most l := by
  unfold valK
  apply List.map_congr_left
  intro i _
  simp [valAt, hx]
theorem valK_all (n : Nat) (most : Int) (l : List Int) : valK n n most l = valL n most l := by
  unfold valK valL
  apply List.map_congr_left
  intro i hi
  rw [if_pos (by simpa using hi)]

set_option maxHeartbeats 1000000 in
theorem values_c (n : Nat) (most : Int) (p : Option Addr) (m cap : Nat) (l : List Int) (w : World) (R) (hm : l.length = m) (hl : m ≤ 500) (hn : n ≤ 500) (h : IntsAt .u16 w p l) (h16 : ∀ x ∈ l, 0 ≤ x ∧ x ≤ 65535) (hmo : 0 ≤ most ∧ most ≤ 60000)
    (hR : ∀ g w', Below w.heap.size w w' → w'.ownsRow w.heap.size 3 1 (.slice (some ⟨g, 0, none⟩) n n) n ((valL n most l).map (Value.int .i64)) → R (.returned (.slice (some ⟨g, 0, none⟩) n n)) w') :
    Calls Try.prog 16 #[.int .i64 n, .int .i64 most, .slice p m cap] w R := by
  obtain ⟨hmo0, hmo1⟩ := hmo
  have Hm := hide hm; have HR := hide hR; have H := hide h; have H16 := hide h16
  clear hm hR h h16
  obtain ⟨i0, hi0, hz0, hz1, hz2⟩ := info_parts Try.info3'
  go_enter Try.func16, Try.ntmps16
  go_wp2_with (at_make; refine Stop.out ?_)
  refine Stop.go ?_
  refine wpList_make_full _ rfl (.tmp 9) (.tmp 9) 22 rfl w.heap.size 3 i0 (.int .i64 0) 1 Try.underlying22 hi0 hz0 hz1 .i64 .i64 n n n rfl rfl rfl rfl (by rw [hz2]; omega) (by unfold maxLen; omega) (Nat.le_refl _) ?_
  intro w1 hown hg
  rw [zeros_cells n most l] at hown
  have Hown := hide (show w1.ownsRow w.heap.size 3 1 _ n ((valK n 0 most l).map (Value.int .i64)) from hown)
  have Hg := hide (grownBy_some hg (some w.heap.size))
  clear hown hg
  go_wp2_with fail
  go_loopw [8] (fun i wr => ∃ k : Nat, k ≤ n ∧ i = .int .i64 k ∧ Hid (wr.ownsRow w.heap.size 3 1 (.slice (some ⟨w.heap.size, 0, none⟩) n n) n ((valK n k most l).map (Value.int .i64))) ∧ Hid (w.grownBy wr (some w.heap.size))) (fun i _ => n - (intOf i).toNat)
  case atStart => exact ⟨0, Nat.zero_le _, rfl, Hown, Hg⟩
  case round =>
    clear Hown Hg
    obtain ⟨k, hk, rfl, Ho, Hg⟩ := hrel
    by_cases hlt : k < n
    · by_cases hm0 : m = 0
      · subst hm0
        go_wp2_with fail
        go_roundw
        case rel => exact ⟨k + 1, by omega, by go_num, hide (by rw [← valK_same _ _ _ _ Hm.out]; exact Ho.out), Hg⟩
        case measure => simp [intOf]; omega
      · have hmp : 0 < m := by omega
        have hkm : k % m < m := Nat.mod_lt _ hmp
        obtain ⟨b, o, x, rfl, hx, hc⟩ := H.out.at_ (i := k % m) (by rw [Hm.out]; exact hkm)
        have hxb := H16.out x (List.mem_of_getElem? hx)
        have hbl := block_lt hc
        replace hc := Hg.out.cell hc (by simp at hbl ⊢; omega)
        have Hv := hide (show valAt most l k = x % (most + 1) by unfold valAt; rw [if_neg (by rw [Hm.out]; exact hm0), Hm.out, getD_of hx])
        have Hx := hide hx
        obtain ⟨y, hy, hcy⟩ := owni_at Ho.out (i := k) hlt
        have hfz := Ho.out.frozenAt k
        clear hx hbl hy
        go_wp2_with fail
        go_roundw
        case rel =>
          refine ⟨k + 1, by omega, by go_num, hide ?_, hide (grownBy_set Hg.out k _)⟩
          have := owni_set Ho.out k (x % (most + 1))
          rw [valK_set _ _ _ _ _ Hv.out] at this
          exact this
        case measure => simp [intOf]; omega
    · obtain rfl : k = n := by omega
      have := Ho.out
      rw [valK_all] at this
      have Hb := hide (show Below w.heap.size w wr from (Below.refl _ _).grown Hg.out (Nat.le_refl _) (fun k e => by cases e; exact Nat.le_refl _))
      have Ho' := hide this
      clear this
      go_wp2_with fail
      exact HR.out _ _ Hb.out Ho'.out

/-- The values with some numbers. -/
def pickL (all l : List Int) : List Int := l.flatMap fun (i : Int) => if 0 ≤ i ∧ i < (all.length : Int) then [all.getD i.toNat 0] else []
theorem pickL_snoc (all l : List Int) (i : Int) : pickL all (l ++ [i]) = pickL all l ++ (if 0 ≤ i ∧ i < all.length then [all.getD i.toNat 0] else []) := by simp [pickL]
theorem pickL_len (all l : List Int) : (pickL all l).length ≤ l.length := by
  induction l with
  | nil => simp [pickL]
  | cons i l ih =>
    have : pickL all (i :: l) = (if 0 ≤ i ∧ i < all.length then [all.getD i.toNat 0] else []) ++ pickL all l := by simp [pickL]
    rw [this]
    split <;> simp <;> omega

set_option maxHeartbeats 1000000 in
theorem picked_c (p q : Option Addr) (n m cap cap' : Nat) (a l : List Int) (w : World) (R) (hn : a.length = n) (hm : l.length = m) (hl : n ≤ 1000000) (hl' : m ≤ 1000000) (h : IntsAt .i64 w p a) (h' : IntsAt .i64 w q l) (hwf : ∀ x ∈ l, (Lit.int .i64 x).wf = true)
    (hR : ∀ v w', Below w.heap.size w w' → w'.ownsRow w.heap.size 3 1 v (pickL a l).length ((pickL a l).map (Value.int .i64)) → R (.returned v) w') :
    Calls Try.prog 17 #[.slice p n cap, .slice q m cap'] w R := by
  have Hn := hide hn; have Hm := hide hm; have HR := hide hR; have H := hide h; have H' := hide h'; have Hwf := hide hwf
  clear hn hm hR h h' hwf
  obtain ⟨i0, hi0, hz0, hz1, hz2⟩ := info_parts Try.info3'
  go_enter Try.func17, Try.ntmps17
  go_wp2_with fail
  go_loopw [5, 6] (fun v i wr => ∃ k : Nat, k ≤ m ∧ i = .int .i64 k ∧ Hid (wr.ownsRow w.heap.size 3 1 v (pickL a (l.take k)).length ((pickL a (l.take k)).map (Value.int .i64))) ∧ Hid (Below w.heap.size w wr)) (fun _ i _ => m - (intOf i).toNat)
  case atStart => exact ⟨0, Nat.zero_le _, rfl, hide (World.ownsRow_nil ..), hide (Below.refl _ _)⟩
  case round =>
    obtain ⟨k, hk, rfl, Ho, Hb⟩ := hrel
    by_cases hlt : k < m
    · obtain ⟨b, o, x, rfl, hx, hc⟩ := (H'.out.keep (Keeps.of_below Hb.out)).at_ (i := k) (by rw [Hm.out]; exact hlt)
      obtain ⟨hx0, hx1⟩ := wf_i64.1 (Hwf.out x (List.mem_of_getElem? hx))
      have Hs := hide (show pickL a (l.take (k + 1)) = pickL a (l.take k) ++ (if 0 ≤ x ∧ x < a.length then [a.getD x.toNat 0] else []) by rw [List.take_add_one, hx]; exact pickL_snoc _ _ _)
      clear hx
      by_cases h0 : 0 ≤ x ∧ x < n
      · obtain ⟨h0, h1⟩ := h0
        obtain ⟨j, rfl⟩ := Int.eq_ofNat_of_zero_le h0
        obtain ⟨b', o', y, rfl, hy, hcy⟩ := (H.out.keep (Keeps.of_below Hb.out)).at_ (i := j) (by rw [Hn.out]; omega)
        have Hs' := hide (show pickL a (l.take (k + 1)) = pickL a (l.take k) ++ [y] by rw [Hs.out, if_pos (by rw [Hn.out]; omega)]; simp [hy])
        have hlk : (pickL a (l.take k)).length ≤ k := Nat.le_trans (pickL_len _ _) (List.length_take_le _ _)
        clear hy Hs
        generalize hpl : pickL a (l.take k) = pl at *
        have Hpl := hide hpl; clear hpl
        go_wp2_with (at_builtin; refine Stop.out ?_)
        refine Stop.go ?_
        refine wpList_app _ rfl (.tmp 27) (.tmp 35) 22 rfl w.heap.size 3 i0 _ 1 8 Try.underlying22 hi0 hz0 hz1 hz2 rfl (by omega) _ pl.length (pl.map (Value.int .i64)) rfl (Ho.out.alloc _) (some ⟨wr.heap.size, 0, none⟩) 1 1 [.int .i64 y] rfl ⟨rfl, fun _ => ⟨_, rfl, fun j u hu => ?_⟩⟩ (ints_oneCell .i64 [y]) (by unfold maxLen; omega) (by omega) (by simp; have := Hb.out.size; omega) ?_
        · match j, hu with
          | 0, hu => cases hu; exact cell_new
        intro v1 w1 hown1 hg1
        have Hb1 := hide (show Below w.heap.size w w1 from Hb.out.grown (World.grownBy.trans (World.grownBy_alloc _ _ _) hg1) Hb.out.size (fun k hk => (Ho.out.lt k hk).1))
        have Hown1 := hide hown1
        clear hown1 hg1
        go_wp2_with fail
        go_roundw
        case rel => exact ⟨k + 1, by omega, by go_num, hide (by rw [Hs'.out]; simpa using Hown1.out), Hb1⟩
        case measure => simp [intOf]; omega
      · have Hs' := hide (show pickL a (l.take (k + 1)) = pickL a (l.take k) by rw [Hs.out, if_neg (by rw [Hn.out]; exact h0), List.append_nil])
        clear Hs
        by_cases h1 : 0 ≤ x
        · have h2 : ¬ x < n := fun h => h0 ⟨h1, h⟩
          clear h0
          go_wp2_with fail
          go_roundw
          case rel => exact ⟨k + 1, by omega, by go_num, hide (by rw [Hs'.out]; exact Ho.out), Hb⟩
          case measure => simp [intOf]; omega
        · clear h0
          go_wp2_with fail
          go_roundw
          case rel => exact ⟨k + 1, by omega, by go_num, hide (by rw [Hs'.out]; exact Ho.out), Hb⟩
          case measure => simp [intOf]; omega
    · have hkm : l.take k = l := List.take_of_length_le (by rw [Hm.out]; omega)
      rw [hkm] at Ho
      clear hkm
      go_wp2_with fail
      exact HR.out _ _ Hb.out Ho.out

theorem boxes3 (w : World) (n step first : Int) : (((w.alloc (.cells #[.int .i64 n] 3)).alloc (.cells #[.int .i64 step] 3)).alloc (.cells #[.int .i64 first] 3)).cell? ⟨w.heap.size, 0, none⟩ = some (.int .i64 n) ∧
    (((w.alloc (.cells #[.int .i64 n] 3)).alloc (.cells #[.int .i64 step] 3)).alloc (.cells #[.int .i64 first] 3)).cell? ⟨w.heap.size + 1, 0, none⟩ = some (.int .i64 step) ∧
    (((w.alloc (.cells #[.int .i64 n] 3)).alloc (.cells #[.int .i64 step] 3)).alloc (.cells #[.int .i64 first] 3)).cell? ⟨w.heap.size + 2, 0, none⟩ = some (.int .i64 first) := by
  have b0 := ((Boxed.new w 3 (.int .i64 n)).alloc (.cells #[.int .i64 step] 3)).alloc (.cells #[.int .i64 first] 3)
  have b1 := (Boxed.new (w.alloc (.cells #[.int .i64 n] 3)) 3 (.int .i64 step)).alloc (.cells #[.int .i64 first] 3)
  have b2 := Boxed.new ((w.alloc (.cells #[.int .i64 n] 3)).alloc (.cells #[.int .i64 step] 3)) 3 (.int .i64 first)
  simp only [World.size_alloc] at b1 b2
  exact ⟨b0.cell, b1.cell, b2.cell⟩
theorem chosen_bad (n step first : Int) (hv : validB n step first = false) (w : World) (R) (hR : R (.returned (.tuple #[.slice none 0 0, .int .i64 1])) w) :
    Calls Try.prog 10 #[.int .i64 n, .int .i64 step, .int .i64 first] w R := by
  have Hv := hide hv
  clear hv
  go_enter Try.func10, Try.ntmps10
  go_wp2_with (go_at_call 20; refine wellFormed_c _ _ _ _ _ ?_; rw [Hv.out])
  exact hR

set_option maxHeartbeats 400000 in
theorem chosen_c (n step first : Int) (hv : validB n step first = true) (w : World) (R)
    (hR : ∀ v w', w'.ownsRow w.heap.size 3 1 v (sq n step first).length ((sq n step first).map (Value.int .i64)) → Below w.heap.size w w' → R (.returned (.tuple #[v, .int .i64 0])) w') :
    Calls Try.prog 10 #[.int .i64 n, .int .i64 step, .int .i64 first] w R := by
  have Hv := hide hv; have HR := hide hR
  clear hv hR
  go_enter Try.func10, Try.ntmps10
  go_wp2_with (go_at_call 20; refine wellFormed_c _ _ _ _ _ ?_; rw [Hv.out])
  go_wp2_with (go_at_call 22; refine Stop.out ?_)
  refine Stop.go (numbers_c _ _ _ _ _ ?_)
  go_wp2_with (go_at_call 21; refine Stop.out ?_)
  obtain ⟨e0, e1, e2⟩ := boxes3 w n step first
  refine Stop.go (collect_c (w.heap.size + 2) w.heap.size (w.heap.size + 1) n step first Hv.out _ (by simp) (by simp; omega) (by simp) e2 e0 e1 _ ?_)
  intro v w' ho hb
  have Ho := hide (own_mono ho (show w.heap.size ≤ _ by simp; omega))
  have Hb := hide (bseq (balloc (balloc (balloc (Below.refl _ _) _) _) _) hb)
  clear ho hb
  go_wp2_with fail
  exact HR.out _ _ Ho.out Hb.out
end Go.Proofs.Ytjaecoebleijmaa
