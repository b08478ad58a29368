/- Digests: the iterator of the rows of a tree. Digests: the root of a tree, the path of a leaf. -/
import Derived.Test.YtkabghifdedmfaaGreatDoorB21
import Derived.Test.YtkabghifdedmfaaGreatDoorB10
set_option linter.unusedVariables false
set_option linter.unusedSimpArgs false
namespace Go.Proofs.YtkabghifdedmfaaGreatDoor
open Go.RowKit

/-- The rows of a tree, the leaves first. -/
def rowsP : Nat → List Int → List (List Int)
  | 0, row => [row]
  | n + 1, row => row :: (if 1 < row.length then rowsP n (aboveP row) else [])
/-- A row as it is handed over. -/
structure Rw where
  g : Nat
  c : Nat
  l : List Int
def encRw (x : Rw) : Array Value := #[.slice (some ⟨x.g, 0, none⟩) x.l.length x.c]
def PxRw (rows : List (List Int)) (pre : List Rw) (x : Rw) (W : World) : Prop := IntsAt .i64 W (some ⟨x.g, 0, none⟩) x.l ∧ 1 ≤ x.l.length ∧ x.l.length ≤ 100000 ∧ ∃ rest, rows = pre.map Rw.l ++ x.l :: rest
theorem rows_c (p : Option Addr) (n cap : Nat) (w : World) (R) (hR : R (.returned (.func (.func 81) #[] #[.pointer (some ⟨w.heap.size, 0, none⟩)])) (w.alloc (.cells #[.slice p n cap] 30))) : Calls Tryz.prog 40 #[.slice p n cap] w R := by
  have HR := hide hR
  clear hR
  go_enter Tryz.func40, Tryz.ntmps40
  go_wp2
  exact HR.out
def leavesP (ls : List ByteArray) : List Int := ls.map leafP
theorem lit2 {B g : Nat} {wr W : World} (h : Below B wr W) (x y : Int) (hg : W.heap.size = g) : IntsAt .i64 (W.alloc (.cells #[.int .i64 x, .int .i64 y] 3)) (some ⟨g, 0, none⟩) [x, y] := hg ▸ IntsAt.lit [x, y]
theorem kpb_ints {bad : World → Nat → Prop} {A B : World} {g : Nat} {l : List Int} (h : Kpb bad A B) (hb : ¬ bad A g) (hg : g < A.heap.size) (hi : IntsAt .i64 A (some ⟨g, 0, none⟩) l) : IntsAt .i64 B (some ⟨g, 0, none⟩) l := fun h0 => by
  obtain ⟨b, o, hp, hc⟩ := hi h0
  injection hp with hp; injection hp with h1 h2
  subst h1; subst h2
  exact ⟨_, _, rfl, fun i x hx => by
    rw [World.cell?_of_block (h.2 _ hg hb).1]; exact hc i x hx⟩
theorem ints_lt {A : World} {g : Nat} {l : List Int} (hi : IntsAt .i64 A (some ⟨g, 0, none⟩) l) (h0 : 0 < l.length) : g < A.heap.size := by
  obtain ⟨b, o, hp, hc⟩ := hi h0
  injection hp with hp; injection hp with h1 h2
  subst h1; subst h2
  exact World.block_lt_of_cell? A _ (hc 0 _ (List.getElem?_eq_getElem h0))
/-- The rows that are still to come. -/
theorem rowsP_more {n : Nat} {row : List Int} (hl : row.length ≤ 2 ^ n) : rowsP n row = row :: (if 1 < row.length then rowsP (n - 1) (aboveP row) else []) := by
  cases n with
  | zero => rw [rowsP, if_neg (by simpa using hl)]
  | succ n => rfl
set_option maxRecDepth 100000 in
set_option maxHeartbeats 2000000 in
theorem rows_seq (n : Nat) (hn : 1 ≤ n) (ls : List ByteArray) (p : Option Addr) (cap m B1 K : Nat) (w0 w : World) (hm : ls.length = m) (hm0 : 1 ≤ m) (hmK : m ≤ 2 ^ K) (hm1 : m ≤ 1000) (hls : ∀ s ∈ ls, s.size ≤ 100000) (hT : StrsAt w0 p ls) (hb : Below w0.heap.size w0 w) (c1 : w.cell? ⟨B1, 0, none⟩ = some (.slice p m cap)) :
    SeqC Fence.wide n Tryz.prog 81 #[.pointer (some ⟨B1, 0, none⟩)] encRw (PxRw (rowsP K (leavesP ls))) (fun k => k < w0.heap.size ∨ k = B1) (fun xs => xs.map Rw.l = rowsP K (leavesP ls)) 1000 w := by
  intro l J bad W hW hJs hK hY h0
  have HJs := hide hJs; have HY := hide hY; have Hm := hide hm; have HT := hide hT; have Hls := hide hls
  have hbW : Below w0.heap.size w0 W := hb.trans (hW.mono hb.size)
  have HBW := hide hbW
  have c1W := cell_later hW c1
  have HC := hide c1W
  have HJ0 := hide h0
  have HmK := hide hmK
  have Hll := hide (show (leavesP ls).length = m by unfold leavesP; rw [List.length_map]; exact hm)
  clear hJs hK hY hm hT hb hbW hW c1 h0 hls hmK
  obtain ⟨w1, hmk, hrow, hb1⟩ := mk32 W m (by omega)
  have H0 : Hid (w1.ownsRow W.heap.size 3 1 (.slice (some ⟨W.heap.size, 0, none⟩) m m) m ((fillN (leavesP ls) 0).map (Value.int .i64))) := hide (by
    unfold fillN; rw [List.take_zero, List.nil_append, Hll.out, Nat.sub_zero]; exact hrow)
  have HB1 := hide hb1
  have hm0' : ((m : Int) == 0) = false := by simp; omega
  have c2W := cell_later hb1 c1W
  clear hrow hb1
  refine callsIn_of_wp Tryz.func81 rfl trivial ?_ rfl
  simp only [Tryz.ntmps81, List.size_toArray, List.length_cons, List.length_nil, Nat.reduceAdd, Nat.reduceSub, Array.replicate_succ, Array.replicate_zero, List.push_toArray, List.append_toArray, List.nil_append, List.cons_append]
  refine wpIn_wide.2 ?_
  go_wp2
  go_loopw [14] (fun si wr => ∃ i : Nat, i ≤ m ∧ si = .int .i64 i ∧ Hid (wr.ownsRow W.heap.size 3 1 (.slice (some ⟨W.heap.size, 0, none⟩) m m) m ((fillN (leavesP ls) i).map (Value.int .i64))) ∧ Hid (Below W.heap.size W wr)) (fun si _ => m - (intOf si).toNat)
  case atStart => exact ⟨0, Nat.zero_le _, rfl, H0, HB1⟩
  case round =>
    clear hmk c1W c2W H0
    obtain ⟨i, hi, rfl, HO, HB⟩ := hrel
    by_cases hlt : i < m
    · obtain ⟨b, o, s, rfl, hs, s0, _⟩ := (HT.out.keep (Keeps.of_below (HBW.out.trans (HB.out.mono HBW.out.size)))).at_ (i := i) (by rw [Hm.out]; exact hlt)
      have hsz := Hls.out s (List.mem_of_getElem? hs)
      have Hs := hide hs
      clear hs
      go_wp2_with (go_at_call 63; refine Stop.out ?_)
      refine Stop.go (labelD_c s wr _ hsz ?_)
      intro w3 hb3
      have HO3 := hide (own_below HO.out hb3)
      have HB3 := hide (bseq HB.out hb3)
      have hbl := balloc (Below.refl w3.heap.size w3) (.cells #[.int .i64 0, .int .i64 (labelD s)] 3)
      have fk := own_free (own_below HO3.out hbl) i
      have k0 := owni_cell (own_below HO3.out hbl) hlt
      have HO4 := hide (owni_set (own_below HO3.out hbl) i (leafP s))
      rw [fill_set (l := leavesP ls) (x := leafP s) (by unfold leavesP; rw [List.getElem?_map, Hs.out]; rfl)] at HO4
      have HB4 := hide ((bseq HB3.out hbl).setCell (p := ⟨W.heap.size, i, none⟩) (Nat.le_refl _) (.int .i64 (leafP s)))
      clear hb3 hbl s0
      go_wp2_with (go_at_call 62; refine Stop.out ?_)
      refine Stop.go (sum_c (some ⟨w3.heap.size, 0, none⟩) 2 2 [0, labelD s] _ _ rfl (by decide) (IntsAt.lit [0, labelD s]) ?_)
      go_wp2
      go_roundw
      case rel => exact ⟨i + 1, by omega, by go_num, HO4, HB4⟩
      case measure => simp [intOf]; omega
    · obtain rfl : i = m := by omega
      have h1 := HO.out
      have e1 : fillN (leavesP ls) i = leavesP ls := by have := fill_all (leavesP ls); rw [Hll.out] at this; exact this
      rw [e1] at h1
      have HR0 := hide (IntsAt.of_own h1)
      have hJ := HJs.out [] W wr HJ0.out HB.out
      have HJ1 := hide hJ.1
      have Hnb := hide (show ¬ bad wr W.heap.size from fun hh => by have := (hJ.2 _ hh).2; omega)
      have HX := hide (show ∃ K', i ≤ 2 ^ K' ∧ rowsP K (leavesP ls) = [] ++ rowsP K' (leavesP ls) from ⟨K, HmK.out, rfl⟩)
      clear h1 hJ HO
      go_wp2
      refine (wpIn_wide (n := n)).1 ?_
      gi_loopw [3] (fun sv wq => ∃ (g c : Nat) (row : List Int) (pre : List Rw) (K' : Nat), sv = .slice (some ⟨g, 0, none⟩) row.length c ∧ 1 ≤ row.length ∧ row.length ≤ i ∧ pre.length + row.length ≤ i ∧ Hid (IntsAt .i64 wq (some ⟨g, 0, none⟩) row ∧ ¬ bad wq g ∧ row.length ≤ 2 ^ K' ∧ rowsP K (leavesP ls) = pre.map Rw.l ++ rowsP K' row) ∧ Hid (J pre wq)) (fun sv _ => match sv with | .slice _ n _ => n | _ => 0)
      case atStart => exact ⟨W.heap.size, i, leavesP ls, [], K, by rw [Hll.out], by rw [Hll.out]; exact hm0, by rw [Hll.out]; exact Nat.le_refl _, by rw [Hll.out]; simp, hide ⟨HR0.out, Hnb.out, by rw [Hll.out]; exact HmK.out, rfl⟩, HJ1⟩
      case round =>
        clear HR0 Hnb HJ1 HX e1
        obtain ⟨g, c, row, pre, K', rfl, hr1, hr2, hr3, HI, HJ⟩ := hrel
        obtain ⟨N, hN⟩ : ∃ N, row.length = N := ⟨_, rfl⟩
        have HN := hide hN
        obtain ⟨fn, tmps, assign, body, hy, hR⟩ := HY.out pre ⟨g, c, row⟩ _ HJ.out ⟨HI.out.1, hr1, by show row.length ≤ 100000; omega, _, by rw [HI.out.2.2.2, rowsP_more HI.out.2.2.1]⟩ (by omega)
        unfold encRw at hy
        simp only at hy
        rw [hN] at hr1 hr2 hr3 hy ⊢
        gi_wp2
        refine hR.mono ?_
        rintro e W3 ⟨rfl, hJ3, hk3⟩
        have HJ3 := hide hJ3
        have HI3 := hide (And.intro (kpb_ints hk3 HI.out.2.1 (ints_lt HI.out.1 (by rw [HN.out]; exact hr1)) HI.out.1) (hk3.2 g (ints_lt HI.out.1 (by rw [HN.out]; exact hr1)) HI.out.2.1).2)
        clear hJ3 hk3 hR hy hN
        by_cases h1 : 1 < N
        · gi_wp2_with (gi_at_call 82; refine Stop.out ?_)
          refine Stop.go ⟨trivial, callsIn_wide.2 (above_c (some ⟨g, 0, none⟩) N c row W3 _ HN.out (by omega) hr1 HI3.out.1 ?_)⟩
          intro w4 g4 c4 hb4 hg4 hi4
          have hJ4 := HJs.out _ W3 w4 HJ3.out hb4
          have HJ4 := hide hJ4.1
          have hla : (aboveP row).length = (N + 1) / 2 := by rw [aboveP_len, HN.out]
          have HI4 := hide (show IntsAt .i64 w4 (some ⟨g4, 0, none⟩) (aboveP row) ∧ ¬ bad w4 g4 ∧ (aboveP row).length ≤ 2 ^ (K' - 1) ∧ rowsP K (leavesP ls) = (pre ++ [(⟨g, c, row⟩ : Rw)]).map Rw.l ++ rowsP (K' - 1) (aboveP row) from ⟨hi4, fun hh => by have := (hJ4.2 _ hh).2; omega, by
            have h5 := HI.out.2.2.1
            rw [HN.out] at h5
            rw [hla]
            cases K' with
            | zero => simp at h5; omega
            | succ k => have : 2 ^ (k + 1) = 2 * 2 ^ k := by rw [Nat.pow_succ]; omega
                        show (N + 1) / 2 ≤ 2 ^ k
                        omega, by
            rw [HI.out.2.2.2, rowsP_more HI.out.2.2.1, if_pos (by rw [HN.out]; exact h1), List.map_append]
            simp⟩)
          rw [← hla]
          have Hla := hide hla
          clear hJ4 hb4 hi4 hla
          gi_wp2
          go_roundw
          case rel => exact ⟨g4, c4, aboveP row, pre ++ [⟨g, c, row⟩], K' - 1, rfl, by rw [Hla.out]; omega, by rw [Hla.out]; omega, by rw [Hla.out, List.length_append, List.length_singleton]; omega, HI4, HJ4⟩
          case measure => simp; rw [Hla.out]; omega
        · have HE := hide (show ∃ xs, xs.map Rw.l = rowsP K (leavesP ls) ∧ J xs W3 from ⟨pre ++ [⟨g, c, row⟩], by
            rw [HI.out.2.2.2, rowsP_more HI.out.2.2.1, if_neg (by rw [HN.out]; exact h1), List.map_append]
            rfl, HJ3.out⟩)
          gi_wp2
          go_end0
          exact ⟨⟨_, rfl⟩, HE.out⟩
end Go.Proofs.YtkabghifdedmfaaGreatDoor

namespace Go.Proofs.YtkabghifdedmfaaGreatDoor
open Go.RowKit Go.Sort Go.Shelf
attribute [local go_sem] Oper.semAt_some

/-- The head of the last row. -/
def headL (pre : List Rw) : Int := ((pre.map Rw.l).getLast?.map fun r => r.getD 0 7).getD 7
theorem headL_snoc (pre : List Rw) (x : Rw) : headL (pre ++ [x]) = x.l.getD 0 7 := by unfold headL; rw [List.map_append]; simp
theorem root_rows : ∀ (n : Nat) (row : List Int), ((rowsP n row).getLast?.map fun r => r.getD 0 7).getD 7 = rootP n row
  | 0, row => rfl
  | n + 1, row => by
    rw [rowsP, rootP]
    by_cases h : 1 < row.length
    · rw [if_pos h, if_pos h, ← root_rows n (aboveP row), List.getLast?_cons]
      cases n with
      | zero => rfl
      | succ n => rw [rowsP]; simp [List.getLast?_cons]
    · rw [if_neg h, if_neg h]; rfl
theorem cell_own {B : Nat} {W W' : World} {row : Option Nat} (hg : W.grownBy W' row) (hr : ∀ r, row = some r → B ≤ r ∧ ∃ o : Obj, W.heap[r]? = some o ∧ o.isCells = false) {a : Addr} {v : Value} (h : W.cell? a = some v) : W'.cell? a = some v :=
  hg.cell h fun e => by
    obtain ⟨_, o, ho, hc⟩ := hr _ e.symm
    unfold World.cell? at h
    rw [ho] at h
    cases o with
    | cells cs t m => cases hc
    | _ => cases h
theorem intsR_own {B : Nat} {W W' : World} {row : Option Nat} {k : IntKind} {p : Option Addr} {l : List Int} (hg : W.grownBy W' row) (hr : ∀ r, row = some r → B ≤ r ∧ ∃ o : Obj, W.heap[r]? = some o ∧ o.isCells = false) (h : IntsAt k W p l) : IntsAt k W' p l := fun h0 => by
  obtain ⟨b, o, hp, hc⟩ := h h0
  exact ⟨b, o, hp, fun i x hx => cell_own hg hr (hc i x hx)⟩
structure RIr (w : World) (pre : List Rw) (W : World) : Prop where
  box : Blk W w.heap.size #[.int .i64 (headL pre)] 3
  below : Below w.heap.size w W
set_option maxRecDepth 100000 in
set_option maxHeartbeats 2000000 in
theorem root_c (p : Option Addr) (n cap K : Nat) (ls : List ByteArray) (w : World) (R) (hn : ls.length = n) (hn0 : 1 ≤ n) (hnK : n ≤ 2 ^ K) (hn1 : n ≤ 1000) (hls : ∀ s ∈ ls, s.size ≤ 100000) (hT : StrsAt w p ls)
    (hR : ∀ w', Below w.heap.size w w' → R (.returned (.int .i64 (rootP K (leavesP ls)))) w') : Calls Tryz.prog 25 #[.slice p n cap] w R := by
  have HR := hide hR; have Hn := hide hn; have HT := hide hT; have Hls := hide hls; have HnK := hide hnK
  have hn2 : ¬ (1000 : Int) < (n : Int) := by omega
  clear hR hn hT hls hnK
  refine (callsIn_wide (n := 5)).1 ?_
  refine callsIn_of_wp_marks Tryz.func25 rfl trivial ?_ rfl
  simp only [Tryz.ntmps25, List.size_toArray, List.length_cons, List.length_nil, Nat.reduceAdd, Nat.reduceSub, Array.replicate_succ, Array.replicate_zero, List.push_toArray, List.append_toArray, List.nil_append, List.cons_append]
  refine wpIn_wide.2 ?_
  go_wp2_with (go_at_call 40; refine Stop.out ?_)
  refine Stop.go (rows_c p n cap _ _ ?_)
  obtain ⟨w2, hw2⟩ : ∃ w2, (w.alloc (.cells #[.int .i64 7] 3)).alloc (.cells #[.slice p n cap] 30) = w2 := ⟨_, rfl⟩
  have hs2 : w2.heap.size = w.heap.size + 2 := by rw [← hw2]; simp
  have hb2 : Below w.heap.size w w2 := by rw [← hw2]; exact balloc (balloc (Below.refl _ _) _) _
  have hbx : Blk w2 w.heap.size #[.int .i64 7] 3 := by rw [← hw2]; exact (Blk.new _ _ _).next (balloc (Below.refl _ _) _)
  have hc1 : w2.cell? ⟨w.heap.size + 1, 0, none⟩ = some (.slice p n cap) := by
    rw [← hw2]; exact (Blk.new_at (n := w.heap.size + 1) (by simp)).cell (k := 0) rfl
  have HI0 := hide (show RIr w [] w2 from ⟨hbx, hb2⟩)
  have Hs2 := hide hs2
  go_wp2

  have HC1 := hide hc1
  clear hw2 hs2 hb2 hbx hc1
  refine (wpIn_wide (n := 5)).1 ?_
  refine rangeFunc_C (α := Rw) rfl (by omega) (gf := 81) (lb := #[.pointer (some ⟨w.heap.size + 1, 0, none⟩)]) rfl trivial (enters_of Tryz.func81 (by kernel_rfl) rfl)
    (rows_seq 4 (by omega) ls p cap n (w.heap.size + 1) K w w2 Hn.out hn0 HnK.out hn1 Hls.out HT.out HI0.out.below HC1.out) (fun _ k => k = w.heap.size) ?hK (fun _ => rfl)
    (RIr w) ?hI ?hIb HI0.out (fun _ W0 x a' W => (IntsAt .i64 W (some ⟨x.g, 0, none⟩) x.l ∧ 1 ≤ x.l.length) ∧ a' = { tmps := #[.slice p n cap, undef, .int .i64 0, .pointer (some ⟨w.heap.size, 0, none⟩), .slice (some ⟨x.g, 0, none⟩) x.l.length x.c, .slice p n cap, .int .i64 (n : Int), .bool false, .slice p n cap, .func (.func 81) #[] #[.pointer (some ⟨w.heap.size + 1, 0, none⟩)], .slice (some ⟨x.g, 0, none⟩) x.l.length x.c, undef, undef, undef, undef], defers := [] }) ?hA ?hassign ?hbody ?hdone
  case hK =>
    rintro k (hk | rfl)
    · exact ⟨Nat.lt_of_lt_of_le hk HI0.out.below.size, by omega⟩
    · exact ⟨by rw [Hs2.out]; omega, by omega⟩
  case hI =>
    intro s W W' row h hg hr
    exact ⟨h.box.same (same_cells hg hr h.box), below_rec h.below hg hr HI0.out.below.size⟩
  case hIb =>
    rintro s W W' row h hg hr k rfl
    exact ⟨rfl, h.box.lt⟩
  case hA =>
    rintro _ W0 a' s W W' row ⟨h0, h1⟩ hg hr
    exact ⟨⟨intsR_own hg hr h0.1, h0.2⟩, h1⟩
  case hassign =>
    intro l pre x W K' hI hp hK
    unfold encRw
    gi_wp2
    exact hK _ _ (KeepsFrom.refl _ _) (Kpb.refl _ _) hI ⟨⟨hp.1, hp.2.1⟩, rfl⟩
  case hbody =>
    rintro l pre x a' W0 W hI hlen ⟨hp, rfl⟩ hk0
    obtain ⟨b, o, y, hpp, hy, y0⟩ := hp.1.at_ (i := 0) (by have := hp.2; omega)
    injection hpp with hpp; injection hpp with hb ho; subst hb; subst ho
    have hlp : (0 : Int) < (x.l.length : Int) := by have := hp.2; omega
    have hd : headL (pre ++ [x]) = y := by rw [headL_snoc, List.getD_eq_getElem?_getD, hy]; rfl
    have d0 : W.cell? ⟨w.heap.size, 0, none⟩ = some (.int .i64 (headL pre)) := hI.box.cell (k := 0) rfl
    have f0 := hI.box.free 0
    have hend := And.intro ((KeepsOthers.setCell W ⟨w.heap.size, 0, none⟩ (.int .i64 y)).from w2.heap.size) (And.intro
      (hk0.trans (show Kpb (fun _ k => k = w2.heap.size + 1 ∨ k = w.heap.size) W (W.setCell ⟨w.heap.size, 0, none⟩ (.int .i64 y)) from ⟨by simp [World.setCell], fun k hk hn => ⟨Below.heap_setCell _ _ _ _ (fun e => hn (.inr e)), hn⟩⟩))
      (show RIr w (pre ++ [x]) (W.setCell ⟨w.heap.size, 0, none⟩ (.int .i64 y)) from ⟨by rw [hd]; exact hI.box.set 0 (.int .i64 y), hI.below.setCell (p := ⟨w.heap.size, 0, none⟩) (Nat.le_refl _) _⟩))
    have He := hide hend
    clear hend hI hk0 hp hy hd
    gi_wp2
    exact He.out
  case hdone =>
    rintro D1 xs W5 hD1 hxs hI hk1
    have hh : headL xs = rootP K (leavesP ls) := by unfold headL; rw [hxs]; exact root_rows K _
    have d0 : W5.cell? ⟨w.heap.size, 0, none⟩ = some (.int .i64 (rootP K (leavesP ls))) := by rw [← hh]; exact hI.box.cell (k := 0) rfl
    have HF := hide (HR.out (W5.putObj D1 (.deferred none)) (hI.below.grown (grownBy_putObj' W5 D1 _) hI.below.size (fun k e => by cases e; have := HI0.out.below.size; omega)))
    have Hk1 := hide hk1
    clear hI hxs hh hk1
    go_wp2
    refine ⟨by simp, .inl ⟨_, _, rfl, run_takeDeferred Hk1.out, ?_⟩⟩
    refine ⟨_, results_tmp rfl _ _ _, ?_⟩
    exact HF.out
end Go.Proofs.YtkabghifdedmfaaGreatDoor
