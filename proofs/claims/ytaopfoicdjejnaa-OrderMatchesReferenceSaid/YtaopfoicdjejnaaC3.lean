/- What is so behind a unit; whether one can be ahead of another; whether it can be done at once. -/
import Derived.Test.YtaopfoicdjejnaaC2
import Derived.Test.YtaopfoicdjejnaaB1
set_option linter.unusedVariables false
set_option linter.unusedSimpArgs false
namespace Go.Proofs.Ytaopfoicdjejnaa
open Go.RowKit

theorem begin_c (sb : Nat) (d : List (List Int)) (us : List Uv) (done : Nat) (off : Option Nat) (time : Int) (u : Nat) (w : World) (R) (hS : SrAt w sb d us) (hok : SrOk d us) (hu : u < us.length) (ht : 0 ≤ time) (ht2 : time ≤ 5000000)
    (hoff : ∀ o, off = some o → o < d.length) (hR : ∀ w', Below w.heap.size w w' → R (.returned (.int .i64 (beginF (dst d) (unF us) off time u))) w') :
    Calls Try.prog 28 #[.pointer (some ⟨sb, 0, none⟩), .agg #[.int .u32 (done : Int), .int .i64 (offI off)], .int .i64 time, .int .i64 (u : Int)] w R := by
  obtain ⟨x, hx⟩ : ∃ x, us[u]? = some x := ⟨_, List.getElem?_eq_getElem hu⟩
  cases off with
  | none => cases x with
    | one i e => exact begin_one_none sb d us done time u i e w R hS hok hx ht ht2 hR
    | leg g a b => exact begin_leg_none sb d us done time u g a b w R hS hok hx ht ht2 hR
  | some o => cases x with
    | one i e => exact begin_one_some sb d us done o time u i e w R hS hok hx ht ht2 (hoff o rfl) hR
    | leg g a b => exact begin_leg_some sb d us done o time u g a b w R hS hok hx ht ht2 (hoff o rfl) hR
set_option maxRecDepth 100000 in
set_option maxHeartbeats 1000000 in
theorem after_one (sb : Nat) (d : List (List Int)) (us : List Uv) (done : Nat) (off : Int) (u : Nat) (i : Nat) (e : Evt) (w : World) (R) (hS : SrAt w sb d us) (hok : SrOk d us) (hu : us[u]? = some (.one i e)) (hd : done < 65536)
    (hR : ∀ w', Below w.heap.size w w' → R (.returned (.agg #[.int .u32 ((done ||| 2 ^ u : Nat) : Int), .int .i64 e.office])) w') :
    Calls Try.prog 29 #[.pointer (some ⟨sb, 0, none⟩), .agg #[.int .u32 (done : Int), .int .i64 off], .int .i64 (u : Int)] w R := by
  have HS := hide (hS.keep ((Keeps.alloc w (.cells #[.int .u32 (done : Int), .int .i64 off] 54)).trans (Keeps.alloc _ (.cells #[.int .u32 0, .int .i64 0] 54))))
  obtain ⟨dp, dc, b, o', uc, c0, c1, hrow, cu⟩ := HS.out.at_ hu
  simp only [Uv.val] at cu
  have hul : u < us.length := (List.getElem?_eq_some_iff.1 hu).1
  have hu16 : u < 16 := by have := hok.few; omega
  have HR := hide hR
  clear hS hu hok hrow hR c0
  have f2 := m1_ends i e
  go_enter Try.func29, Try.ntmps29
  go_wp2_with (go_at_call 74; refine Stop.out ?_)
  refine Stop.go (endsOne_c i e _ _ ?_)
  intro w1 hb
  have k1 := ((Blk.new w #[.int .u32 (done : Int), .int .i64 off] 54).alloc (.cells #[.int .u32 0, .int .i64 0] 54)).next hb
  have k2 := (Blk.new_at (w := w.alloc (.cells #[.int .u32 (done : Int), .int .i64 off] 54)) (cs := #[.int .u32 0, .int .i64 0]) (t := 54) (n := w.heap.size + 1) (by simp)).next hb
  have cb := k1.cell (k := 0) rfl; have cr0 := k2.cell (k := 0) rfl; have cr1 := k2.cell (k := 1) rfl; have fz := k2.free; have K2 := hide k2
  clear k1 k2
  have B := hide (bseq (balloc (balloc (Below.refl _ _) _) _) hb); clear hb HS c1 cu f2
  obtain ⟨q, hq⟩ : ∃ q, 2 ^ u = q := ⟨_, rfl⟩
  obtain ⟨e1, e2, e3⟩ := shl_val hu16 hq
  have e4 := or_val hd (show q < 65536 by rw [← hq]; exact two_lt hu16)
  rw [hq] at HR
  obtain ⟨z, hz⟩ : ∃ z, done ||| q = z := ⟨_, rfl⟩
  rw [hz] at e4 HR
  clear hu16 hd hul hq hz
  go_wp2
  go_still_tail 7, (by kernel_rfl)
  go_wp2
  refine bodyPost_ret (v := .agg #[.int .u32 (z : Int), .int .i64 e.office]) ?_ rfl (HR.out _ ?_)
  · have k3 := ((K2.out.set 0 (.int .u32 (z : Int))).set 1 (.int .i64 e.office)).drew
    have cc0 := k3.cell (k := 0) (v := .int .u32 (z : Int)) rfl; have cc1 := k3.cell (k := 1) (v := .int .i64 e.office) rfl
    simp only [World.cell?_drew] at cc0 cc1
    simp [results, Try.results29, go_sem, cc0, cc1]
  · exact (((B.out.setCell (p := ⟨w.heap.size + 1, 0, none⟩) (by show w.heap.size ≤ w.heap.size + 1; omega) _).setCell (p := ⟨w.heap.size + 1, 1, none⟩) (by show w.heap.size ≤ w.heap.size + 1; omega) _)).drew
set_option maxRecDepth 100000 in
set_option maxHeartbeats 1000000 in
theorem after_leg (sb : Nat) (d : List (List Int)) (us : List Uv) (done : Nat) (off : Int) (u : Nat) (g : Lgr) (a b' : Evt) (w : World) (R) (hS : SrAt w sb d us) (hok : SrOk d us) (hu : us[u]? = some (.leg g a b')) (hd : done < 65536)
    (hR : ∀ w', Below w.heap.size w w' → R (.returned (.agg #[.int .u32 ((done ||| 2 ^ u : Nat) : Int), .int .i64 b'.office])) w') :
    Calls Try.prog 29 #[.pointer (some ⟨sb, 0, none⟩), .agg #[.int .u32 (done : Int), .int .i64 off], .int .i64 (u : Int)] w R := by
  have HS := hide (hS.keep ((Keeps.alloc w (.cells #[.int .u32 (done : Int), .int .i64 off] 54)).trans (Keeps.alloc _ (.cells #[.int .u32 0, .int .i64 0] 54))))
  obtain ⟨dp, dc, b, o', uc, c0, c1, hrow, cu⟩ := HS.out.at_ hu
  simp only [Uv.val] at cu
  have hul : u < us.length := (List.getElem?_eq_some_iff.1 hu).1
  have hu16 : u < 16 := by have := hok.few; omega
  have HR := hide hR
  clear hS hu hok hrow hR c0
  have f2 := m2_ends g a b'
  go_enter Try.func29, Try.ntmps29
  go_wp2_with (go_at_call 69; refine Stop.out ?_)
  refine Stop.go (endsLeg_c g a b' _ _ ?_)
  intro w1 hb
  have k1 := ((Blk.new w #[.int .u32 (done : Int), .int .i64 off] 54).alloc (.cells #[.int .u32 0, .int .i64 0] 54)).next hb
  have k2 := (Blk.new_at (w := w.alloc (.cells #[.int .u32 (done : Int), .int .i64 off] 54)) (cs := #[.int .u32 0, .int .i64 0]) (t := 54) (n := w.heap.size + 1) (by simp)).next hb
  have cb := k1.cell (k := 0) rfl; have cr0 := k2.cell (k := 0) rfl; have cr1 := k2.cell (k := 1) rfl; have fz := k2.free; have K2 := hide k2
  clear k1 k2
  have B := hide (bseq (balloc (balloc (Below.refl _ _) _) _) hb); clear hb HS c1 cu f2
  obtain ⟨q, hq⟩ : ∃ q, 2 ^ u = q := ⟨_, rfl⟩
  obtain ⟨e1, e2, e3⟩ := shl_val hu16 hq
  have e4 := or_val hd (show q < 65536 by rw [← hq]; exact two_lt hu16)
  rw [hq] at HR
  obtain ⟨z, hz⟩ : ∃ z, done ||| q = z := ⟨_, rfl⟩
  rw [hz] at e4 HR
  clear hu16 hd hul hq hz
  go_wp2
  go_still_tail 7, (by kernel_rfl)
  go_wp2
  refine bodyPost_ret (v := .agg #[.int .u32 (z : Int), .int .i64 b'.office]) ?_ rfl (HR.out _ ?_)
  · have k3 := ((K2.out.set 0 (.int .u32 (z : Int))).set 1 (.int .i64 b'.office)).drew
    have cc0 := k3.cell (k := 0) (v := .int .u32 (z : Int)) rfl; have cc1 := k3.cell (k := 1) (v := .int .i64 b'.office) rfl
    simp only [World.cell?_drew] at cc0 cc1
    simp [results, Try.results29, go_sem, cc0, cc1]
  · exact (((B.out.setCell (p := ⟨w.heap.size + 1, 0, none⟩) (by show w.heap.size ≤ w.heap.size + 1; omega) _).setCell (p := ⟨w.heap.size + 1, 1, none⟩) (by show w.heap.size ≤ w.heap.size + 1; omega) _)).drew
set_option maxRecDepth 100000 in
set_option maxHeartbeats 1000000 in
theorem fits_one (sb : Nat) (d : List (List Int)) (us : List Uv) (u u' : Nat) (i : Nat) (e : Evt) (w : World) (R) (hS : SrAt w sb d us) (hok : SrOk d us) (hu : us[u]? = some (.one i e)) (hu' : u' < us.length)
    (hR : ∀ w', Below w.heap.size w w' → R (.returned (.bool (fitsF (dst d) (unF us) u u'))) w') :
    Calls Try.prog 42 #[.pointer (some ⟨sb, 0, none⟩), .int .i64 (u : Int), .int .i64 (u' : Int)] w R := by
  obtain ⟨dp, dc, b, o', uc, c0, c1, hrow, cu⟩ := hS.at_ hu
  simp only [Uv.val] at cu
  have hul : u < us.length := (List.getElem?_eq_some_iff.1 hu).1
  obtain ⟨hx0, hx1, hx2, hx3, hx4⟩ := hok.ok _ (List.mem_of_getElem? hu)
  simp only [Uv.Ok, Uv.en, Uv.ex] at hx0 hx1 hx2 hx3 hx4
  unfold fitsF at hR
  rw [unF_at hu] at hR
  have hR' : ∀ w', Below w.heap.size w w' → R (.returned (.bool (decide (0 ≤ beginF (dst d) (unF us) (some e.office.toNat) (clampLo e.ev + 0) u')))) w' := hR
  have Hok := hide hok; have HR := hide hR'; have HS := hide hS
  clear hu hok hrow hR hR' hS c0 hx0
  have hlo := clampLo_bd e.ev
  have f1 := m1_window i e; have f2 := m1_ends i e; have f3 := m1_span i e
  go_enter Try.func42, Try.ntmps42
  go_wp2_with (go_at_call 76; refine Stop.out ?_)
  refine Stop.go (windowOne_c i e _ _ ?_)
  intro w' hb
  replace c1 := cell_later hb c1
  replace cu := cell_later hb cu
  have B := hide hb; replace HS := hide (HS.out.keep (Keeps.of_below hb)); clear hb
  go_wp2_with (go_at_call 74; refine Stop.out ?_)
  refine Stop.go (endsOne_c i e _ _ ?_)
  intro w' hb
  replace c1 := cell_later hb c1
  replace cu := cell_later hb cu
  replace B := hide (bseq B.out hb); replace HS := hide (HS.out.keep (Keeps.of_below hb)); clear hb
  go_wp2_with (go_at_call 75; refine Stop.out ?_)
  refine Stop.go (spanOne_c i e _ _ ?_)
  intro w' hb
  replace B := hide (bseq B.out hb); replace HS := hide (HS.out.keep (Keeps.of_below hb)); clear hb c1 cu f1 f2 f3
  obtain ⟨o, ho⟩ : ∃ o : Nat, e.office = (o : Int) := ⟨e.office.toNat, by omega⟩
  have ho2 : e.office.toNat = o := by omega
  have ho3 : o < d.length := by omega
  rw [ho2] at HR
  rw [Int.add_zero] at HR
  obtain ⟨t, ht⟩ : ∃ t, clampLo e.ev = t := ⟨_, rfl⟩
  have ht0 : 0 ≤ t := by omega
  have ht1 : t ≤ 2000001 := by omega
  rw [ht] at HR
  have hwr : IntKind.i64.wrap (clampLo e.ev) = t := by rw [ht]; exact IntWalk.i64_in _ (by omega)
  have Ht := hide ht; have Ho := hide ho
  clear ht ho ho2 hlo hx1 hx2 hx3 hx4
  go_wp2_with (go_at_call 28; refine Stop.out ?_)
  rw [Ho.out]
  try rw [Ht.out]
  refine Stop.go (begin_c sb d us 0 (some o) t u' _ _ HS.out Hok.out hu' ht0 (by omega) (fun o'' h => by injection h with h; omega) ?_)
  intro w' hb
  replace B := hide (bseq B.out hb); clear hb HS hwr
  generalize beginF (dst d) (unF us) (some o) t u' = z at *
  go_wp2
  exact HR.out _ B.out
set_option maxRecDepth 100000 in
set_option maxHeartbeats 1000000 in
theorem fits_leg (sb : Nat) (d : List (List Int)) (us : List Uv) (u u' : Nat) (g : Lgr) (a b' : Evt) (w : World) (R) (hS : SrAt w sb d us) (hok : SrOk d us) (hu : us[u]? = some (.leg g a b')) (hu' : u' < us.length)
    (hR : ∀ w', Below w.heap.size w w' → R (.returned (.bool (fitsF (dst d) (unF us) u u'))) w') :
    Calls Try.prog 42 #[.pointer (some ⟨sb, 0, none⟩), .int .i64 (u : Int), .int .i64 (u' : Int)] w R := by
  obtain ⟨dp, dc, b, o', uc, c0, c1, hrow, cu⟩ := hS.at_ hu
  simp only [Uv.val] at cu
  have hul : u < us.length := (List.getElem?_eq_some_iff.1 hu).1
  obtain ⟨hx0, hx1, hx2, hx3, hx4⟩ := hok.ok _ (List.mem_of_getElem? hu)
  simp only [Uv.Ok, Uv.en, Uv.ex] at hx0 hx1 hx2 hx3 hx4
  have hgap := hx0.2.2
  unfold fitsF at hR
  rw [unF_at hu] at hR
  have hR' : ∀ w', Below w.heap.size w w' → R (.returned (.bool (decide (0 ≤ beginF (dst d) (unF us) (some b'.office.toNat) (max (clampLo a.ev) (clampLo b'.ev - g.gap) + g.gap) u')))) w' := hR
  have Hok := hide hok; have HR := hide hR'; have HS := hide hS
  clear hu hok hrow hR hR' hS c0 hx0
  have hlo := clampLo_bd a.ev
  have hlo2 := clampLo_bd b'.ev
  have f1 := m2_window g a b'; have f2 := m2_ends g a b'; have f3 := m2_span g a b'
  go_enter Try.func42, Try.ntmps42
  go_wp2_with (go_at_call 71; refine Stop.out ?_)
  refine Stop.go (windowLeg_c g a b' hgap.1 hgap.2 _ _ ?_)
  intro w' hb
  replace c1 := cell_later hb c1
  replace cu := cell_later hb cu
  have B := hide hb; replace HS := hide (HS.out.keep (Keeps.of_below hb)); clear hb
  go_wp2_with (go_at_call 69; refine Stop.out ?_)
  refine Stop.go (endsLeg_c g a b' _ _ ?_)
  intro w' hb
  replace c1 := cell_later hb c1
  replace cu := cell_later hb cu
  replace B := hide (bseq B.out hb); replace HS := hide (HS.out.keep (Keeps.of_below hb)); clear hb
  go_wp2_with (go_at_call 70; refine Stop.out ?_)
  refine Stop.go (spanLeg_c g a b' _ _ ?_)
  intro w' hb
  replace B := hide (bseq B.out hb); replace HS := hide (HS.out.keep (Keeps.of_below hb)); clear hb c1 cu f1 f2 f3
  obtain ⟨o, ho⟩ : ∃ o : Nat, b'.office = (o : Int) := ⟨b'.office.toNat, by omega⟩
  have ho2 : b'.office.toNat = o := by omega
  have ho3 : o < d.length := by omega
  rw [ho2] at HR
  obtain ⟨t, ht⟩ : ∃ t, max (clampLo a.ev) (clampLo b'.ev - g.gap) + g.gap = t := ⟨_, rfl⟩
  have ht0 : 0 ≤ t := by omega
  have ht1 : t ≤ 2000001 := by omega
  rw [ht] at HR
  have hwr : IntKind.i64.wrap (max (clampLo a.ev) (clampLo b'.ev - g.gap) + g.gap) = t := by rw [ht]; exact IntWalk.i64_in _ (by omega)
  have Ht := hide ht; have Ho := hide ho
  clear ht ho ho2 hlo hx1 hx2 hx3 hx4 hlo2 hgap
  go_wp2_with (go_at_call 28; refine Stop.out ?_)
  rw [Ho.out]
  try rw [Ht.out]
  refine Stop.go (begin_c sb d us 0 (some o) t u' _ _ HS.out Hok.out hu' ht0 (by omega) (fun o'' h => by injection h with h; omega) ?_)
  intro w' hb
  replace B := hide (bseq B.out hb); clear hb HS hwr
  generalize beginF (dst d) (unF us) (some o) t u' = z at *
  go_wp2
  exact HR.out _ B.out
end Go.Proofs.Ytaopfoicdjejnaa
