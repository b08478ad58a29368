/- Whether a unit can be done at once. -/
import Derived.Test.YtaopfoicdjejnaaC3
set_option linter.unusedVariables false
set_option linter.unusedSimpArgs false
namespace Go.Proofs.Ytaopfoicdjejnaa
open Go.RowKit

theorem after_c (sb : Nat) (d : List (List Int)) (us : List Uv) (done : Nat) (off : Int) (u : Nat) (w : World) (R) (hS : SrAt w sb d us) (hok : SrOk d us) (hu : u < us.length) (hd : done < 65536)
    (hR : ∀ w', Below w.heap.size w w' → R (.returned (.agg #[.int .u32 ((done ||| 2 ^ u : Nat) : Int), .int .i64 (offI (some (unF us u).exit))])) w') :
    Calls Try.prog 29 #[.pointer (some ⟨sb, 0, none⟩), .agg #[.int .u32 (done : Int), .int .i64 off], .int .i64 (u : Int)] w R := by
  obtain ⟨x, hx⟩ : ∃ x, us[u]? = some x := ⟨_, List.getElem?_eq_getElem hu⟩
  obtain ⟨hx0, hx1, hx2, hx3, hx4⟩ := hok.ok _ (List.mem_of_getElem? hx)
  rw [unF_at hx] at hR
  cases x with
  | one i e =>
    simp only [Uv.ex] at hx3
    rw [show offI (some (Uv.one i e).un.exit) = e.office by show ((e.office.toNat : Nat) : Int) = _; omega] at hR
    exact after_one sb d us done off u i e w R hS hok hx hd hR
  | leg g a b =>
    simp only [Uv.ex] at hx3
    rw [show offI (some (Uv.leg g a b).un.exit) = b.office by show ((b.office.toNat : Nat) : Int) = _; omega] at hR
    exact after_leg sb d us done off u g a b w R hS hok hx hd hR
theorem fits_c (sb : Nat) (d : List (List Int)) (us : List Uv) (u u' : Nat) (w : World) (R) (hS : SrAt w sb d us) (hok : SrOk d us) (hu : u < us.length) (hu' : u' < us.length)
    (hR : ∀ w', Below w.heap.size w w' → R (.returned (.bool (fitsF (dst d) (unF us) u u'))) w') :
    Calls Try.prog 42 #[.pointer (some ⟨sb, 0, none⟩), .int .i64 (u : Int), .int .i64 (u' : Int)] w R := by
  obtain ⟨x, hx⟩ : ∃ x, us[u]? = some x := ⟨_, List.getElem?_eq_getElem hu⟩
  cases x with
  | one i e => exact fits_one sb d us u u' i e w R hS hok hx hu' hR
  | leg g a b => exact fits_leg sb d us u u' g a b w R hS hok hx hu' hR
theorem free_val {d : List (List Int)} {us : List Uv} {done o : Nat} {time : Int} {u : Nat} {x : Uv} (hu : us[u]? = some x) : freeF (dst d) (unF us) ⟨done, some o⟩ time u = (x.en.toNat == o && x.ex.toNat == o && x.un.span == 0 && beginF (dst d) (unF us) (some o) time u == time) := by
  unfold freeF; rw [unF_at hu]; cases x <;> rfl
set_option maxRecDepth 100000 in
set_option maxHeartbeats 2000000 in
theorem free_one_none (sb : Nat) (d : List (List Int)) (us : List Uv) (done : Nat) (time : Int) (u : Nat) (i : Nat) (e : Evt) (w : World) (R) (hS : SrAt w sb d us) (hok : SrOk d us) (hu : us[u]? = some (.one i e)) (ht : 0 ≤ time) (ht2 : time ≤ 5000000)
    (hR : ∀ w', Below w.heap.size w w' → R (.returned (.bool (freeF (dst d) (unF us) ⟨done, none⟩ time u))) w') :
    Calls Try.prog 49 #[.pointer (some ⟨sb, 0, none⟩), .agg #[.int .u32 (done : Int), .int .i64 (-1)], .int .i64 time, .int .i64 (u : Int)] w R := by
  have HS := hide (hS.keep (Keeps.alloc w (.cells #[.int .u32 (done : Int), .int .i64 (-1)] 54)))
  obtain ⟨dp, dc, b, o', uc, c0, c1, hrow, cu⟩ := HS.out.at_ hu
  simp only [Uv.val] at cu
  have hul : u < us.length := (List.getElem?_eq_some_iff.1 hu).1
  obtain ⟨hx0, hx1, hx2, hx3, hx4⟩ := hok.ok _ (List.mem_of_getElem? hu)
  simp only [Uv.Ok, Uv.en, Uv.ex] at hx0 hx1 hx2 hx3 hx4
  have hR' : ∀ w', Below w.heap.size w w' → R (.returned (.bool false)) w' := hR
  have Hok := hide hok; have HR := hide hR'
  clear hu hok hrow hR hR' hS c0 hx0
  have f2 := m1_ends i e; have f3 := m1_span i e
  go_enter Try.func49, Try.ntmps49
  go_wp2_with (go_at_call 74; refine Stop.out ?_)
  refine Stop.go (endsOne_c i e _ _ ?_)
  intro w' hb
  replace c1 := cell_later hb c1
  replace cu := cell_later hb cu
  have k1 := (Blk.new w #[.int .u32 (done : Int), .int .i64 (-1)] 54).next hb
  have k10 := k1.cell (k := 0) rfl; have k11 := k1.cell (k := 1) rfl; clear k1
  have B := hide (bseq (balloc (Below.refl _ _) _) hb); replace HS := hide (HS.out.keep (Keeps.of_below hb)); clear hb
  have q1 : (e.office == (-1 : Int)) = false := by simp; omega
  clear hx1 hx2 hx3 hx4
  go_wp2
  exact HR.out _ B.out
set_option maxRecDepth 100000 in
set_option maxHeartbeats 2000000 in
theorem free_one_some (sb : Nat) (d : List (List Int)) (us : List Uv) (done : Nat) (o : Nat) (time : Int) (u : Nat) (i : Nat) (e : Evt) (w : World) (R) (hS : SrAt w sb d us) (hok : SrOk d us) (hu : us[u]? = some (.one i e)) (ht : 0 ≤ time) (ht2 : time ≤ 5000000)
    (hoff : o < d.length) (hR : ∀ w', Below w.heap.size w w' → R (.returned (.bool (freeF (dst d) (unF us) ⟨done, (some o)⟩ time u))) w') :
    Calls Try.prog 49 #[.pointer (some ⟨sb, 0, none⟩), .agg #[.int .u32 (done : Int), .int .i64 (o : Int)], .int .i64 time, .int .i64 (u : Int)] w R := by
  have HS := hide (hS.keep (Keeps.alloc w (.cells #[.int .u32 (done : Int), .int .i64 (o : Int)] 54)))
  obtain ⟨dp, dc, b, o', uc, c0, c1, hrow, cu⟩ := HS.out.at_ hu
  simp only [Uv.val] at cu
  have hul : u < us.length := (List.getElem?_eq_some_iff.1 hu).1
  obtain ⟨hx0, hx1, hx2, hx3, hx4⟩ := hok.ok _ (List.mem_of_getElem? hu)
  simp only [Uv.Ok, Uv.en, Uv.ex] at hx0 hx1 hx2 hx3 hx4
  rw [free_val hu] at hR
  have hR' : ∀ w', Below w.heap.size w w' → R (.returned (.bool (e.office.toNat == o && e.office.toNat == o && (0 : Int) == 0 && beginF (dst d) (unF us) (some o) time u == time))) w' := hR
  have Hok := hide hok; have HR := hide hR'
  clear hu hok hrow hR hR' hS c0 hx0
  have f2 := m1_ends i e; have f3 := m1_span i e
  go_enter Try.func49, Try.ntmps49
  go_wp2_with (go_at_call 74; refine Stop.out ?_)
  refine Stop.go (endsOne_c i e _ _ ?_)
  intro w' hb
  replace c1 := cell_later hb c1
  replace cu := cell_later hb cu
  have k1 := (Blk.new w #[.int .u32 (done : Int), .int .i64 (o : Int)] 54).next hb
  have k10 := k1.cell (k := 0) rfl; have k11 := k1.cell (k := 1) rfl; clear k1
  have B := hide (bseq (balloc (Below.refl _ _) _) hb); replace HS := hide (HS.out.keep (Keeps.of_below hb)); clear hb
  by_cases q : e.office = (o : Int)
  rotate_left
  · have q1 : (e.office == (o : Int)) = false := by simpa using q
    have q2 : (e.office.toNat == o) = false := by simp; omega
    have HR1 := hide HR.out
    rw [q2] at HR1
    simp only [Bool.false_and] at HR1
    clear q q2 HR hx1 hx2 hx3 hx4
    go_wp2
    exact HR1.out _ B.out
  have q1 : (e.office == (o : Int)) = true := by simpa using q
  have q2 : (e.office.toNat == o) = true := by simp; omega
  rw [q2] at HR
  simp only [Bool.true_and] at HR
  clear q q2 hx1 hx2 hx3 hx4
  go_wp2_with (go_at_call 75; refine Stop.out ?_)
  refine Stop.go (spanOne_c i e _ _ ?_)
  intro w' hb
  replace k10 := cell_later hb k10
  replace k11 := cell_later hb k11
  replace B := hide (bseq B.out hb); replace HS := hide (HS.out.keep (Keeps.of_below hb)); clear hb c1 cu f2 f3
  simp only [Bool.true_and, beq_self_eq_true] at HR
  go_wp2_with (go_at_call 28; refine Stop.out ?_)
  refine Stop.go (begin_c sb d us done (some o) time u _ _ HS.out Hok.out hul ht ht2 (fun o'' h => by injection h with h; omega) ?_)
  intro w' hb
  replace B := hide (bseq B.out hb); clear hb HS k10 k11
  generalize beginF (dst d) (unF us) (some o) time u = z at *
  go_wp2
  exact HR.out _ B.out
set_option maxRecDepth 100000 in
set_option maxHeartbeats 2000000 in
theorem free_leg_none (sb : Nat) (d : List (List Int)) (us : List Uv) (done : Nat) (time : Int) (u : Nat) (g : Lgr) (a b' : Evt) (w : World) (R) (hS : SrAt w sb d us) (hok : SrOk d us) (hu : us[u]? = some (.leg g a b')) (ht : 0 ≤ time) (ht2 : time ≤ 5000000)
    (hR : ∀ w', Below w.heap.size w w' → R (.returned (.bool (freeF (dst d) (unF us) ⟨done, none⟩ time u))) w') :
    Calls Try.prog 49 #[.pointer (some ⟨sb, 0, none⟩), .agg #[.int .u32 (done : Int), .int .i64 (-1)], .int .i64 time, .int .i64 (u : Int)] w R := by
  have HS := hide (hS.keep (Keeps.alloc w (.cells #[.int .u32 (done : Int), .int .i64 (-1)] 54)))
  obtain ⟨dp, dc, b, o', uc, c0, c1, hrow, cu⟩ := HS.out.at_ hu
  simp only [Uv.val] at cu
  have hul : u < us.length := (List.getElem?_eq_some_iff.1 hu).1
  obtain ⟨hx0, hx1, hx2, hx3, hx4⟩ := hok.ok _ (List.mem_of_getElem? hu)
  simp only [Uv.Ok, Uv.en, Uv.ex] at hx0 hx1 hx2 hx3 hx4
  have hR' : ∀ w', Below w.heap.size w w' → R (.returned (.bool false)) w' := hR
  have Hok := hide hok; have HR := hide hR'
  clear hu hok hrow hR hR' hS c0 hx0
  have f2 := m2_ends g a b'; have f3 := m2_span g a b'
  go_enter Try.func49, Try.ntmps49
  go_wp2_with (go_at_call 69; refine Stop.out ?_)
  refine Stop.go (endsLeg_c g a b' _ _ ?_)
  intro w' hb
  replace c1 := cell_later hb c1
  replace cu := cell_later hb cu
  have k1 := (Blk.new w #[.int .u32 (done : Int), .int .i64 (-1)] 54).next hb
  have k10 := k1.cell (k := 0) rfl; have k11 := k1.cell (k := 1) rfl; clear k1
  have B := hide (bseq (balloc (Below.refl _ _) _) hb); replace HS := hide (HS.out.keep (Keeps.of_below hb)); clear hb
  have q1 : (a.office == (-1 : Int)) = false := by simp; omega
  clear hx1 hx2 hx3 hx4
  go_wp2
  exact HR.out _ B.out
set_option maxRecDepth 100000 in
set_option maxHeartbeats 2000000 in
theorem free_leg_some (sb : Nat) (d : List (List Int)) (us : List Uv) (done : Nat) (o : Nat) (time : Int) (u : Nat) (g : Lgr) (a b' : Evt) (w : World) (R) (hS : SrAt w sb d us) (hok : SrOk d us) (hu : us[u]? = some (.leg g a b')) (ht : 0 ≤ time) (ht2 : time ≤ 5000000)
    (hoff : o < d.length) (hR : ∀ w', Below w.heap.size w w' → R (.returned (.bool (freeF (dst d) (unF us) ⟨done, (some o)⟩ time u))) w') :
    Calls Try.prog 49 #[.pointer (some ⟨sb, 0, none⟩), .agg #[.int .u32 (done : Int), .int .i64 (o : Int)], .int .i64 time, .int .i64 (u : Int)] w R := by
  have HS := hide (hS.keep (Keeps.alloc w (.cells #[.int .u32 (done : Int), .int .i64 (o : Int)] 54)))
  obtain ⟨dp, dc, b, o', uc, c0, c1, hrow, cu⟩ := HS.out.at_ hu
  simp only [Uv.val] at cu
  have hul : u < us.length := (List.getElem?_eq_some_iff.1 hu).1
  obtain ⟨hx0, hx1, hx2, hx3, hx4⟩ := hok.ok _ (List.mem_of_getElem? hu)
  simp only [Uv.Ok, Uv.en, Uv.ex] at hx0 hx1 hx2 hx3 hx4
  rw [free_val hu] at hR
  have hR' : ∀ w', Below w.heap.size w w' → R (.returned (.bool (a.office.toNat == o && b'.office.toNat == o && (g.gap : Int) == 0 && beginF (dst d) (unF us) (some o) time u == time))) w' := hR
  have Hok := hide hok; have HR := hide hR'
  clear hu hok hrow hR hR' hS c0 hx0
  have f2 := m2_ends g a b'; have f3 := m2_span g a b'
  go_enter Try.func49, Try.ntmps49
  go_wp2_with (go_at_call 69; refine Stop.out ?_)
  refine Stop.go (endsLeg_c g a b' _ _ ?_)
  intro w' hb
  replace c1 := cell_later hb c1
  replace cu := cell_later hb cu
  have k1 := (Blk.new w #[.int .u32 (done : Int), .int .i64 (o : Int)] 54).next hb
  have k10 := k1.cell (k := 0) rfl; have k11 := k1.cell (k := 1) rfl; clear k1
  have B := hide (bseq (balloc (Below.refl _ _) _) hb); replace HS := hide (HS.out.keep (Keeps.of_below hb)); clear hb
  by_cases q : a.office = (o : Int)
  rotate_left
  · have q1 : (a.office == (o : Int)) = false := by simpa using q
    have q2 : (a.office.toNat == o) = false := by simp; omega
    have HR1 := hide HR.out
    rw [q2] at HR1
    simp only [Bool.false_and] at HR1
    clear q q2 HR hx1 hx2 hx3 hx4
    go_wp2
    exact HR1.out _ B.out
  have q1 : (a.office == (o : Int)) = true := by simpa using q
  have q2 : (a.office.toNat == o) = true := by simp; omega
  rw [q2] at HR
  clear q q2
  by_cases q : b'.office = (o : Int)
  rotate_left
  · have q3 : (b'.office == (o : Int)) = false := by simpa using q
    have q2 : (b'.office.toNat == o) = false := by simp; omega
    have HR1 := hide HR.out
    rw [q2] at HR1
    simp only [Bool.false_and, Bool.and_false] at HR1
    clear q q2 HR hx1 hx2 hx3 hx4
    go_wp2
    exact HR1.out _ B.out
  have q3 : (b'.office == (o : Int)) = true := by simpa using q
  have q2 : (b'.office.toNat == o) = true := by simp; omega
  rw [q2] at HR
  simp only [Bool.true_and] at HR
  clear q q2 hx1 hx2 hx3 hx4
  go_wp2_with (go_at_call 70; refine Stop.out ?_)
  refine Stop.go (spanLeg_c g a b' _ _ ?_)
  intro w' hb
  replace k10 := cell_later hb k10
  replace k11 := cell_later hb k11
  replace B := hide (bseq B.out hb); replace HS := hide (HS.out.keep (Keeps.of_below hb)); clear hb c1 cu f2 f3
  by_cases q : g.gap = 0
  rotate_left
  · have q4 : (g.gap == (0 : Int)) = false := by simpa using q
    rw [q4] at HR
    simp only [Bool.false_and] at HR
    clear q
    go_wp2
    exact HR.out _ B.out
  have q4 : (g.gap == (0 : Int)) = true := by simpa using q
  rw [q4] at HR
  clear q
  simp only [Bool.true_and, beq_self_eq_true] at HR
  go_wp2_with (go_at_call 28; refine Stop.out ?_)
  refine Stop.go (begin_c sb d us done (some o) time u _ _ HS.out Hok.out hul ht ht2 (fun o'' h => by injection h with h; omega) ?_)
  intro w' hb
  replace B := hide (bseq B.out hb); clear hb HS k10 k11
  generalize beginF (dst d) (unF us) (some o) time u = z at *
  go_wp2
  exact HR.out _ B.out
theorem free_c (sb : Nat) (d : List (List Int)) (us : List Uv) (done : Nat) (off : Option Nat) (time : Int) (u : Nat) (w : World) (R) (hS : SrAt w sb d us) (hok : SrOk d us) (hu : u < us.length) (ht : 0 ≤ time) (ht2 : time ≤ 5000000)
    (hoff : ∀ o, off = some o → o < d.length) (hR : ∀ w', Below w.heap.size w w' → R (.returned (.bool (freeF (dst d) (unF us) ⟨done, off⟩ time u))) w') :
    Calls Try.prog 49 #[.pointer (some ⟨sb, 0, none⟩), .agg #[.int .u32 (done : Int), .int .i64 (offI off)], .int .i64 time, .int .i64 (u : Int)] w R := by
  obtain ⟨x, hx⟩ : ∃ x, us[u]? = some x := ⟨_, List.getElem?_eq_getElem hu⟩
  cases off with
  | none => cases x with
    | one i e => exact free_one_none sb d us done time u i e w R hS hok hx ht ht2 hR
    | leg g a b => exact free_leg_none sb d us done time u g a b w R hS hok hx ht ht2 hR
  | some o => cases x with
    | one i e => exact free_one_some sb d us done o time u i e w R hS hok hx ht ht2 (hoff o rfl) hR
    | leg g a b => exact free_leg_some sb d us done o time u g a b w R hS hok hx ht ht2 (hoff o rfl) hR
end Go.Proofs.Ytaopfoicdjejnaa
