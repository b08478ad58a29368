/- The search: when a unit can begin, and what is so then. -/
import Derived.Test.YtaopfoicdjejnaaC1
set_option linter.unusedVariables false
set_option linter.unusedSimpArgs false
namespace Go.Proofs.Ytaopfoicdjejnaa
open Go.RowKit

def Uv.en : Uv → Int
  | .one i e => e.office
  | .leg g a b => a.office
def Uv.ex : Uv → Int
  | .one i e => e.office
  | .leg g a b => b.office
abbrev UvsAt := EncAt 1 (fun u : Uv => [u.val])
def unF (us : List Uv) (i : Nat) : Un := ((us[i]?).map Uv.un).getD ⟨0, 0, 0, 0, 0⟩
theorem unF_at {us : List Uv} {i : Nat} {u : Uv} (h : us[i]? = some u) : unF us i = u.un := by unfold unF; rw [h]; rfl
/-- Distances and units of a search that lies in memory. -/
def SrAt (w : World) (sb : Nat) (d : List (List Int)) (us : List Uv) : Prop :=
  ∃ dp dc up uc, w.cell? ⟨sb, 0, none⟩ = some (.slice dp d.length dc) ∧ w.cell? ⟨sb, 1, none⟩ = some (.slice up us.length uc) ∧ RowsAt w dp d ∧ UvsAt w up us
theorem SrAt.keep {w w' : World} {sb : Nat} {d : List (List Int)} {us : List Uv} (hk : Keeps w w') (h : SrAt w sb d us) : SrAt w' sb d us := by
  obtain ⟨dp, dc, up, uc, h1, h2, h3, h4⟩ := h
  exact ⟨dp, dc, up, uc, hk _ _ h1, hk _ _ h2, h3.keep hk, h4.keep hk⟩
/-- The units fit the distances. -/
structure SrOk (d : List (List Int)) (us : List Uv) : Prop where
  dist : DistP d
  few : us.length ≤ 16
  ok : ∀ u ∈ us, u.Ok ∧ 0 ≤ u.en ∧ u.en < d.length ∧ 0 ≤ u.ex ∧ u.ex < d.length
def offI : Option Nat → Int
  | none => -1
  | some o => o
abbrev sttV (done : Nat) (off : Int) : Value := .agg #[.int .u32 (done : Int), .int .i64 off]


theorem m1_window (i : Nat) (e : Evt) (w : World) : (method 215 80 (agOne i e) "postilion/order.window").run Try.prog w = .ok (76, agOne i e) w := by kernel_rfl
theorem m2_window (g : Lgr) (a b : Evt) (w : World) : (method 215 78 (agLeg g a b) "postilion/order.window").run Try.prog w = .ok (71, agLeg g a b) w := by kernel_rfl
theorem m1_ends (i : Nat) (e : Evt) (w : World) : (method 215 80 (agOne i e) "postilion/order.ends").run Try.prog w = .ok (74, agOne i e) w := by kernel_rfl
theorem m2_ends (g : Lgr) (a b : Evt) (w : World) : (method 215 78 (agLeg g a b) "postilion/order.ends").run Try.prog w = .ok (69, agLeg g a b) w := by kernel_rfl
theorem m1_span (i : Nat) (e : Evt) (w : World) : (method 215 80 (agOne i e) "postilion/order.span").run Try.prog w = .ok (75, agOne i e) w := by kernel_rfl
theorem m2_span (g : Lgr) (a b : Evt) (w : World) : (method 215 78 (agLeg g a b) "postilion/order.span").run Try.prog w = .ok (70, agLeg g a b) w := by kernel_rfl
theorem m1_write (i : Nat) (e : Evt) (w : World) : (method 215 80 (agOne i e) "postilion/order.write").run Try.prog w = .ok (77, agOne i e) w := by kernel_rfl
theorem m2_write (g : Lgr) (a b : Evt) (w : World) : (method 215 78 (agLeg g a b) "postilion/order.write").run Try.prog w = .ok (72, agLeg g a b) w := by kernel_rfl

theorem SrAt.at_ {w : World} {sb : Nat} {d : List (List Int)} {us : List Uv} (h : SrAt w sb d us) {i : Nat} {u : Uv} (hu : us[i]? = some u) :
    ∃ dp dc b o uc, w.cell? ⟨sb, 0, none⟩ = some (.slice dp d.length dc) ∧ w.cell? ⟨sb, 1, none⟩ = some (.slice (some ⟨b, o, none⟩) us.length uc) ∧ RowsAt w dp d ∧ w.cell? ⟨b, o + i, none⟩ = some u.val := by
  obtain ⟨dp, dc, up, uc, h1, h2, h3, h4⟩ := h
  obtain ⟨b, o, x, rfl, hx, hc⟩ := h4.at_ (List.getElem?_eq_some_iff.1 hu).1
  rw [hu] at hx; injection hx with hx; subst hx
  exact ⟨dp, dc, b, o, uc, h1, h2, h3, by have := hc 0 _ rfl; simpa using this⟩

theorem begin_val {d : List (List Int)} {us : List Uv} {off : Option Nat} {time f lo hi : Int} {u : Nat} {x : Uv} (hu : us[u]? = some x) (hf : far (dst d) off x.en.toNat = f) (hlo : x.un.low = lo) (hhi : x.un.high = hi) :
    beginF (dst d) (unF us) off time u = if f < 0 ∨ hi < time + f then -1 else max lo (time + f) := by
  subst hlo; subst hhi
  unfold beginF
  rw [unF_at hu, show x.un.entry = x.en.toNat by cases x <;> rfl, hf]
set_option maxHeartbeats 1000000 in
theorem begin_one_none (sb : Nat) (d : List (List Int)) (us : List Uv) (done : Nat) (time : Int) (u : Nat) (i : Nat) (e : Evt) (w : World) (R) (hS : SrAt w sb d us) (hok : SrOk d us) (hu : us[u]? = some (.one i e)) (ht : 0 ≤ time) (ht2 : time ≤ 5000000)
    (hR : ∀ w', Below w.heap.size w w' → R (.returned (.int .i64 (beginF (dst d) (unF us) none time u))) w') :
    Calls Try.prog 28 #[.pointer (some ⟨sb, 0, none⟩), .agg #[.int .u32 (done : Int), .int .i64 (-1)], .int .i64 time, .int .i64 (u : Int)] w R := by
  have hk := Keeps.alloc w (.cells #[.int .u32 (done : Int), .int .i64 (-1)] 54)
  have HS := hide (hS.keep hk)
  obtain ⟨dp, dc, b, o', uc, c0, c1, hrow, cu⟩ := HS.out.at_ hu
  simp only [Uv.val] at cu
  have hul : u < us.length := (List.getElem?_eq_some_iff.1 hu).1
  obtain ⟨hx0, hx1, hx2, hx3, hx4⟩ := hok.ok _ (List.mem_of_getElem? hu)
  simp only [Uv.Ok, Uv.en, Uv.ex] at hx0 hx1 hx2 hx3 hx4
  have Hu := hide hu; have Hok := hide hok; have Hrow := hide hrow; have HR := hide hR
  clear hk hS hu hok hrow hR hx0
  have f1 := m1_window i e; have f2 := m1_ends i e
  go_enter Try.func28, Try.ntmps28
  go_wp2_with (go_at_call 76; refine Stop.out ?_)
  refine Stop.go (windowOne_c i e _ _ ?_)
  intro w1 hb
  replace c0 := cell_later hb c0; replace c1 := cell_later hb c1; replace cu := cell_later hb cu
  have cb : w1.cell? ⟨w.heap.size, 1, none⟩ = some (.int .i64 (-1)) := cell_later hb (by rw [cell_new]; rfl)
  replace Hrow := hide (Hrow.out.keep (Keeps.of_below hb))
  have B := hide (bseq (balloc (Below.refl _ _) _) hb); clear hb HS
  go_wp2_with (go_at_call 74; refine Stop.out ?_)
  refine Stop.go (endsOne_c i e _ _ ?_)
  intro w2 hb
  replace c0 := cell_later hb c0; replace cb := cell_later hb cb
  replace Hrow := hide (Hrow.out.keep (Keeps.of_below hb))
  replace B := hide (bseq B.out hb); clear hb c1 cu
  have hlo := clampLo_bd e.ev; have hhi := clampHi_bd e.ev
  have HF := hide (begin_val (d := d) (off := none) (time := time) (f := 0) (lo := clampLo e.ev) (hi := clampHi e.ev) Hu.out rfl rfl rfl)
  generalize clampLo e.ev = lo at *
  generalize clampHi e.ev = hi at *
  by_cases hgt : hi < time + 0
  · have HR1 := hide HR.out
    rw [HF.out, if_pos (by omega)] at HR1
    rw [Int.add_zero] at hgt
    clear HR HF
    go_wp2
    exact HR1.out _ B.out
  · have HR1 := hide HR.out
    rw [HF.out, if_neg (by omega)] at HR1
    rw [Int.add_zero] at hgt HR1
    clear HR HF
    go_wp2
    exact HR1.out _ B.out
set_option maxHeartbeats 1000000 in
theorem begin_one_some (sb : Nat) (d : List (List Int)) (us : List Uv) (done : Nat) (o : Nat) (time : Int) (u : Nat) (i : Nat) (e : Evt) (w : World) (R) (hS : SrAt w sb d us) (hok : SrOk d us) (hu : us[u]? = some (.one i e)) (ht : 0 ≤ time) (ht2 : time ≤ 5000000)
    (hoff : o < d.length) (hR : ∀ w', Below w.heap.size w w' → R (.returned (.int .i64 (beginF (dst d) (unF us) (some o) time u))) w') :
    Calls Try.prog 28 #[.pointer (some ⟨sb, 0, none⟩), .agg #[.int .u32 (done : Int), .int .i64 (o : Int)], .int .i64 time, .int .i64 (u : Int)] w R := by
  have hk := Keeps.alloc w (.cells #[.int .u32 (done : Int), .int .i64 (o : Int)] 54)
  have HS := hide (hS.keep hk)
  obtain ⟨dp, dc, b, o', uc, c0, c1, hrow, cu⟩ := HS.out.at_ hu
  simp only [Uv.val] at cu
  have hul : u < us.length := (List.getElem?_eq_some_iff.1 hu).1
  obtain ⟨hx0, hx1, hx2, hx3, hx4⟩ := hok.ok _ (List.mem_of_getElem? hu)
  simp only [Uv.Ok, Uv.en, Uv.ex] at hx0 hx1 hx2 hx3 hx4
  have Hu := hide hu; have Hok := hide hok; have Hrow := hide hrow; have HR := hide hR
  clear hk hS hu hok hrow hR hx0
  have f1 := m1_window i e; have f2 := m1_ends i e
  go_enter Try.func28, Try.ntmps28
  go_wp2_with (go_at_call 76; refine Stop.out ?_)
  refine Stop.go (windowOne_c i e _ _ ?_)
  intro w1 hb
  replace c0 := cell_later hb c0; replace c1 := cell_later hb c1; replace cu := cell_later hb cu
  have cb : w1.cell? ⟨w.heap.size, 1, none⟩ = some (.int .i64 (o : Int)) := cell_later hb (by rw [cell_new]; rfl)
  replace Hrow := hide (Hrow.out.keep (Keeps.of_below hb))
  have B := hide (bseq (balloc (Below.refl _ _) _) hb); clear hb HS
  go_wp2_with (go_at_call 74; refine Stop.out ?_)
  refine Stop.go (endsOne_c i e _ _ ?_)
  intro w2 hb
  replace c0 := cell_later hb c0; replace cb := cell_later hb cb
  replace Hrow := hide (Hrow.out.keep (Keeps.of_below hb))
  replace B := hide (bseq B.out hb); clear hb c1 cu
  have hlo := clampLo_bd e.ev; have hhi := clampHi_bd e.ev
  obtain ⟨rb, ro, r, q, c, hdp, hr, cr, hi, hrl⟩ := Hrow.out.at_ (i := o) hoff
  have hr2 := (Hok.out.dist.row r (List.mem_of_getElem? hr)).1
  obtain ⟨qb, qo, x, hq, hx, cx⟩ := hi.at_ (i := e.office.toNat) (by omega)
  have hd := dst_at hr hx
  have hrng := Hok.out.dist.rng o e.office.toNat
  rw [hd] at hrng
  have HF := hide (begin_val (d := d) (off := some o) (time := time) Hu.out hd (lo := clampLo e.ev) (hi := clampHi e.ev) rfl rfl)
  have hen : e.office < (r.length : Int) := by omega
  have HH := hide (And.intro hr (And.intro hx (And.intro hr2 hd)))
  clear hr hx hr2 hd hi Hrow Hok
  subst hdp; subst hq
  generalize clampLo e.ev = lo at *
  generalize clampHi e.ev = hi at *
  by_cases hxm : x = -1
  · subst hxm
    have HR1 := hide HR.out
    rw [HF.out, if_pos (by omega)] at HR1
    clear HR HF
    go_wp2
    go_quiet (fail)
    go_wp2
    exact HR1.out _ (below_drewN' B.out _)
  · have hx0 : 0 ≤ x := by omega
    have hxb : (x == (-1 : Int)) = false := by simpa using hxm
    clear hxm
    by_cases hgt : hi < time + x
    · have HR1 := hide HR.out
      rw [HF.out, if_pos (by omega)] at HR1
      clear HR HF
      go_wp2
      go_quiet (fail)
      go_wp2
      exact HR1.out _ (below_drewN' B.out _)
    · have HR1 := hide HR.out
      rw [HF.out, if_neg (by omega)] at HR1
      clear HR HF
      go_wp2
      go_quiet (fail)
      go_wp2
      exact HR1.out _ (below_drewN' B.out _)
set_option maxHeartbeats 1000000 in
theorem begin_leg_none (sb : Nat) (d : List (List Int)) (us : List Uv) (done : Nat) (time : Int) (u : Nat) (g : Lgr) (a b' : Evt) (w : World) (R) (hS : SrAt w sb d us) (hok : SrOk d us) (hu : us[u]? = some (.leg g a b')) (ht : 0 ≤ time) (ht2 : time ≤ 5000000)
    (hR : ∀ w', Below w.heap.size w w' → R (.returned (.int .i64 (beginF (dst d) (unF us) none time u))) w') :
    Calls Try.prog 28 #[.pointer (some ⟨sb, 0, none⟩), .agg #[.int .u32 (done : Int), .int .i64 (-1)], .int .i64 time, .int .i64 (u : Int)] w R := by
  have hk := Keeps.alloc w (.cells #[.int .u32 (done : Int), .int .i64 (-1)] 54)
  have HS := hide (hS.keep hk)
  obtain ⟨dp, dc, b, o', uc, c0, c1, hrow, cu⟩ := HS.out.at_ hu
  simp only [Uv.val] at cu
  have hul : u < us.length := (List.getElem?_eq_some_iff.1 hu).1
  obtain ⟨hx0, hx1, hx2, hx3, hx4⟩ := hok.ok _ (List.mem_of_getElem? hu)
  simp only [Uv.Ok, Uv.en, Uv.ex] at hx0 hx1 hx2 hx3 hx4
  have hgap := hx0.2.2
  have Hu := hide hu; have Hok := hide hok; have Hrow := hide hrow; have HR := hide hR
  clear hk hS hu hok hrow hR hx0
  have f1 := m2_window g a b'; have f2 := m2_ends g a b'
  go_enter Try.func28, Try.ntmps28
  go_wp2_with (go_at_call 71; refine Stop.out ?_)
  refine Stop.go (windowLeg_c g a b' hgap.1 hgap.2 _ _ ?_)
  intro w1 hb
  replace c0 := cell_later hb c0; replace c1 := cell_later hb c1; replace cu := cell_later hb cu
  have cb : w1.cell? ⟨w.heap.size, 1, none⟩ = some (.int .i64 (-1)) := cell_later hb (by rw [cell_new]; rfl)
  replace Hrow := hide (Hrow.out.keep (Keeps.of_below hb))
  have B := hide (bseq (balloc (Below.refl _ _) _) hb); clear hb HS
  go_wp2_with (go_at_call 69; refine Stop.out ?_)
  refine Stop.go (endsLeg_c g a b' _ _ ?_)
  intro w2 hb
  replace c0 := cell_later hb c0; replace cb := cell_later hb cb
  replace Hrow := hide (Hrow.out.keep (Keeps.of_below hb))
  replace B := hide (bseq B.out hb); clear hb c1 cu
  have hlo := clampLo_bd a.ev; have hhi := clampHi_bd a.ev
  have hlo2 := clampLo_bd b'.ev; have hhi2 := clampHi_bd b'.ev
  have HF := hide (begin_val (d := d) (off := none) (time := time) (f := 0) (lo := max (clampLo a.ev) (clampLo b'.ev - g.gap)) (hi := min (clampHi a.ev) (clampHi b'.ev - g.gap)) Hu.out rfl rfl rfl)
  obtain ⟨lo, hloe⟩ : ∃ lo, lo = max (clampLo a.ev) (clampLo b'.ev - g.gap) := ⟨_, rfl⟩
  obtain ⟨hi, hhie⟩ : ∃ hi, hi = min (clampHi a.ev) (clampHi b'.ev - g.gap) := ⟨_, rfl⟩
  have hl : -1000000 ≤ lo ∧ lo ≤ 1000001 := by omega
  have hh : hi ≤ 1000000 := by omega
  rw [← hloe, ← hhie] at HF ⊢
  clear hloe hhie
  by_cases hgt : hi < time + 0
  · have HR1 := hide HR.out
    rw [HF.out, if_pos (by omega)] at HR1
    rw [Int.add_zero] at hgt
    clear HR HF
    go_wp2
    exact HR1.out _ B.out
  · have HR1 := hide HR.out
    rw [HF.out, if_neg (by omega)] at HR1
    rw [Int.add_zero] at hgt HR1
    clear HR HF
    go_wp2
    exact HR1.out _ B.out
set_option maxHeartbeats 1000000 in
theorem begin_leg_some (sb : Nat) (d : List (List Int)) (us : List Uv) (done : Nat) (o : Nat) (time : Int) (u : Nat) (g : Lgr) (a b' : Evt) (w : World) (R) (hS : SrAt w sb d us) (hok : SrOk d us) (hu : us[u]? = some (.leg g a b')) (ht : 0 ≤ time) (ht2 : time ≤ 5000000)
    (hoff : o < d.length) (hR : ∀ w', Below w.heap.size w w' → R (.returned (.int .i64 (beginF (dst d) (unF us) (some o) time u))) w') :
    Calls Try.prog 28 #[.pointer (some ⟨sb, 0, none⟩), .agg #[.int .u32 (done : Int), .int .i64 (o : Int)], .int .i64 time, .int .i64 (u : Int)] w R := by
  have hk := Keeps.alloc w (.cells #[.int .u32 (done : Int), .int .i64 (o : Int)] 54)
  have HS := hide (hS.keep hk)
  obtain ⟨dp, dc, b, o', uc, c0, c1, hrow, cu⟩ := HS.out.at_ hu
  simp only [Uv.val] at cu
  have hul : u < us.length := (List.getElem?_eq_some_iff.1 hu).1
  obtain ⟨hx0, hx1, hx2, hx3, hx4⟩ := hok.ok _ (List.mem_of_getElem? hu)
  simp only [Uv.Ok, Uv.en, Uv.ex] at hx0 hx1 hx2 hx3 hx4
  have hgap := hx0.2.2
  have Hu := hide hu; have Hok := hide hok; have Hrow := hide hrow; have HR := hide hR
  clear hk hS hu hok hrow hR hx0
  have f1 := m2_window g a b'; have f2 := m2_ends g a b'
  go_enter Try.func28, Try.ntmps28
  go_wp2_with (go_at_call 71; refine Stop.out ?_)
  refine Stop.go (windowLeg_c g a b' hgap.1 hgap.2 _ _ ?_)
  intro w1 hb
  replace c0 := cell_later hb c0; replace c1 := cell_later hb c1; replace cu := cell_later hb cu
  have cb : w1.cell? ⟨w.heap.size, 1, none⟩ = some (.int .i64 (o : Int)) := cell_later hb (by rw [cell_new]; rfl)
  replace Hrow := hide (Hrow.out.keep (Keeps.of_below hb))
  have B := hide (bseq (balloc (Below.refl _ _) _) hb); clear hb HS
  go_wp2_with (go_at_call 69; refine Stop.out ?_)
  refine Stop.go (endsLeg_c g a b' _ _ ?_)
  intro w2 hb
  replace c0 := cell_later hb c0; replace cb := cell_later hb cb
  replace Hrow := hide (Hrow.out.keep (Keeps.of_below hb))
  replace B := hide (bseq B.out hb); clear hb c1 cu
  have hlo := clampLo_bd a.ev; have hhi := clampHi_bd a.ev
  have hlo2 := clampLo_bd b'.ev; have hhi2 := clampHi_bd b'.ev
  obtain ⟨rb, ro, r, q, c, hdp, hr, cr, hi, hrl⟩ := Hrow.out.at_ (i := o) hoff
  have hr2 := (Hok.out.dist.row r (List.mem_of_getElem? hr)).1
  obtain ⟨qb, qo, x, hq, hx, cx⟩ := hi.at_ (i := a.office.toNat) (by omega)
  have hd := dst_at hr hx
  have hrng := Hok.out.dist.rng o a.office.toNat
  rw [hd] at hrng
  have HF := hide (begin_val (d := d) (off := some o) (time := time) Hu.out hd (lo := max (clampLo a.ev) (clampLo b'.ev - g.gap)) (hi := min (clampHi a.ev) (clampHi b'.ev - g.gap)) rfl rfl)
  have hen : a.office < (r.length : Int) := by omega
  have HH := hide (And.intro hr (And.intro hx (And.intro hr2 hd)))
  clear hr hx hr2 hd hi Hrow Hok
  subst hdp; subst hq
  obtain ⟨lo, hloe⟩ : ∃ lo, lo = max (clampLo a.ev) (clampLo b'.ev - g.gap) := ⟨_, rfl⟩
  obtain ⟨hi, hhie⟩ : ∃ hi, hi = min (clampHi a.ev) (clampHi b'.ev - g.gap) := ⟨_, rfl⟩
  have hl : -1000000 ≤ lo ∧ lo ≤ 1000001 := by omega
  have hh : hi ≤ 1000000 := by omega
  rw [← hloe, ← hhie] at HF ⊢
  clear hloe hhie
  by_cases hxm : x = -1
  · subst hxm
    have HR1 := hide HR.out
    rw [HF.out, if_pos (by omega)] at HR1
    clear HR HF
    go_wp2
    go_quiet (fail)
    go_wp2
    exact HR1.out _ (below_drewN' B.out _)
  · have hx0 : 0 ≤ x := by omega
    have hxb : (x == (-1 : Int)) = false := by simpa using hxm
    clear hxm
    by_cases hgt : hi < time + x
    · have HR1 := hide HR.out
      rw [HF.out, if_pos (by omega)] at HR1
      clear HR HF
      go_wp2
      go_quiet (fail)
      go_wp2
      exact HR1.out _ (below_drewN' B.out _)
    · have HR1 := hide HR.out
      rw [HF.out, if_neg (by omega)] at HR1
      clear HR HF
      go_wp2
      go_quiet (fail)
      go_wp2
      exact HR1.out _ (below_drewN' B.out _)
end Go.Proofs.Ytaopfoicdjejnaa
