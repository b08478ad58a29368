/- Holds: whether one event is before another. -/
import Derived.Test.YtaopfoicdjejnaaC12
set_option linter.unusedVariables false
set_option linter.unusedSimpArgs false
namespace Go.Proofs.Ytaopfoicdjejnaa
open Go.RowKit

noncomputable def befB (d : List (List Int)) (es : List Evt) (ts : List Int) (i j : Nat) : Bool := open Classical in decide (befE (dst d) (evF es) (tmF ts) i j)
theorem befB_true {d es ts i j} : befB d es ts i j = true ↔ befE (dst d) (evF es) (tmF ts) i j := by unfold befB; simp
theorem befB_false {d es ts i j} : befB d es ts i j = false ↔ ¬ befE (dst d) (evF es) (tmF ts) i j := by unfold befB; simp
/-- The boxes of Holds. -/
structure HB (d : List (List Int)) (es : List Evt) (ts : List Int) (dp ep tp : Option Addr) (dc ec tc b4 b5 b7 : Nat) (w : World) : Prop where
  k4 : Blk w b4 #[.slice dp d.length dc] 22
  k5 : Blk w b5 #[.slice ep es.length ec] 23
  k7 : Blk w b7 #[.slice tp es.length tc] 25
  rows : RowsAt w dp d
  evs : EvsAt w ep es
  tms : IntsAt .i64 w tp ts
theorem HB.next {d es ts dp ep tp dc ec tc b4 b5 b7} {w w' : World} (h : HB d es ts dp ep tp dc ec tc b4 b5 b7 w) (hb : Below w.heap.size w w') : HB d es ts dp ep tp dc ec tc b4 b5 b7 w' :=
  ⟨h.k4.next hb, h.k5.next hb, h.k7.next hb, h.rows.keep (Keeps.of_below hb), h.evs.keep (Keeps.of_below hb), h.tms.keep (Keeps.of_below hb)⟩
/-- What has been checked of the times. -/
structure HT (d : List (List Int)) (es : List Evt) (ls : List Lgr) (ts : List Int) : Prop where
  well : WellP d es ls
  len : ts.length = es.length
  win : ∀ x ∈ ts, 0 ≤ x ∧ x ≤ 1000000

set_option maxRecDepth 100000 in
set_option maxHeartbeats 2000000 in
theorem before_c {d es ls ts dp ep tp dc ec tc b4 b5 b7} (i j : Nat) (w : World) (R) (hH : HB d es ts dp ep tp dc ec tc b4 b5 b7 w) (hT : HT d es ls ts) (hi : i < es.length) (hj : j < es.length)
    (hR : ∀ w', Dr w w' → R (.returned (.bool (befB d es ts i j))) w') :
    Calls Try.prog 34 #[.int .i64 (i : Int), .int .i64 (j : Int), .pointer (some ⟨b4, 0, none⟩), .pointer (some ⟨b5, 0, none⟩), .pointer (some ⟨b7, 0, none⟩)] w R := by
  have HR := hide hR; have HW := hide hT.well; have Hwin := hide hT.win
  have c4 := hH.k4.cell (k := 0) (v := .slice dp d.length dc) rfl
  have c5 := hH.k5.cell (k := 0) (v := .slice ep es.length ec) rfl
  have c7 := hH.k7.cell (k := 0) (v := .slice tp es.length tc) rfl
  obtain ⟨eb, eo, a, hep, hea, ea0, ea1, ea2, ea3⟩ := hH.evs.ev hi
  obtain ⟨eb', eo', b, hep', heb, eb0, eb1, eb2, eb3⟩ := hH.evs.ev hj
  have h1 : eb' = eb ∧ eo' = eo := by rw [hep] at hep'; injection hep' with h; injection h with h1 h2; exact ⟨h1.symm, h2.symm⟩
  obtain ⟨rfl, rfl⟩ := h1
  subst hep
  have hoa := HW.out.office a (List.mem_of_getElem? hea)
  have hob := HW.out.office b (List.mem_of_getElem? heb)
  obtain ⟨rb, ro, r, q, rc, hdp, hr, cr, hin, hrl⟩ := hH.rows.at_ (i := a.office.toNat) (by omega)
  subst hdp
  have hr2 := (HW.out.dist.row r (List.mem_of_getElem? hr)).1
  obtain ⟨qb, qo, x, hq, hx, cx⟩ := hin.at_ (i := b.office.toNat) (by omega)
  subst hq
  have hdx := dst_at hr hx
  have hrng := HW.out.dist.rng a.office.toNat b.office.toNat
  rw [hdx] at hrng
  obtain ⟨tb, to0, ti, htp, hti, ct1⟩ := hH.tms.at_ (i := i) (by rw [hT.len]; exact hi)
  obtain ⟨tb', to0', tj, htp', htj, ct2⟩ := hH.tms.at_ (i := j) (by rw [hT.len]; exact hj)
  have h1 : tb' = tb ∧ to0' = to0 := by rw [htp] at htp'; injection htp' with h; injection h with h1 h2; exact ⟨h1.symm, h2.symm⟩
  obtain ⟨rfl, rfl⟩ := h1
  subst htp
  have w1 := Hwin.out ti (List.mem_of_getElem? hti)
  have w2 := Hwin.out tj (List.mem_of_getElem? htj)
  have HV := hide (show befB d es ts i j = decide (0 ≤ x ∧ x ≤ tj - ti) by
    unfold befB befE
    have e1 : (evF es i).office = a.office.toNat := by rw [evF_at hea]; rfl
    have e2 : (evF es j).office = b.office.toNat := by rw [evF_at heb]; rfl
    rw [e1, e2, hdx, tmF_at hti, tmF_at htj]
    by_cases h : 0 ≤ x ∧ x ≤ tj - ti <;> simp [h])
  have hoar : a.office < (d.length : Int) := hoa.2
  have hoa0 := hoa.1
  have hob0 := hob.1
  have hobr : b.office < (r.length : Int) := by omega
  have hi2 : (i : Int) < (es.length : Int) := by omega
  have hj2 : (j : Int) < (es.length : Int) := by omega
  have hwr : IntKind.i64.wrap (tj - ti) = tj - ti := IntWalk.i64_in _ (by omega)
  clear hR hH hT hea heb hep' hr hin hrl hr2 hx hdx hti htj htp' hoa hob
  rw [HV.out] at HR
  by_cases hx0 : 0 ≤ x
  · by_cases hy : x ≤ tj - ti
    · rw [decide_eq_true (show 0 ≤ x ∧ x ≤ tj - ti from ⟨hx0, hy⟩)] at HR
      have d1 : decide (0 ≤ x) = true := by simpa using hx0
      have d2 : decide (x ≤ tj - ti) = true := by simpa using hy
      go_enter Try.func34, Try.ntmps34
      go_wp2
      go_quiet (fail)
      go_wp2
      go_quiet (fail)
      go_wp2
      exact HR.out _ (by first | exact Dr.two _ _ _ | exact Dr.one _ _)
    · rw [decide_eq_false (show ¬ (0 ≤ x ∧ x ≤ tj - ti) from fun h => hy h.2)] at HR
      have d1 : decide (0 ≤ x) = true := by simpa using hx0
      have d2 : decide (x ≤ tj - ti) = false := by simpa using hy
      go_enter Try.func34, Try.ntmps34
      go_wp2
      go_quiet (fail)
      go_wp2
      go_quiet (fail)
      go_wp2
      exact HR.out _ (by first | exact Dr.two _ _ _ | exact Dr.one _ _)
  · rw [decide_eq_false (show ¬ (0 ≤ x ∧ x ≤ tj - ti) from fun h => hx0 h.1)] at HR
    have d1 : decide (0 ≤ x) = false := by simpa using hx0
    go_enter Try.func34, Try.ntmps34
    go_wp2
    go_quiet (fail)
    go_wp2
    go_quiet (fail)
    go_wp2
    exact HR.out _ (by first | exact Dr.two _ _ _ | exact Dr.one _ _)
end Go.Proofs.Ytaopfoicdjejnaa
