/- The reference's search: can all that is left still follow? The reference's search: the region that makes the next state. The reference's search: the states that follow from one. The reference's search: the times on the way to a state. The reference's Fit. OrderMatchesReference: for any distances, events, legs and times, Holds returns the same as the reference implementation, and Fit finds possible times exactly if it does. -/
import Derived.Test.YtaopfoicdjejnaaU1
import Derived.Test.YtaopfoicdjejnaaU2
set_option linter.unusedVariables false
set_option linter.unusedSimpArgs false
namespace Go.Proofs.Ytaopfoicdjejnaa
open Go.RowKit

structure NdOk (d : List (List Int)) (x : Nd) : Prop where
  off : 0 ≤ x.office ∧ x.office < d.length
  stop : 0 ≤ x.stop ∧ x.stop < d.length
  gap : 0 ≤ x.gap ∧ x.gap ≤ 1000000
  low : 0 ≤ x.low ∧ x.low ≤ 1000000
  high : -1000000 ≤ x.high ∧ x.high ≤ 1000000
theorem bit2_c (i p : Nat) (w : World) (R) (hi : i ≤ 7) (hp : 2 ^ i = p) (hR : R (.returned (.int .i64 (p : Int))) w) : Calls Try.prog 31 #[.int .i64 (i : Int)] w R := by
  subst hp; exact bit_c i w R hi hR
theorem bit_mod {set i p : Nat} (hp : 2 ^ i = p) : set.testBit i = decide (set / p % 2 = 1) := by subst hp; exact Nat.testBit_eq_decide_div_mod_eq
theorem pow_bd {i p : Nat} (hi : i ≤ 7) (hp : 2 ^ i = p) : 0 < p ∧ p ≤ 128 := by
  subst hp
  exact ⟨Nat.two_pow_pos i, Nat.pow_le_pow_right (n := 2) (by omega) hi⟩
def stepO (D : Nat → Nat → Int) (us : Nat → Un) (set last : Nat) (time : Int) (i : Nat) : Bool :=
  set.testBit i || (decide (0 ≤ D (us last).exit (us i).entry) && decide (time + (us last).span + D (us last).exit (us i).entry ≤ (us i).high))
theorem openR_no {D : Nat → Nat → Int} {us : Nat → Un} {n set last : Nat} {time : Int} {i : Nat} (hi : i < n) (h : stepO D us set last time i = false) : openR D us n set last time = false := by
  unfold openR
  rw [List.all_eq_false]
  exact ⟨i, by simpa using hi, by show ¬ stepO D us set last time i = true; rw [h]; simp⟩
theorem openR_yes {D : Nat → Nat → Int} {us : Nat → Un} {n set last : Nat} {time : Int} (h : ∀ i < n, stepO D us set last time i = true) : openR D us n set last time = true := by
  unfold openR
  rw [List.all_eq_true]
  exact fun i hi => h i (by simpa using hi)
/-- The way from the end of one node to another, as it lies in memory. -/
theorem way_at {w : World} {dp : Option Addr} {d : List (List Int)} {nds : List Nd} (hd : RowsAt w dp d) (hD : DistP d) (hok : ∀ x ∈ nds, NdOk d x) {x y : Nd} (hx : x ∈ nds) (hy : y ∈ nds) : ∃ b o r rc qb qo z, dp = some ⟨b, o, none⟩ ∧ w.cell? ⟨b, o + x.stop.toNat, none⟩ = some (.slice (some ⟨qb, qo, none⟩) r rc) ∧ w.cell? ⟨qb, qo + y.office.toNat, none⟩ = some (.int .i64 z) ∧ dst d x.stop.toNat y.office.toNat = z ∧ -1 ≤ z ∧ z ≤ 1000000 ∧ y.office < (r : Int) ∧ r ≤ 12 := by
  obtain ⟨s1, s2⟩ := (hok x hx).stop
  obtain ⟨o1, o2⟩ := (hok y hy).off
  have hfew := hD.few
  obtain ⟨b, o, r, q, rc, rfl, hr, cr, hin, _⟩ := hd.at_ (i := x.stop.toNat) (by omega)
  have hrl := (hD.row r (List.mem_of_getElem? hr)).1
  obtain ⟨qb, qo, z, rfl, hz, cz⟩ := hin.at_ (i := y.office.toNat) (by omega)
  have hdz := dst_at hr hz
  have hrng := hD.rng x.stop.toNat y.office.toNat
  rw [hdz] at hrng
  exact ⟨b, o, r.length, rc, qb, qo, z, rfl, cr, cz, hdz, hrng.1, hrng.2, by omega, by omega⟩
set_option maxRecDepth 100000 in
set_option maxHeartbeats 4000000 in
theorem open_c (dp np : Option Addr) (dc nc : Nat) (d : List (List Int)) (nds : List Nd) (set last : Nat) (time : Int) (w : World) (R) (hn : nds.length ≤ 7) (hset : set < 128) (hl : last < nds.length) (ht : 0 ≤ time ∧ time ≤ 1000000) (hD : DistP d) (hd : RowsAt w dp d) (hnd : NdsAt w np nds) (hok : ∀ x ∈ nds, NdOk d x)
    (hR : ∀ w', Dr w w' → R (.returned (.bool (openR (dst d) (unN nds) nds.length set last time))) w') :
    Calls Try.prog 46 #[.slice dp d.length dc, .slice np nds.length nc, .int .i64 (set : Int), .int .i64 (last : Int), .int .i64 time] w R := by
  have HF : Hid (∀ i, i < nds.length → stepO (dst d) (unN nds) set last time i = false → ∀ w', Dr w w' → R (.returned (.bool false)) w') := hide (fun i hi h w' hb => by have := hR w' hb; rw [openR_no hi h] at this; exact this)
  have HT : Hid ((∀ i < nds.length, stepO (dst d) (unN nds) set last time i = true) → ∀ w', Dr w w' → R (.returned (.bool true)) w') := hide (fun h w' hb => by have := hR w' hb; rw [openR_yes h] at this; exact this)
  have Hd := hide hd; have Hnd := hide hnd; have Hok := hide hok; have HD := hide hD
  have hfew := hD.few
  clear hR hd hnd hok hD
  go_enter Try.func46, Try.ntmps46
  go_wp2
  go_loopw [11] (fun si wr => ∃ i nd : Nat, i ≤ nds.length ∧ si = .int .i64 i ∧ Hid (∀ j < i, stepO (dst d) (unN nds) set last time j = true) ∧ wr = w.drewN nd) (fun si _ => nds.length - (intOf si).toNat)
  case atStart => exact ⟨0, 0, Nat.zero_le _, rfl, hide (fun j h => absurd h (by omega)), rfl⟩
  case round =>
    obtain ⟨i, nd, hi, rfl, HA, rfl⟩ := hrel
    by_cases hlt : i < nds.length
    · obtain ⟨nb, no, x, rfl, hx, _, _, _, _, _, x5, x6⟩ := Hnd.out.nd hl
      obtain ⟨nb2, no2, y, h5, hy, _, _, y2, _, y4, _, _⟩ := Hnd.out.nd hlt
      injection h5 with h5; injection h5 with z1 z2
      subst z1; subst z2
      have kx := Hok.out x (List.mem_of_getElem? hx)
      have ky := Hok.out y (List.mem_of_getElem? hy)
      obtain ⟨rb, ro, r, rc, qb, qo, z, rfl, cr, cz, hdz, hz1, hz2, hor, hr12⟩ := way_at Hd.out HD.out Hok.out (List.mem_of_getElem? hx) (List.mem_of_getElem? hy)
      have hstep : stepO (dst d) (unN nds) set last time i = (set.testBit i || (decide (0 ≤ z) && decide (time + x.gap + z ≤ y.high))) := by
        unfold stepO
        rw [unN_at hx, unN_at hy]
        show (set.testBit i || (decide (0 ≤ dst d x.stop.toNat y.office.toNat) && decide (time + x.gap + dst d x.stop.toNat y.office.toNat ≤ y.high))) = _
        rw [hdz]
      obtain ⟨p, hp⟩ : ∃ p, 2 ^ i = p := ⟨_, rfl⟩
      obtain ⟨p0, p1⟩ := pow_bd (i := i) (by omega) hp
      have hbm := bit_mod (set := set) hp
      obtain ⟨m, hm⟩ : ∃ m, set / p = m := ⟨_, rfl⟩
      have hm2 : m < 128 := by rw [← hm]; exact Nat.lt_of_le_of_lt (Nat.div_le_self _ _) hset
      obtain ⟨s1, s2⟩ := kx.stop
      obtain ⟨o1, o2⟩ := ky.off
      obtain ⟨g1, g2⟩ := kx.gap
      obtain ⟨h1, h2⟩ := ky.high
      have HP := hide hp
      rw [hm] at hbm
      have q1 : (set : Int).tdiv (p : Int) = (m : Int) := by rw [← hm]; rfl
      have HS := hide hstep; have HBm := hide hbm
      have hli : (last : Int) < (nds.length : Int) := by omega
      have hii : (i : Int) < (nds.length : Int) := by omega
      have HNext := hide (fun (h : stepO (dst d) (unN nds) set last time i = true) => (show ∀ j < i + 1, stepO (dst d) (unN nds) set last time j = true from fun j hj => by
        rcases Nat.lt_or_ge j i with h' | h'
        · exact HA.out j h'
        · obtain rfl : j = i := by omega
          exact h))
      have HF1 := hide (HF.out i hlt)
      clear hx hy kx ky hdz hstep hp hm hbm
      by_cases t1 : m % 2 = 1
      · have tb : ((m : Int) % 2 == 0) = false := by rw [beq_eq_false_iff_ne]; omega
        have HN2 := hide (HNext.out (by rw [HS.out, HBm.out, decide_eq_true t1]; rfl))
        clear t1
        go_wp2
        go_quiet (fail)
        go_wp2
        go_quiet ((go_at_call 31; exact quiet_add_dr (bit2_c i p _ _ (by omega) HP.out ⟨rfl, Dr.refl _⟩)))
        go_wp2
        go_roundw
        case rel => exact ⟨i + 1, _, by omega, by go_num, HN2, by first | rfl | exact World.drewN_drewN .. | (rw [World.drewN_drewN, World.drewN_drewN])⟩
        case measure => simp [intOf]; omega
      · have tb : ((m : Int) % 2 == 0) = true := by rw [beq_iff_eq]; omega
        by_cases t2 : z < 0
        · have d2 : decide (z < 0) = true := by simpa using t2
          have HF2 := hide (HF1.out (by rw [HS.out, HBm.out, decide_eq_false t1, decide_eq_false (show ¬ 0 ≤ z by omega)]; rfl))
          clear t1
          go_wp2
          go_quiet (fail)
          go_wp2
          go_quiet ((go_at_call 31; exact quiet_add_dr (bit2_c i p _ _ (by omega) HP.out ⟨rfl, Dr.refl _⟩)))
          go_wp2
          exact HF2.out _ (((Dr.one _ _).drewN _).drewN _)
        have d2 : decide (z < 0) = false := by simpa using t2
        have wz1 : IntKind.i64.wrap (time + x.gap) = time + x.gap := IntWalk.i64_in _ (by omega)
        have wz2 : IntKind.i64.wrap (time + x.gap + z) = time + x.gap + z := IntWalk.i64_in _ (by omega)
        by_cases t3 : y.high < time + x.gap + z
        · have d3 : decide (y.high < time + x.gap + z) = true := by simpa using t3
          have HF2 := hide (HF1.out (by rw [HS.out, HBm.out, decide_eq_false t1, decide_eq_true (show 0 ≤ z by omega), decide_eq_false (show ¬ time + x.gap + z ≤ y.high by omega)]; rfl))
          clear t1
          go_wp2
          go_quiet (fail)
          go_wp2
          go_quiet ((go_at_call 31; exact quiet_add_dr (bit2_c i p _ _ (by omega) HP.out ⟨rfl, Dr.refl _⟩)))
          go_wp2
          exact HF2.out _ (((Dr.one _ _).drewN _).drewN _)
        · have d3 : decide (y.high < time + x.gap + z) = false := by simpa using t3
          have HN2 := hide (HNext.out (by rw [HS.out, HBm.out, decide_eq_false t1, decide_eq_true (show 0 ≤ z by omega), decide_eq_true (show time + x.gap + z ≤ y.high by omega)]; rfl))
          clear t1
          go_wp2
          go_quiet (fail)
          go_wp2
          go_quiet ((go_at_call 31; exact quiet_add_dr (bit2_c i p _ _ (by omega) HP.out ⟨rfl, Dr.refl _⟩)))
          go_wp2
          go_roundw
          case rel => exact ⟨i + 1, _, by omega, by go_num, HN2, by first | rfl | exact World.drewN_drewN .. | (rw [World.drewN_drewN, World.drewN_drewN])⟩
          case measure => simp [intOf]; omega
    · obtain rfl : i = nds.length := by omega
      have HT1 := hide (HT.out HA.out)
      go_wp2
      exact HT1.out _ (Dr.one _ _)
end Go.Proofs.Ytaopfoicdjejnaa

namespace Go.Proofs.Ytaopfoicdjejnaa
open Go.RowKit

noncomputable def extReg11 : Code := (regionsOf (Try.f32.body.getD .skip)).getD 10 .skip
theorem keep11 {wr W W' : World} {gS st : Nat} (h : Below wr.heap.size wr W ∧ W.cell? ⟨gS, 2, none⟩ = some (.int .i64 (st : Int))) (hb : Below W.heap.size W W') : Below wr.heap.size wr W' ∧ W'.cell? ⟨gS, 2, none⟩ = some (.int .i64 (st : Int)) :=
  ⟨bseq h.1 hb, cell_later hb h.2⟩
set_option maxRecDepth 100000 in
set_option maxHeartbeats 4000000 in
theorem ext_reg11 (Q : Exit → Act → World → Prop) (gS st i p k sp : Nat) (tt : Int) (wr : World) (hi : i ≤ 7) (HP : Hid (2 ^ i = p)) (hc : wr.cell? ⟨gS, 2, none⟩ = some (.int .i64 (st : Int))) (wz : IntKind.i64.wrap ((st : Int) + (p : Int)) = (sp : Int)) {u0 u1 u2 u4 u5 u6 u7 u8 u9 u10 u11 u12 u15 u17 u18 u19 u20 u21 u22 u23 u24 u25 u26 u27 u28 u29 u30 u31 u32 u33 u34 u35 u36 u37 u38 u39 u40 u41 u42 u43 u44 u45 u46 u47 u48 u49 u50 u51 u52 u53 u54 u55 u56 u57 u58 u59 u60 u61 u62 u63 u64 u65 u66 u67 u68 u69 u70 u71 u72 u73 u74 u75 u76 u77 u78 u79 u80 u81 u82 u83 u84 u85 u86 u87 u88 u89 u90 u91 u92 u93 u94 u95 u96 u97 u98 u99 u100 u101 u102 u103 u104 u105 u106 u107 u108 u109 u110 u111 u112 u113 u114 u115 u116 u117 u118 u119 u120 u121 u122 u123 u124 u125 u126 u127 u128 u129 u130 u131 u132 u133 u134 u135 u136 u137 u138 u139 u140 u141 u142 u143 u144 u145 u146 u147 u148 u149 u150 u151 u152 u153 : Value}
    (HN : Hid (∀ v99 v100 v101 v102 v103 v104 v105 v106 v107, Q .normal { tmps := #[u0, u1, u2, .int .i64 (k : Int), u4, u5, u6, u7, u8, u9, u10, u11, u12, .pointer (some ⟨gS, 0, none⟩), .int .i64 (i : Int), u15, .int .i64 tt, .pointer (some ⟨wr.heap.size, 0, none⟩), u18, u19, u20, u21, u22, u23, u24, u25, u26, u27, u28, u29, u30, u31, u32, u33, u34, u35, u36, u37, u38, u39, u40, u41, u42, u43, u44, u45, u46, u47, u48, u49, u50, u51, u52, u53, u54, u55, u56, u57, u58, u59, u60, u61, u62, u63, u64, u65, u66, u67, u68, u69, u70, u71, u72, u73, u74, u75, u76, u77, u78, u79, u80, u81, u82, u83, u84, u85, u86, u87, u88, u89, u90, u91, u92, u93, u94, u95, u96, u97, u98, v99, v100, v101, v102, v103, v104, v105, v106, v107, u108, u109, u110, u111, u112, u113, u114, u115, u116, u117, u118, u119, u120, u121, u122, u123, u124, u125, u126, u127, u128, u129, u130, u131, u132, u133, u134, u135, u136, u137, u138, u139, u140, u141, u142, u143, u144, u145, u146, u147, u148, u149, u150, u151, u152, u153], defers := [] } (wr.alloc (.cells #[.int .i64 tt, .int .i64 (i : Int), .int .i64 (sp : Int), .int .i64 (k : Int)] 69)).drew)) :
    extReg11.wp Try.prog Q { tmps := #[u0, u1, u2, .int .i64 (k : Int), u4, u5, u6, u7, u8, u9, u10, u11, u12, .pointer (some ⟨gS, 0, none⟩), .int .i64 (i : Int), u15, .int .i64 tt, u17, u18, u19, u20, u21, u22, u23, u24, u25, u26, u27, u28, u29, u30, u31, u32, u33, u34, u35, u36, u37, u38, u39, u40, u41, u42, u43, u44, u45, u46, u47, u48, u49, u50, u51, u52, u53, u54, u55, u56, u57, u58, u59, u60, u61, u62, u63, u64, u65, u66, u67, u68, u69, u70, u71, u72, u73, u74, u75, u76, u77, u78, u79, u80, u81, u82, u83, u84, u85, u86, u87, u88, u89, u90, u91, u92, u93, u94, u95, u96, u97, u98, u99, u100, u101, u102, u103, u104, u105, u106, u107, u108, u109, u110, u111, u112, u113, u114, u115, u116, u117, u118, u119, u120, u121, u122, u123, u124, u125, u126, u127, u128, u129, u130, u131, u132, u133, u134, u135, u136, u137, u138, u139, u140, u141, u142, u143, u144, u145, u146, u147, u148, u149, u150, u151, u152, u153], defers := [] } wr := by
  simp only [extReg11, Try.f32, Option.getD, regionsOf, List.nil_append, List.append_nil, List.cons_append, List.getD, List.getElem?_cons_succ, List.getElem?_cons_zero]
  refine wp_region_noPanic ?_
  refine wp_region_held_drew (S := fun w' => Below wr.heap.size wr w' ∧ w'.cell? ⟨gS, 2, none⟩ = some (.int .i64 (st : Int))) (by kernel_rfl) ⟨(Below.refl _ _).drew, hc⟩ (fun hHeld => ?_)
  refine wpAnyH_take (i := 0) (v := ?v0) rfl (by kernel_rfl) (by kernel_rfl) (by kernel_rfl) (fun _ _ _ h => h) (Or.inl ⟨by rfl, ?hy0⟩) hHeld ?rest0
  case hy0 => (intro w0 hSw; (try dsimp only at hSw); go_simp; all_goals with_reducible rfl)
  try simp only [Act.put, List.getElem_toArray, List.getElem_cons_zero, List.getElem_cons_succ, List.setIfInBounds_toArray, List.set_cons_zero, List.set_cons_succ]
  refine wpAnyH_take (i := 1) (v := ?v1) rfl (by kernel_rfl) (by kernel_rfl) (by kernel_rfl) (fun _ _ _ h => h) (Or.inl ⟨by rfl, ?hy1⟩) hHeld ?rest1
  case hy1 => (intro w0 hSw; (try dsimp only at hSw); go_simp; all_goals with_reducible rfl)
  try simp only [Act.put, List.getElem_toArray, List.getElem_cons_zero, List.getElem_cons_succ, List.setIfInBounds_toArray, List.set_cons_zero, List.set_cons_succ]
  refine wpAnyH_take (i := 2) (v := ?v2) rfl (by kernel_rfl) (by kernel_rfl) (by kernel_rfl) (fun _ _ _ h => h) (Or.inl ⟨by rfl, ?hy2⟩) hHeld ?rest2
  case hy2 => (intro w0 hSw; (try dsimp only at hSw); go_simp; all_goals with_reducible rfl)
  try simp only [Act.put, List.getElem_toArray, List.getElem_cons_zero, List.getElem_cons_succ, List.setIfInBounds_toArray, List.set_cons_zero, List.set_cons_succ]
  refine wpAnyH_take (i := 3) (v := ?v3) rfl (by kernel_rfl) (by kernel_rfl) (by kernel_rfl) (fun _ _ _ h => h) (Or.inl ⟨by rfl, ?hy3⟩) hHeld ?rest3
  case hy3 => (intro w0 hSw; (try dsimp only at hSw); go_simp; all_goals with_reducible rfl)
  try simp only [Act.put, List.getElem_toArray, List.getElem_cons_zero, List.getElem_cons_succ, List.setIfInBounds_toArray, List.set_cons_zero, List.set_cons_succ]
  refine wpAnyH_take (i := 4) (v := ?v4) rfl (by kernel_rfl) (by kernel_rfl) (by kernel_rfl) (fun _ _ _ h => h) (Or.inl ⟨by rfl, ?hy4⟩) hHeld ?rest4
  case hy4 => (intro w0 hSw; (try dsimp only at hSw); go_simp; all_goals with_reducible rfl)
  try simp only [Act.put, List.getElem_toArray, List.getElem_cons_zero, List.getElem_cons_succ, List.setIfInBounds_toArray, List.set_cons_zero, List.set_cons_succ]
  refine wpAnyH_take (i := 7) (v := ?v7) rfl (by kernel_rfl) (by kernel_rfl) (by kernel_rfl) (fun _ _ _ h => h) (Or.inl ⟨by rfl, ?hy7⟩) hHeld ?rest7
  case hy7 => (intro w0 hSw; (try dsimp only at hSw); go_simp; all_goals with_reducible rfl)
  try simp only [Act.put, List.getElem_toArray, List.getElem_cons_zero, List.getElem_cons_succ, List.setIfInBounds_toArray, List.set_cons_zero, List.set_cons_succ]
  refine wpAnyH_ready (rs := [5, 9]) (by kernel_rfl) (by simp) ?_
  refine AllReadyH.cons rfl (fun K hK => ?_) (AllReadyH.cons rfl (fun K hK => ?_) AllReadyH.nil)
  · go_simp
    refine bit2_c i p _ _ hi HP.out ?_
    refine hK.out _ _ hHeld (fun hHeld' => ?_)
    clear hK K hHeld
    have hHeld := hHeld'
    clear hHeld'
    try simp only [Act.put, List.getElem_toArray, List.getElem_cons_zero, List.getElem_cons_succ, List.setIfInBounds_toArray, List.set_cons_zero, List.set_cons_succ]
    refine wpAnyH_take (i := 6) (v := ?v6a) rfl (by kernel_rfl) (by kernel_rfl) (by kernel_rfl) (fun _ _ _ h => h) (Or.inl ⟨by rfl, ?hy6a⟩) hHeld ?rest6a
    case hy6a => (intro w0 hSw; (try dsimp only at hSw); go_simp; all_goals with_reducible rfl)
    try simp only [Act.put, List.getElem_toArray, List.getElem_cons_zero, List.getElem_cons_succ, List.setIfInBounds_toArray, List.set_cons_zero, List.set_cons_succ]
    refine wpAnyH_take (i := 8) (v := ?v8a) rfl (by kernel_rfl) (by kernel_rfl) (by kernel_rfl) (fun _ _ _ h => h) (Or.inl ⟨by rfl, ?hy8a⟩) hHeld ?rest8a
    case hy8a => (intro w0 hSw; (try dsimp only at hSw); go_simp; all_goals with_reducible rfl)
    try simp only [Act.put, List.getElem_toArray, List.getElem_cons_zero, List.getElem_cons_succ, List.setIfInBounds_toArray, List.set_cons_zero, List.set_cons_succ]
    refine wpAnyH_ready (rs := [9]) (by kernel_rfl) (by simp) ?_
    refine AllReadyH.cons rfl (fun K hK => ?_) AllReadyH.nil
    go_simp
    refine hK.out _ _ (keep11 hHeld (balloc (Below.refl _ _) _)) (fun hHeld' => ?_)
    clear hK K hHeld
    have hHeld := hHeld'
    clear hHeld'
    try simp only [Act.put, List.getElem_toArray, List.getElem_cons_zero, List.getElem_cons_succ, List.setIfInBounds_toArray, List.set_cons_zero, List.set_cons_succ]
    refine wpAnyH_ready (rs := [10]) (by kernel_rfl) (by simp) ?_
    refine AllReadyH.cons rfl (fun K hK => ?_) AllReadyH.nil
    go_simp
    refine hK.out _ _ (keep11 ⟨Below.refl _ _, hc⟩ (balloc (Below.refl _ _) _).drew) (fun hHeld' => ?_)
    clear hK K hHeld
    have hHeld := hHeld'
    clear hHeld'
    try simp only [Act.put, List.getElem_toArray, List.getElem_cons_zero, List.getElem_cons_succ, List.setIfInBounds_toArray, List.set_cons_zero, List.set_cons_succ]
    refine wpAnyH_done (by kernel_rfl) ?_ _
    refine NoPanic.normal ?_
    exact HN.out _ _ _ _ _ _ _ _ _ 
  · go_simp
    refine hK.out _ _ (keep11 hHeld (balloc (Below.refl _ _) _)) (fun hHeld' => ?_)
    clear hK K hHeld
    have hHeld := hHeld'
    clear hHeld'
    try simp only [Act.put, List.getElem_toArray, List.getElem_cons_zero, List.getElem_cons_succ, List.setIfInBounds_toArray, List.set_cons_zero, List.set_cons_succ]
    refine wpAnyH_ready (rs := [5]) (by kernel_rfl) (by simp) ?_
    refine AllReadyH.cons rfl (fun K hK => ?_) AllReadyH.nil
    go_simp
    refine bit2_c i p _ _ hi HP.out ?_
    refine hK.out _ _ hHeld (fun hHeld' => ?_)
    clear hK K hHeld
    have hHeld := hHeld'
    clear hHeld'
    try simp only [Act.put, List.getElem_toArray, List.getElem_cons_zero, List.getElem_cons_succ, List.setIfInBounds_toArray, List.set_cons_zero, List.set_cons_succ]
    refine wpAnyH_take (i := 6) (v := ?v6b) rfl (by kernel_rfl) (by kernel_rfl) (by kernel_rfl) (fun _ _ _ h => h) (Or.inl ⟨by rfl, ?hy6b⟩) hHeld ?rest6b
    case hy6b => (intro w0 hSw; (try dsimp only at hSw); go_simp; all_goals with_reducible rfl)
    try simp only [Act.put, List.getElem_toArray, List.getElem_cons_zero, List.getElem_cons_succ, List.setIfInBounds_toArray, List.set_cons_zero, List.set_cons_succ]
    refine wpAnyH_take (i := 8) (v := ?v8b) rfl (by kernel_rfl) (by kernel_rfl) (by kernel_rfl) (fun _ _ _ h => h) (Or.inl ⟨by rfl, ?hy8b⟩) hHeld ?rest8b
    case hy8b => (intro w0 hSw; (try dsimp only at hSw); go_simp; all_goals with_reducible rfl)
    try simp only [Act.put, List.getElem_toArray, List.getElem_cons_zero, List.getElem_cons_succ, List.setIfInBounds_toArray, List.set_cons_zero, List.set_cons_succ]
    refine wpAnyH_ready (rs := [10]) (by kernel_rfl) (by simp) ?_
    refine AllReadyH.cons rfl (fun K hK => ?_) AllReadyH.nil
    go_simp
    refine hK.out _ _ (keep11 ⟨Below.refl _ _, hc⟩ (balloc (Below.refl _ _) _).drew) (fun hHeld' => ?_)
    clear hK K hHeld
    have hHeld := hHeld'
    clear hHeld'
    try simp only [Act.put, List.getElem_toArray, List.getElem_cons_zero, List.getElem_cons_succ, List.setIfInBounds_toArray, List.set_cons_zero, List.set_cons_succ]
    refine wpAnyH_done (by kernel_rfl) ?_ _
    refine NoPanic.normal ?_
    exact HN.out _ _ _ _ _ _ _ _ _ 
end Go.Proofs.Ytaopfoicdjejnaa

namespace Go.Proofs.Ytaopfoicdjejnaa
open Go.RowKit

def Rs.cells (x : Rs) : List Value := [.int .i64 x.time, .int .i64 (x.last : Int), .int .i64 (x.set : Int), .int .i64 x.frm]
theorem rs_len (x : Rs) : x.cells.length = 4 := rfl
theorem rs_one (x : Rs) : ∀ u ∈ x.cells, u.oneCell' = true := by
  intro u hu
  simp [Rs.cells] at hu
  rcases hu with rfl | rfl | rfl | rfl <;> rfl
theorem Try.info69 : (Try.prog.info? 69).map (fun i => (i.zero, i.size, i.bytes)) = some (some (.agg #[.int .i64 0, .int .i64 0, .int .i64 0, .int .i64 0]), 4, 32) := by kernel_rfl
def OwnS (W : World) (base : Nat) (v : Value) (l : List Rs) : Prop := W.ownsRow base 69 4 v l.length (l.flatMap Rs.cells)
theorem OwnS.next {W W' : World} {base : Nat} {v : Value} {l : List Rs} (h : OwnS W base v l) (hb : Below W.heap.size W W') : OwnS W' base v l := own_below h hb
theorem OwnS.nil {W : World} {base : Nat} : OwnS W base (.slice none 0 0) [] := World.ownsRow_nil ..
theorem OwnS.app {W : World} {base : Nat} {v : Value} {l : List Rs} {x : Rs} (h : W.ownsRow base 69 4 v (l.length + 1) (l.flatMap Rs.cells ++ x.cells)) : OwnS W base v (l ++ [x]) := by
  unfold OwnS
  rw [List.flatMap_append, List.length_append]
  simpa using h
theorem OwnS.at_ {W : World} {base : Nat} {v : Value} {l : List Rs} (h : OwnS W base v l) {i : Nat} {x : Rs} (hi : l[i]? = some x) : ∃ g c, v = .slice (some ⟨g, 0, none⟩) l.length c ∧ base ≤ g ∧ g < W.heap.size ∧
    W.cell? ⟨g, i * 4, none⟩ = some (.int .i64 x.time) ∧ W.cell? ⟨g, i * 4 + 1, none⟩ = some (.int .i64 (x.last : Int)) ∧ W.cell? ⟨g, i * 4 + 2, none⟩ = some (.int .i64 (x.set : Int)) ∧ W.cell? ⟨g, i * 4 + 3, none⟩ = some (.int .i64 x.frm) := by
  have hil := (List.getElem?_eq_some_iff.1 hi).1
  obtain ⟨g, c, rfl, hg1, hg2⟩ := own_form h (by omega)
  have hc := EncAt.of_own rs_len (by omega) h
  obtain ⟨b, o, hp, hall⟩ := hc (by omega)
  injection hp with hp; injection hp with e1 e2
  subst e1; subst e2
  have := hall i x hi
  have c0 := this 0 _ rfl; have c1 := this 1 _ rfl; have c2 := this 2 _ rfl; have c3 := this 3 _ rfl
  simp only [Nat.zero_add, Nat.add_zero] at c0 c1 c2 c3
  exact ⟨_, c, rfl, hg1, hg2, c0, c1, c2, c3⟩
theorem atR_eq {lst : List Rs} {frm set last j : Nat} (hf : frm ≤ lst.length) (h1 : frm ≤ j) (h2 : j ≤ lst.length) (h3 : ∀ m, frm ≤ m → m < j → ∀ x, lst[m]? = some x → sameR set last x = false) (h4 : j = lst.length ∨ ∃ x, lst[j]? = some x ∧ sameR set last x = true) : atR lst frm set last = j := by
  obtain ⟨a1, a2⟩ := at_le lst frm set last hf
  rcases Nat.lt_trichotomy (atR lst frm set last) j with h | h | h
  · have hlt : atR lst frm set last < lst.length := by omega
    have hx : lst[atR lst frm set last]? = some lst[atR lst frm set last] := List.getElem?_eq_getElem hlt
    have := h3 _ a1 h _ hx
    have h5 := at_same hf hx
    rw [sameR_iff.2 h5] at this
    cases this
  · exact h
  · rcases h4 with h4 | ⟨x, hx, hs⟩
    · omega
    · unfold atR at h
      have h5 : j - frm < (lst.drop frm).findIdx (sameR set last) := by omega
      have h6 := List.not_of_lt_findIdx h5
      have hjl := (List.getElem?_eq_some_iff.1 hx)
      rw [List.getElem_drop] at h6
      simp only [show frm + (j - frm) = j by omega] at h6
      rw [hjl.2, hs] at h6
      simp at h6
theorem putR_at {lst : List Rs} {frm : Nat} {nx : Rs} {j : Nat} (h : atR lst frm nx.set nx.last = j) : putR lst frm nx = match lst[j]? with
  | none => lst ++ [nx]
  | some y => if nx.time < y.time then lst.set j nx else lst := by
  unfold putR; rw [h]
  cases lst[j]? <;> rfl
def foldR (D : Nat → Nat → Int) (us : Nat → Un) (n k frm : Nat) (s : Rs) (lst : List Rs) (i : Nat) : List Rs := (List.range i).foldl (oneR D us n k frm s) lst
theorem foldR_succ (D : Nat → Nat → Int) (us : Nat → Un) (n k frm : Nat) (s : Rs) (lst : List Rs) (i : Nat) : foldR D us n k frm s lst (i + 1) = oneR D us n k frm s (foldR D us n k frm s lst i) i := by
  unfold foldR
  rw [List.range_succ, List.foldl_append]; rfl
theorem one_len (D : Nat → Nat → Int) (us : Nat → Un) (n k frm : Nat) (s : Rs) (lst : List Rs) (i : Nat) : (oneR D us n k frm s lst i).length ≤ lst.length + 1 := by
  unfold oneR
  split
  · omega
  · unfold putR
    split
    · simp
    · split <;> simp
theorem foldR_len (D : Nat → Nat → Int) (us : Nat → Un) (n k frm : Nat) (s : Rs) (lst : List Rs) : ∀ i, (foldR D us n k frm s lst i).length ≤ lst.length + i
  | 0 => by unfold foldR; simp
  | i + 1 => by
    rw [foldR_succ]
    have := one_len D us n k frm s (foldR D us n k frm s lst i) i
    have := foldR_len D us n k frm s lst i
    omega
/-- While the states that follow from one are made. -/
structure XP (w0 : World) (gS : Nat) (s : Rs) (v : Value) (l : List Rs) (wr : World) : Prop where
  below : Below w0.heap.size w0 wr
  own : OwnS wr w0.heap.size v l
  blk : Blk wr gS s.cells.toArray 69
  ne : v.ownBlock ≠ some gS
  ge : w0.heap.size ≤ gS
section
variable {w0 : World} {gS : Nat} {s : Rs} {v v' : Value} {l : List Rs} {wr w' : World}
theorem XP.next (h : XP w0 gS s v l wr) (hb : Below wr.heap.size wr w') : XP w0 gS s v l w' := ⟨bseq h.below hb, h.own.next hb, h.blk.next hb, h.ne, h.ge⟩
theorem XP.app {x : Rs} (h : XP w0 gS s v l wr) (hg : wr.grownBy w' v.ownBlock) (ho : w'.ownsRow w0.heap.size 69 4 v' (l.length + 1) (l.flatMap Rs.cells ++ x.cells)) (hw : v'.ownBlock = v.ownBlock ∨ ∀ k, v'.ownBlock = some k → wr.heap.size ≤ k) : XP w0 gS s v' (l ++ [x]) w' := by
  refine ⟨h.below.grown hg h.below.size (fun k hk => (h.own.lt k hk).1), OwnS.app ho, ?_, ?_, h.ge⟩
  · have := hg.block gS h.blk.lt (fun e => h.ne e.symm)
    unfold Blk
    rw [this]; exact h.blk
  · rcases hw with h1 | h1
    · rw [h1]; exact h.ne
    · intro e
      have := h1 gS e
      have := h.blk.lt
      omega
end
theorem XP.put {w0 : World} {gS g c n : Nat} {s : Rs} {l : List Rs} {wr : World} (h : XP w0 gS s (.slice (some ⟨g, 0, none⟩) n c) l wr) (hn : l.length = n) {j : Nat} (hj : j < l.length) (x : Rs) : XP w0 gS s (.slice (some ⟨g, 0, none⟩) n c) (l.set j x) (setW wr g (j * 4) x.cells) := by
  have hg := grownBy_setW (g := g) x.cells (j * 4) wr (World.grownBy.refl wr (some g))
  have hne : g ≠ gS := fun e => h.ne (by rw [e]; rfl)
  have hlt := h.own.lt g rfl
  refine ⟨h.below.grown hg h.below.size (fun k hk => by injection hk with hk; omega), ?_, ?_, h.ne, h.ge⟩
  · unfold OwnS
    rw [List.length_set, hn, ← flat_set rs_len l j x hj]
    have := h.own
    unfold OwnS at this
    rw [hn] at this
    exact own_setW _ _ _ _ this
  · have := hg.block gS h.blk.lt (fun e => hne (by injection e with e; exact e.symm))
    unfold Blk
    rw [this]; exact h.blk
/-- The arguments of 'extended' and what is known of them. -/
structure XA (d : List (List Int)) (nds : List Nd) (dp np : Option Addr) (w0 : World) : Prop where
  D : DistP d
  rows : RowsAt w0 dp d
  nd : NdsAt w0 np nds
  ok : ∀ x ∈ nds, NdOk d x
  few : nds.length ≤ 7
  unok : ∀ u < nds.length, UnOk (dst d) (unN nds) u ∧ (unN nds u).low ≤ (unN nds u).high
theorem RsOk.bd {d : List (List Int)} {nds : List Nd} (hok : ∀ x ∈ nds, NdOk d x) (hn : nds.length ≤ 7) {s : Rs} (h : RsOk (dst d) (unN nds) nds.length s) : s.last < nds.length ∧ s.set < 128 ∧ 0 ≤ s.time ∧ s.time ≤ 1000000 := by
  have h4 := h.set_lt
  obtain ⟨h1, h2, h3, _⟩ := h
  have hx : nds[s.last]? = some nds[s.last] := List.getElem?_eq_getElem h1
  rw [unN_at hx] at h2 h3
  have hk := hok _ (List.getElem_mem h1)
  have h5 : nds[s.last].low ≤ s.time := h2
  have h6 : s.time ≤ nds[s.last].high := h3
  have := hk.low; have := hk.high
  have h7 : 2 ^ nds.length ≤ 2 ^ 7 := Nat.pow_le_pow_right (by omega) hn
  omega
set_option maxRecDepth 100000 in
set_option maxHeartbeats 8000000 in
theorem extended_c (dp np : Option Addr) (dc nc : Nat) (d : List (List Int)) (nds : List Nd) (lst : List Rs) (k size frm : Nat) (v : Value) (w0 w : World) (R) (hA : XA d nds dp np w0) (hk : k < frm) (hf : frm ≤ lst.length) (hlen : lst.length ≤ 10000000) (hsz : size ≤ 10) (hI : RInv (dst d) (unN nds) nds.length lst)
    (hB : Below w0.heap.size w0 w) (hown : OwnS w w0.heap.size v lst)
    (hR : ∀ v' w', Below w0.heap.size w0 w' → OwnS w' w0.heap.size v' (extR (dst d) (unN nds) nds.length k size frm lst) → R (.returned v') w') :
    Calls Try.prog 32 #[.slice dp d.length dc, .slice np nds.length nc, v, .int .i64 (k : Int), .int .i64 (size : Int), .int .i64 (frm : Int)] w R := by
  obtain ⟨s, hs⟩ : ∃ s, lst[k]? = some s := ⟨_, List.getElem?_eq_getElem (show k < lst.length by omega)⟩
  have HR := hide hR; have HA := hide hA
  have hfew := hA.few
  have hd12 := hA.D.few
  have hsok := hI.ok s (List.mem_of_getElem? hs)
  obtain ⟨s1, s2, s3, s4⟩ := RsOk.bd hA.ok hA.few hsok
  have Hsok := hide hsok; have HI := hide hI
  have hext : extR (dst d) (unN nds) nds.length k size frm lst = if pc s.set = size then foldR (dst d) (unN nds) nds.length k frm s lst nds.length else lst := by
    unfold extR foldR
    rw [hs]
  have Hext := hide hext
  obtain ⟨g, c, rfl, hg1, hg2, e0, e1, e2, e3⟩ := hown.at_ hs
  have hkl : k < lst.length := by omega
  have hXP := hide (show XP w0 w.heap.size s (.slice (some ⟨g, 0, none⟩) lst.length c) lst (w.alloc (.cells #[.int .i64 s.time, .int .i64 (s.last : Int), .int .i64 (s.set : Int), .int .i64 s.frm] 69)) from
    ⟨balloc hB _, hown.next (balloc (Below.refl _ _) _), Blk.new _ _ _, by intro e; have e' : some g = some w.heap.size := e; injection e' with e'; omega, hB.size⟩)
  obtain ⟨g0, hg0, hgz0, hgz1, hgz2⟩ := info_parts Try.info69
  clear hR hA hsok hI hext hown hB hs
  by_cases hpc : pc s.set = size
  rotate_left
  · have hq : ((pc s.set : Int) != (size : Int)) = true := by rw [bne_iff_ne]; omega
    have HR1 := hide (HR.out _ _ hXP.out.below (by rw [Hext.out, if_neg hpc]; exact hXP.out.own))
    clear hpc
    go_enter Try.func32, Try.ntmps32
    go_wp2_with (go_at_call 45; refine Stop.out ?_)
    refine Stop.go (count_c s.set _ _ (by omega) ?_)
    go_wp2
    exact HR1.out
  have hq : ((pc s.set : Int) != (size : Int)) = false := by rw [bne_eq_false_iff_eq]; omega
  have Hpc := hide hpc
  clear hpc
  go_enter Try.func32, Try.ntmps32
  go_wp2_with (go_at_call 45; refine Stop.out ?_)
  refine Stop.go (count_c s.set _ _ (by omega) ?_)
  go_wp2
  obtain ⟨gS, hgS⟩ : ∃ gS, w.heap.size = gS := ⟨_, rfl⟩
  rw [hgS] at hXP ⊢
  clear e0 e1 e2 e3 hgS
  go_loopw [2, 14] (fun u si wr => ∃ i : Nat, i ≤ nds.length ∧ si = .int .i64 i ∧ Hid (XP w0 gS s u (foldR (dst d) (unN nds) nds.length k frm s lst i) wr)) (fun _ si _ => nds.length - (intOf si).toNat)
  case atStart => exact ⟨0, Nat.zero_le _, rfl, hXP⟩
  case round =>
    clear hXP
    obtain ⟨i, hi, rfl, HX⟩ := hrel
    by_cases hlt : i < nds.length
    · have hun := fun (u : Nat) (hu : u < nds.length) => (HA.out.unok u hu).1
      have hst : RStep (dst d) (unN nds) nds.length frm lst (foldR (dst d) (unN nds) nds.length k frm s lst i) := RStep.units hun Hsok.out hk _ _ (fun j hj => by have : j < i := by simpa using hj
                                                                                                                                                                  omega) HI.out hf
      have hfl := foldR_len (dst d) (unN nds) nds.length k frm s lst i
      have HInv := hide hst.inv
      have hfL : frm ≤ (foldR (dst d) (unN nds) nds.length k frm s lst i).length := Nat.le_trans hf hst.len
      have HSucc := hide (foldR_succ (dst d) (unN nds) nds.length k frm s lst i)
      have hLl : (foldR (dst d) (unN nds) nds.length k frm s lst i).length ≤ 10000007 := by omega
      clear hst hfl
      generalize foldR (dst d) (unN nds) nds.length k frm s lst i = L at *
      obtain ⟨gL, cL, hu2, hgL1, hgL2⟩ := own_form HX.out.own (by omega)
      subst hu2
      obtain ⟨nb, no, x, hnp, hx, _, _, _, _, _, x5, x6⟩ := (HA.out.nd.keep (Keeps.of_below HX.out.below)).nd s1
      subst hnp
      obtain ⟨nb2, no2, y, h5, hy, _, _, y2, y3, y4, _, _⟩ := (HA.out.nd.keep (Keeps.of_below HX.out.below)).nd hlt
      injection h5 with h5; injection h5 with z1 z2
      subst z1; subst z2
      have kx := HA.out.ok x (List.mem_of_getElem? hx)
      have ky := HA.out.ok y (List.mem_of_getElem? hy)
      obtain ⟨rb, ro, r, rc, qb, qo, z, hdp, cr, cz, hdz, hz1, hz2, hor, hr12⟩ := way_at (HA.out.rows.keep (Keeps.of_below HX.out.below)) HA.out.D HA.out.ok (List.mem_of_getElem? hx) (List.mem_of_getElem? hy)
      subst hdp
      obtain ⟨p, hp⟩ : ∃ p, 2 ^ i = p := ⟨_, rfl⟩
      obtain ⟨p0, p1⟩ := pow_bd (i := i) (by omega) hp
      have hbm := bit_mod (set := s.set) hp
      obtain ⟨m, hm⟩ : ∃ m, s.set / p = m := ⟨_, rfl⟩
      have hm2 : m < 128 := by rw [← hm]; exact Nat.lt_of_le_of_lt (Nat.div_le_self _ _) s2
      obtain ⟨sx1, sx2⟩ := kx.stop
      obtain ⟨oy1, oy2⟩ := ky.off
      obtain ⟨gx1, gx2⟩ := kx.gap
      obtain ⟨hy1, hy2⟩ := ky.high
      obtain ⟨ly1, ly2⟩ := ky.low
      rw [hm] at hbm
      have q1 : (s.set : Int).tdiv (p : Int) = (m : Int) := by rw [← hm]; rfl
      have hsp : s.set.testBit i = false → s.set + p < 128 := fun h => by
        rw [← hp, add_or i s.set h]
        exact Nat.or_lt_two_pow (n := 7) s2 (Nat.pow_lt_pow_right (by omega) (by omega))
      obtain ⟨tt, htt⟩ : ∃ tt, max (s.time + x.gap + z) y.low = tt := ⟨_, rfl⟩
      have hone : oneR (dst d) (unN nds) nds.length k frm s L i = if s.set.testBit i = true ∨ z < 0 ∨ y.high < tt ∨ openR (dst d) (unN nds) nds.length (s.set + p) i tt = false then L else putR L frm ⟨tt, i, s.set + p, k⟩ := by
        unfold oneR tR
        rw [unN_at hx, unN_at hy]
        show (if s.set.testBit i = true ∨ dst d x.stop.toNat y.office.toNat < 0 ∨ y.high < max (s.time + x.gap + dst d x.stop.toNat y.office.toNat) y.low ∨ openR (dst d) (unN nds) nds.length (s.set + 2 ^ i) i (max (s.time + x.gap + dst d x.stop.toNat y.office.toNat) y.low) = false then L else putR L frm ⟨max (s.time + x.gap + dst d x.stop.toNat y.office.toNat) y.low, i, s.set + 2 ^ i, k⟩) = _
        rw [hdz, hp, htt]
      have HOne := hide (HSucc.out.trans hone)
      have HP := hide hp; have HBm := hide hbm
      have hli : (s.last : Int) < (nds.length : Int) := by omega
      have hii : (i : Int) < (nds.length : Int) := by omega
      have c0 := HX.out.blk.cell (k := 0) (v := .int .i64 s.time) rfl; have c1 := HX.out.blk.cell (k := 1) (v := .int .i64 (s.last : Int)) rfl; have c2 := HX.out.blk.cell (k := 2) (v := .int .i64 (s.set : Int)) rfl
      have HTt := hide htt
      clear hx hy kx ky hdz hp hm hbm hone HSucc htt
      by_cases t1 : m % 2 = 1
      · have tb : ((m : Int) % 2 == 1) = true := by rw [beq_iff_eq]; omega
        have HN : Hid (foldR (dst d) (unN nds) nds.length k frm s lst (i + 1) = L) := hide (by rw [HOne.out, if_pos (.inl (by rw [HBm.out]; simpa using t1))])
        clear t1
        go_wp2
        go_quiet (fail)
        go_wp2
        go_quiet ((go_at_call 31; exact quiet_add_dr (bit2_c i p _ _ (by omega) HP.out ⟨rfl, Dr.refl _⟩)))
        go_wp2
        go_roundw
        case rel => exact ⟨i + 1, by omega, by go_num, hide (by rw [HN.out]; exact HX.out.next (Dr.below (by first | exact Dr.one _ _ | exact Dr.two _ _ _)))⟩
        case measure => simp [intOf]; omega
      have tb : ((m : Int) % 2 == 1) = false := by rw [beq_eq_false_iff_ne]; omega
      by_cases t2 : z < 0
      · have d2 : decide (z < 0) = true := by simpa using t2
        have HN : Hid (foldR (dst d) (unN nds) nds.length k frm s lst (i + 1) = L) := hide (by rw [HOne.out, if_pos (.inr (.inl t2))])
        clear t1
        go_wp2
        go_quiet (fail)
        go_wp2
        go_quiet ((go_at_call 31; exact quiet_add_dr (bit2_c i p _ _ (by omega) HP.out ⟨rfl, Dr.refl _⟩)))
        go_wp2
        go_roundw
        case rel => exact ⟨i + 1, by omega, by go_num, hide (by rw [HN.out]; exact HX.out.next (Dr.below (by first | exact Dr.one _ _ | exact Dr.two _ _ _)))⟩
        case measure => simp [intOf]; omega
      have d2 : decide (z < 0) = false := by simpa using t2
      have wz1 : IntKind.i64.wrap (s.time + x.gap) = s.time + x.gap := IntWalk.i64_in _ (by omega)
      have wz2 : IntKind.i64.wrap (s.time + x.gap + z) = s.time + x.gap + z := IntWalk.i64_in _ (by omega)
      go_wp2
      go_quiet (fail)
      rename Nat => n1
      go_wp2
      go_quiet ((go_at_call 31; exact quiet_add_dr (bit2_c i p _ _ (by omega) HP.out ⟨rfl, Dr.refl _⟩)))
      rename Nat => n2
      go_wp2
      go_quiet (fail)
      rw [HTt.out]
      have HX2 := hide (HX.out.next ((Dr.two wr n1 n2).drewN nq).below)
      have y4' : (((wr.drewN n1).drewN n2).drewN nq).cell? ⟨nb, no + i * 7 + 4, none⟩ = some (.int .i64 y.high) := y4
      have htt0 : 0 ≤ tt := by have := HTt.out; omega
      have hbit : s.set.testBit i = false := by rw [HBm.out]; simpa using t1
      have hsp2 := hsp hbit
      have Hbit := hide hbit
      clear hsp hbit HX x5 x6 y2 y3 y4 cr cz c0 c1 c2 wz1 wz2 d2 tb t1 q1 HBm HTt
      generalize ((wr.drewN n1).drewN n2).drewN nq = W at *
      have c2 := HX2.out.blk.cell (k := 2) (v := .int .i64 (s.set : Int)) rfl
      have wz3 : IntKind.i64.wrap ((s.set : Int) + (p : Int)) = ((s.set + p : Nat) : Int) := by rw [IntWalk.i64_in _ (by omega)]; omega
      by_cases t3 : y.high < tt
      · have d3 : decide (y.high < tt) = true := by simpa using t3
        have HN : Hid (foldR (dst d) (unN nds) nds.length k frm s lst (i + 1) = L) := hide (by rw [HOne.out, if_pos (.inr (.inr (.inl t3)))])
        go_wp2
        go_quiet (fail)
        go_wp2
        go_roundw
        case rel => exact ⟨i + 1, by omega, by go_num, hide (by rw [HN.out]; exact HX2.out.next (Dr.below (by first | exact Dr.one _ _ | exact Dr.two _ _ _)))⟩
        case measure => simp [intOf]; omega
      have d3 : decide (y.high < tt) = false := by simpa using t3
      cases hO : openR (dst d) (unN nds) nds.length (s.set + p) i tt with
      | false =>
        have HO := hide hO
        have HN : Hid (foldR (dst d) (unN nds) nds.length k frm s lst (i + 1) = L) := hide (by rw [HOne.out, if_pos (.inr (.inr (.inr hO)))])
        have HOpen : ∀ n, Calls Try.prog 46 #[.slice (some ⟨rb, ro, none⟩) d.length dc, .slice (some ⟨nb, no, none⟩) nds.length nc, .int .i64 ((s.set + p : Nat) : Int), .int .i64 (i : Int), .int .i64 tt] (W.drewN n) fun e w' => e = .returned (.bool false) ∧ Dr (W.drewN n) w' := fun n =>
          open_c _ _ dc nc d nds (s.set + p) i tt _ _ (by omega) hsp2 hlt ⟨htt0, by omega⟩ HA.out.D ((HA.out.rows.keep (Keeps.of_below HX2.out.below)).keep (fun _ _ h => h)) ((HA.out.nd.keep (Keeps.of_below HX2.out.below)).keep (fun _ _ h => h)) HA.out.ok (fun w' h => ⟨by rw [HO.out], h⟩)
        clear hO
        go_wp2
        go_quiet (first
          | (go_at_call 31; exact quiet_dr (bit2_c i p _ _ (by omega) HP.out ⟨rfl, Dr.refl _⟩))
          | (go_at_call 46; exact quiet_dr (HOpen _)))
        go_wp2
        go_roundw
        case rel => exact ⟨i + 1, by omega, by go_num, hide (by rw [HN.out]; exact HX2.out.next (Dr.below (by first | exact Dr.one _ _ | exact Dr.two _ _ _)))⟩
        case measure => simp [intOf]; omega
      | true =>
        have HO := hide hO
        have HN := hide (HOne.out.trans (if_neg (by rw [Hbit.out, hO]; simp; omega)))
        have HOpen : ∀ n, Calls Try.prog 46 #[.slice (some ⟨rb, ro, none⟩) d.length dc, .slice (some ⟨nb, no, none⟩) nds.length nc, .int .i64 ((s.set + p : Nat) : Int), .int .i64 (i : Int), .int .i64 tt] (W.drewN n) fun e w' => e = .returned (.bool true) ∧ Dr (W.drewN n) w' := fun n =>
          open_c _ _ dc nc d nds (s.set + p) i tt _ _ (by omega) hsp2 hlt ⟨htt0, by omega⟩ HA.out.D ((HA.out.rows.keep (Keeps.of_below HX2.out.below)).keep (fun _ _ h => h)) ((HA.out.nd.keep (Keeps.of_below HX2.out.below)).keep (fun _ _ h => h)) HA.out.ok (fun w' h => ⟨by rw [HO.out], h⟩)
        clear hO
        go_wp2
        go_quiet (first
          | (go_at_call 31; exact quiet_dr (bit2_c i p _ _ (by omega) HP.out ⟨rfl, Dr.refl _⟩))
          | (go_at_call 46; exact quiet_dr (HOpen _)))
        go_wp2
        have HX3 := hide (HX2.out.next (below_drewN' (Below.refl _ _) nq))
        clear HX2 c2 y4' HOpen d3 t3
        generalize W.drewN nq = W2 at *
        have c2 := HX3.out.blk.cell (k := 2) (v := .int .i64 (s.set : Int)) rfl
        have c2' : W2.drew.cell? ⟨gS, 2, none⟩ = some (.int .i64 (s.set : Int)) := c2
        obtain ⟨sp, hspe⟩ : ∃ sp, s.set + p = sp := ⟨_, rfl⟩
        rw [hspe] at HN wz3
        clear hspe HO
        refine ext_reg11 _ gS s.set i p k sp tt W2 (by omega) HP c2 wz3 ?_
        intro v99 v100 v101 v102 v103 v104 v105 v106 v107
        have HX4 := hide (HX3.out.next ((balloc (Below.refl _ _) (.cells #[.int .i64 tt, .int .i64 (i : Int), .int .i64 (sp : Int), .int .i64 (k : Int)] 69)).drew))
        have KN := hide ((Blk.new W2 #[.int .i64 tt, .int .i64 (i : Int), .int .i64 (sp : Int), .int .i64 (k : Int)] 69).drew)
        have hgn : gL < W2.heap.size := (HX3.out.own.lt gL rfl).2
        clear HX3 c2 c2' wz3
        generalize (W2.alloc (.cells #[.int .i64 tt, .int .i64 (i : Int), .int .i64 (sp : Int), .int .i64 (k : Int)] 69)).drew = W3 at *
        obtain ⟨gN, hgN⟩ : ∃ gN, W2.heap.size = gN := ⟨_, rfl⟩
        rw [hgN] at KN hgn ⊢
        clear hgN
        have hfl2 : (frm : Int) ≤ (L.length : Int) := by omega
        go_wp2
        go_loopw [18] (fun sj wr => ∃ j n3 : Nat, frm ≤ j ∧ j ≤ L.length ∧ sj = .int .i64 j ∧ Hid (∀ a, frm ≤ a → a < j → ∀ y, L[a]? = some y → sameR (sp) i y = false) ∧ wr = W3.drewN n3) (fun sj _ => L.length - (intOf sj).toNat)
        case atStart => exact ⟨frm, 0, Nat.le_refl _, hfL, rfl, hide (fun a h1 h2 => absurd h2 (by omega)), rfl⟩
        case round =>
          obtain ⟨j, n3, hj1, hj2, rfl, HS, rfl⟩ := hrel
          have n0 := KN.out.cell (k := 0) (v := .int .i64 tt) rfl; have n1' := KN.out.cell (k := 1) (v := .int .i64 (i : Int)) rfl; have n2' := KN.out.cell (k := 2) (v := .int .i64 (sp : Int)) rfl; have n3' := KN.out.cell (k := 3) (v := .int .i64 (k : Int)) rfl
          by_cases hltj : j < L.length
          · obtain ⟨yj, hyj⟩ : ∃ yj, L[j]? = some yj := ⟨_, List.getElem?_eq_getElem hltj⟩
            obtain ⟨gL2, cL2, he, _, _, l0, l1, l2, l3⟩ := HX4.out.own.at_ hyj
            injection he with he _ he2; injection he with he; injection he with he _ _
            subst he; subst he2
            have hji : (j : Int) < (L.length : Int) := by omega
            have hjd : decide (j < L.length) = true := by simpa using hltj
            by_cases hs1 : yj.set = sp
            rotate_left
            · have d1 : ((yj.set : Int) != (sp : Int)) = true := by rw [bne_iff_ne]; omega
              have HS2 := hide (show ∀ a, frm ≤ a → a < j + 1 → ∀ y, L[a]? = some y → sameR (sp) i y = false from fun a h1 h2 y hy => by
                rcases Nat.lt_or_ge a j with h' | h'
                · exact HS.out a h1 h' y hy
                · obtain rfl : a = j := by omega
                  rw [hyj] at hy; injection hy with hy; subst hy
                  cases hh : sameR (sp) i yj with
                  | false => rfl
                  | true => exact absurd (sameR_iff.1 hh) (by rintro ⟨z1, z2⟩; exact hs1 z1))
              clear hs1 hyj
              go_wp2
              go_quiet (fail)
              go_wp2
              go_roundw
              case rel => exact ⟨j + 1, _, by omega, by omega, by go_num, HS2, by first | rfl | exact World.drewN_drewN ..⟩
              case measure => simp [intOf]; omega
            have d1 : ((yj.set : Int) != (sp : Int)) = false := by rw [bne_eq_false_iff_eq]; omega
            by_cases hs2 : yj.last = i
            rotate_left
            · have d2 : ((yj.last : Int) != (i : Int)) = true := by rw [bne_iff_ne]; omega
              have HS2 := hide (show ∀ a, frm ≤ a → a < j + 1 → ∀ y, L[a]? = some y → sameR (sp) i y = false from fun a h1 h2 y hy => by
                rcases Nat.lt_or_ge a j with h' | h'
                · exact HS.out a h1 h' y hy
                · obtain rfl : a = j := by omega
                  rw [hyj] at hy; injection hy with hy; subst hy
                  cases hh : sameR (sp) i yj with
                  | false => rfl
                  | true => exact absurd (sameR_iff.1 hh) (by rintro ⟨z1, z2⟩; exact hs2 z2))
              clear hs1 hs2 hyj
              go_wp2
              go_quiet (fail)
              go_wp2
              go_roundw
              case rel => exact ⟨j + 1, _, by omega, by omega, by go_num, HS2, by first | rfl | exact World.drewN_drewN ..⟩
              case measure => simp [intOf]; omega
            have d2 : ((yj.last : Int) != (i : Int)) = false := by rw [bne_eq_false_iff_eq]; omega
            have hat := atR_eq hfL hj1 hj2 HS.out (.inr ⟨yj, hyj, sameR_iff.2 ⟨hs1, hs2⟩⟩)
            have hput := putR_at (nx := ⟨tt, i, sp, k⟩) hat
            rw [hyj] at hput
            have HPut := hide (HN.out.trans hput)
            have hje : ((j : Int) == (L.length : Int)) = false := by rw [beq_eq_false_iff_ne]; omega
            clear hs1 hs2 hat hput hyj
            by_cases t4 : tt < yj.time
            · have HFin : Hid (foldR (dst d) (unN nds) nds.length k frm s lst (i + 1) = L.set j ⟨tt, i, sp, k⟩) := hide (by rw [HPut.out]; show (if tt < yj.time then _ else _) = _; rw [if_pos t4])
              have f0 := HX4.out.own.frozenAt (j * 4); have f1 := HX4.out.own.frozenAt (j * 4 + 1); have f2 := HX4.out.own.frozenAt (j * 4 + 2); have f3 := HX4.out.own.frozenAt (j * 4 + 3)
              go_wp2
              go_quiet (fail)
              go_wp2
              go_roundw
              case rel =>
                refine ⟨i + 1, by omega, by go_num, hide ?_⟩
                rw [HFin.out]
                exact (HX4.out.next (Dr.below (Dr.one _ _))).put rfl hltj ⟨tt, i, sp, k⟩
              case measure => simp [intOf]; omega
            · have HFin : Hid (foldR (dst d) (unN nds) nds.length k frm s lst (i + 1) = L) := hide (by rw [HPut.out]; show (if tt < yj.time then _ else _) = _; rw [if_neg t4])
              go_wp2
              go_quiet (fail)
              go_wp2
              go_roundw
              case rel => exact ⟨i + 1, by omega, by go_num, hide (by rw [HFin.out]; exact HX4.out.next (Dr.below (by first | exact Dr.one _ _ | exact Dr.two _ _ _)))⟩
              case measure => simp [intOf]; omega
          · obtain rfl : j = L.length := by omega
            have hat := atR_eq hfL hj1 hj2 HS.out (.inl rfl)
            have hput := putR_at (nx := ⟨tt, i, sp, k⟩) hat
            rw [List.getElem?_eq_none (Nat.le_refl _)] at hput
            have HFin : Hid (foldR (dst d) (unN nds) nds.length k frm s lst (i + 1) = L ++ [⟨tt, i, sp, k⟩]) := hide (HN.out.trans hput)
            have hjd : decide (L.length < L.length) = false := by simp
            have hje : ((L.length : Int) == (L.length : Int)) = true := by simp
            clear hat hput
            go_wp2
            go_quiet (fail)
            go_wp2_with (at_builtin; refine Stop.out ?_)
            refine Stop.go ?_
            have HX5 := hide (HX4.out.next (Dr.below (Dr.one _ (n3 + nq))))
            clear HX4 n0 n1' n2' n3' KN
            have hBz : w0.heap.size ≤ W3.heap.size := HX5.out.below.size
            refine wpList_append_where rfl (.tmp 138) (.tmp 140) 64 rfl w0.heap.size 69 g0 _ 4 32 Try.underlying64 hg0 hgz0 hgz1 hgz2 rfl (by omega) _ _ _ rfl (HX5.out.next (balloc (Below.refl _ _) _)).own ⟨W3.heap.size, 0, none⟩ 1 1 (Rs.cells ⟨tt, i, sp, k⟩) rfl rfl (fun j u hu => by rw [Addr.add_lit, Nat.zero_add]; exact (Blk.new (W3.drewN (n3 + nq)) _ _).cell (by simpa [Rs.cells] using hu)) (rs_one _) (by unfold maxLen; omega) (by omega) (by simp; omega) ?_
            intro v1 w7 hown1 hg1 hw1
            have HX6 := hide ((HX5.out.next (balloc (Below.refl _ _) _)).app hg1 hown1 hw1)
            clear hg1 hown1 hw1 HX5
            go_wp2_with fail
            go_roundw
            case rel => exact ⟨i + 1, by omega, by go_num, hide (by rw [HFin.out]; exact HX6.out)⟩
            case measure => simp [intOf]; omega
    · obtain rfl : i = nds.length := by omega
      have HR1 := hide (HR.out _ _ HX.out.below (by rw [Hext.out, if_pos Hpc.out]; exact HX.out.own))
      go_wp2
      exact HR1.out
end Go.Proofs.Ytaopfoicdjejnaa

namespace Go.Proofs.Ytaopfoicdjejnaa
open Go.RowKit

theorem OwnS.lst {W : World} {base : Nat} {v : Value} {l : List Rs} (h : OwnS W base v l) : ∃ p c, v = .slice p l.length c ∧ EncAt 4 Rs.cells W p l := by
  obtain ⟨p, c, hv, _⟩ := own_val h
  subst hv
  exact ⟨p, c, rfl, EncAt.of_own rs_len (by omega) h⟩
theorem EncAt.rs {w : World} {p : Option Addr} {l : List Rs} (h : EncAt 4 Rs.cells w p l) {i : Nat} (hi : i < l.length) : ∃ b o x, p = some ⟨b, o, none⟩ ∧ l[i]? = some x ∧
    w.cell? ⟨b, o + i * 4, none⟩ = some (.int .i64 x.time) ∧ w.cell? ⟨b, o + i * 4 + 1, none⟩ = some (.int .i64 (x.last : Int)) ∧ w.cell? ⟨b, o + i * 4 + 2, none⟩ = some (.int .i64 (x.set : Int)) ∧ w.cell? ⟨b, o + i * 4 + 3, none⟩ = some (.int .i64 x.frm) := by
  obtain ⟨b, o, x, hp, hx, hc⟩ := h.at_ hi
  exact ⟨b, o, x, hp, hx, hc 0 _ rfl, hc 1 _ rfl, hc 2 _ rfl, hc 3 _ rfl⟩
/-- While the times are written. -/
structure TP (w : World) (g n : Nat) (wr : World) : Prop where
  below : Below w.heap.size w wr
  own : ∃ xs : List Int, wr.ownsRow w.heap.size 3 1 (.slice (some ⟨g, 0, none⟩) n n) n (xs.map (Value.int .i64))
section
variable {w : World} {g n : Nat} {wr w' : World}
theorem TP.next (h : TP w g n wr) (hb : Below wr.heap.size wr w') : TP w g n w' := by
  obtain ⟨xs, ho⟩ := h.own
  exact ⟨bseq h.below hb, xs, own_below ho hb⟩
theorem TP.put (h : TP w g n wr) (i : Nat) (x : Int) : TP w g n (wr.setCell ⟨g, i, none⟩ (.int .i64 x)) := by
  obtain ⟨xs, ho⟩ := h.own
  exact ⟨h.below.setCell (p := ⟨g, i, none⟩) (ho.lt g rfl).1 _, _, owni_set ho i x⟩
theorem TP.cell (h : TP w g n wr) {i : Nat} (hi : i < n) : (∃ x, wr.cell? ⟨g, i, none⟩ = some (.int .i64 x)) ∧ wr.frozen? ⟨g, i, none⟩ = false ∧ w.heap.size ≤ g ∧ g < wr.heap.size := by
  obtain ⟨xs, ho⟩ := h.own
  exact ⟨⟨_, owni_cell ho hi⟩, ho.frozenAt i, (ho.lt g rfl).1, (ho.lt g rfl).2⟩
end
set_option maxRecDepth 100000 in
set_option maxHeartbeats 4000000 in
theorem times_c (np lp : Option Addr) (nc lc n k : Nat) (nds : List Nd) (lst : List Rs) (w : World) (R) (hn : n ≤ 7) (hk : k < lst.length) (hll : lst.length ≤ 100000000) (hnd : NdsAt w np nds) (hl : EncAt 4 Rs.cells w lp lst) (hix : ∀ x ∈ nds, 0 ≤ x.first ∧ x.first < n ∧ x.second < n ∧ -1 ≤ x.second ∧ 0 ≤ x.gap ∧ x.gap ≤ 1000000) (hlast : ∀ s ∈ lst, s.last < nds.length ∧ 0 ≤ s.time ∧ s.time ≤ 1000000) (hn7 : nds.length ≤ 7) (hfr : ∀ (i : Nat) (x : Rs), lst[i]? = some x → -1 ≤ x.frm ∧ x.frm < (i : Int))
    (hR : ∀ p w', Below w.heap.size w w' → R (.returned (.slice p n n)) w') :
    Calls Try.prog 33 #[.slice np nds.length nc, .slice lp lst.length lc, .int .i64 (k : Int), .int .i64 (n : Int)] w R := by
  have HR := hide hR; have Hnd := hide hnd; have Hl := hide hl; have Hix := hide hix; have Hlast := hide hlast; have Hfr := hide hfr
  clear hR hnd hl hix hlast hfr
  obtain ⟨w1, hm, how, hb1, hsz⟩ := mk25 w n (by omega)
  have HT := hide (show TP w w.heap.size n w1 from ⟨hb1, _, how⟩)
  clear how hb1
  obtain ⟨g, hg⟩ : ∃ g, w.heap.size = g := ⟨_, rfl⟩
  have HT1 : Hid (TP w g n w1) := by rw [← hg]; exact HT
  clear HT
  go_enter Try.func33, Try.ntmps33
  go_wp2
  clear hm hg hsz
  go_loopw [2] (fun sk wr => ∃ j : Nat, j ≤ lst.length ∧ sk = .int .i64 ((j : Int) - 1) ∧ Hid (TP w g n wr)) (fun sk _ => (intOf sk + 1).toNat)
  case atStart => exact ⟨k + 1, by omega, by congr 1; omega, HT1⟩
  case round =>
    clear HT1
    obtain ⟨j, hj, hsk, HT⟩ := hrel
    rcases j with _ | j
    · obtain rfl : u2 = .int .i64 (-1) := by rw [hsk]; rfl
      clear hsk
      go_wp2
      exact HR.out _ _ HT.out.below
    · obtain rfl : u2 = .int .i64 (j : Int) := by rw [hsk]; congr 1; omega
      clear hsk
      have hjl : j < lst.length := by omega
      obtain ⟨lb, lo, s, rfl, hs, l0, l1, l2, l3⟩ := (Hl.out.keep (Keeps.of_below HT.out.below)).rs hjl
      obtain ⟨sl, st1, st2⟩ := Hlast.out s (List.mem_of_getElem? hs)
      obtain ⟨fr1, fr2⟩ := Hfr.out j s hs
      obtain ⟨nb, no, x, rfl, hx, x0, x1, x2, x3, x4, x5, x6⟩ := (Hnd.out.keep (Keeps.of_below HT.out.below)).nd sl
      obtain ⟨i1, i2, i3, i4, i5, i6⟩ := Hix.out x (List.mem_of_getElem? hx)
      have Hs := hide hs
      clear hs hx
      obtain ⟨xf, xs2, xo, xl, xh, xg, xst⟩ := x
      simp only at x0 x1 x2 x3 x4 x5 x6 i1 i2 i3 i4 i5 i6
      obtain ⟨a, rfl⟩ : ∃ a : Nat, xf = a := ⟨xf.toNat, by omega⟩
      have ha : a < n := by omega
      have hli : (s.last : Int) < (nds.length : Int) := by omega
      have hal := balloc (Below.refl wr.heap.size wr) (.cells #[.int .i64 (a : Int), .int .i64 xs2, .int .i64 xo, .int .i64 xl, .int .i64 xh, .int .i64 xg, .int .i64 xst] 66)
      have HT2 := hide (HT.out.next hal)
      have KX := hide (Blk.new wr #[.int .i64 (a : Int), .int .i64 xs2, .int .i64 xo, .int .i64 xl, .int .i64 xh, .int .i64 xg, .int .i64 xst] 66)
      have hgl := (HT.out.cell ha).2.2.2
      have m0 := cell_later hal l0; have m3 := cell_later hal l3
      have Hl0 := hide (show lb < w.heap.size by
        obtain ⟨b', o', x', hp', _, c', _⟩ := Hl.out.rs hjl
        injection hp' with hp'; injection hp' with e1 e2
        subst e1
        exact block_lt c')
      have hgw := (HT.out.cell ha).2.2.1
      have hlbg : ¬ lb = g := by have := Hl0.out; omega
      clear hal
      go_wp2
      generalize wr.alloc (.cells #[.int .i64 (a : Int), .int .i64 xs2, .int .i64 xo, .int .i64 xl, .int .i64 xh, .int .i64 xg, .int .i64 xst] 66) = W at *
      obtain ⟨gX, hgX⟩ : ∃ gX, wr.heap.size = gX := ⟨_, rfl⟩
      rw [hgX] at KX hgl ⊢
      clear hgX HT l0 l1 l2 l3 x0 x1 x2 x3 x4 x5 x6
      have hne1 : ¬ gX = g := by omega
      have hne2 : ¬ g = gX := by omega
      have k0 := KX.out.cell (k := 0) (v := .int .i64 (a : Int)) rfl
      obtain ⟨⟨ov, co⟩, fo, _, _⟩ := HT2.out.cell ha
      have hji : (j : Int) < (lst.length : Int) := by omega
      have hai : (a : Int) < (n : Int) := by omega
      go_still_tail 9, (by kernel_rfl)
      go_upto_region 5 with (fail)
      have HT3 := hide ((HT2.out.put a s.time).next (Below.refl _ _).drew)
      have KX3 := hide ((KX.out.set_other (a := ⟨g, a, none⟩) hne2 (.int .i64 s.time)).drew)
      clear HT2 KX m0 m3 k0 co fo ov
      generalize (W.setCell ⟨g, a, none⟩ (.int .i64 s.time)).drew = W2 at *
      obtain ⟨_, _, s', hp, hs', l0, _, _, l3⟩ := (Hl.out.keep (Keeps.of_below HT3.out.below)).rs hjl
      injection hp with hp; injection hp with e1 e2
      subst e1; subst e2
      have : s' = s := by have := Hs.out; rw [hs'] at this; injection this
      subst this
      clear hs'
      have k1 := KX3.out.cell (k := 1) (v := .int .i64 xs2) rfl
      by_cases t : xs2 < 0
      · have t' : ¬ 0 ≤ xs2 := by omega
        go_wp2
        go_roundw
        case rel => exact ⟨(s'.frm + 1).toNat, by omega, by congr 1; omega, HT3⟩
        case measure => simp [intOf]; omega
      · obtain ⟨b, rfl⟩ : ∃ b : Nat, xs2 = b := ⟨xs2.toNat, by omega⟩
        have hb : b < n := by omega
        have k5 := KX3.out.cell (k := 5) (v := .int .i64 xg) rfl
        obtain ⟨⟨ov, co⟩, fo, _, _⟩ := HT3.out.cell hb
        have wz : IntKind.i64.wrap (s'.time + xg) = s'.time + xg := IntWalk.i64_in _ (by omega)
        have hbi : (b : Int) < (n : Int) := by omega
        go_wp2
        go_still_tail 12, (by kernel_rfl)
        go_upto_region 7 with (fail)
        have HT4 := hide ((HT3.out.put b (s'.time + xg)).next (Below.refl _ _).drew)
        clear HT3 KX3 l0 l3 k1 k5 co fo ov wz
        generalize (W2.setCell ⟨g, b, none⟩ (.int .i64 (s'.time + xg))).drew = W3 at *
        obtain ⟨_, _, s2, hp, hs', l0, _, _, l3⟩ := (Hl.out.keep (Keeps.of_below HT4.out.below)).rs hjl
        injection hp with hp; injection hp with e1 e2
        subst e1; subst e2
        have : s2 = s' := by have := Hs.out; rw [hs'] at this; injection this
        subst this
        clear hs'
        go_wp2
        go_roundw
        case rel => exact ⟨(s2.frm + 1).toNat, by omega, by congr 1; omega, HT4⟩
        case measure => simp [intOf]; omega
end Go.Proofs.Ytaopfoicdjejnaa

namespace Go.Proofs.Ytaopfoicdjejnaa
open Go.RowKit

theorem ext_len (D : Nat → Nat → Int) (us : Nat → Un) (n k size frm : Nat) (lst : List Rs) : (extR D us n k size frm lst).length ≤ lst.length + n := by
  unfold extR
  split
  · omega
  · split
    · exact foldR_len D us n k frm _ lst n
    · omega
def stepsR (D : Nat → Nat → Int) (us : Nat → Un) (n size : Nat) (lst : List Rs) (k : Nat) : List Rs := (List.range k).foldl (fun l k => extR D us n k size lst.length l) lst
theorem stepsR_succ (D : Nat → Nat → Int) (us : Nat → Un) (n size : Nat) (lst : List Rs) (k : Nat) : stepsR D us n size lst (k + 1) = extR D us n k size lst.length (stepsR D us n size lst k) := by
  unfold stepsR
  rw [List.range_succ, List.foldl_append]; rfl
theorem steps_len (D : Nat → Nat → Int) (us : Nat → Un) (n size : Nat) (lst : List Rs) : ∀ k, (stepsR D us n size lst k).length ≤ lst.length + k * n
  | 0 => by unfold stepsR; simp
  | k + 1 => by
    rw [stepsR_succ]
    have := ext_len D us n k size lst.length (stepsR D us n size lst k)
    have := steps_len D us n size lst k
    rw [Nat.add_mul]; omega
theorem round_len (D : Nat → Nat → Int) (us : Nat → Un) (n size : Nat) (lst : List Rs) (hn : n ≤ 7) : (roundR D us n size lst).length ≤ 8 * lst.length := by
  have h1 : roundR D us n size lst = stepsR D us n size lst lst.length := rfl
  rw [h1]
  have := steps_len D us n size lst lst.length
  have h2 : lst.length * n ≤ lst.length * 7 := Nat.mul_le_mul_left _ hn
  omega
theorem allR_len (D : Nat → Nat → Int) (us : Nat → Un) (n : Nat) (hn : n ≤ 7) : ∀ r, (allR D us n r).length ≤ 7 * 8 ^ r
  | 0 => by
    show (initR us n).length ≤ _
    unfold initR
    rw [List.length_map, List.length_range]; omega
  | r + 1 => by
    have h1 := allR_len D us n hn r
    have h2 := round_len D us n (r + 1) (allR D us n r) hn
    rw [Nat.pow_succ]
    show (roundR D us n (r + 1) (allR D us n r)).length ≤ _
    omega
theorem allR_len6 {D : Nat → Nat → Int} {us : Nat → Un} {n r : Nat} (hn : n ≤ 7) (hr : r ≤ 6) : (allR D us n r).length ≤ 1835008 := by
  have h1 := allR_len D us n hn r
  have h2 : 8 ^ r ≤ 8 ^ 6 := Nat.pow_le_pow_right (by omega) hr
  omega
theorem steps_inv {D : Nat → Nat → Int} {us : Nat → Un} {n size : Nat} {lst : List Rs} (hU : ∀ u < n, UnOk D us u) (h : RInv D us n lst) {k : Nat} (hk : k ≤ lst.length) : RStep D us n lst.length lst (stepsR D us n size lst k) :=
  RStep.steps hU _ _ (fun j hj => by have : j < k := by simpa using hj
                                     omega) h (Nat.le_refl _)
theorem init_at (us : Nat → Un) {n i : Nat} (h : i < n) : (initR us n)[i]? = some ⟨(us i).low, i, 2 ^ i, -1⟩ := by unfold initR; rw [List.getElem?_map, List.getElem?_range h]; rfl
theorem init_len (us : Nat → Un) (n : Nat) : (initR us n).length = n := by simp [initR]
theorem nd_ok {d : List (List Int)} {es : List Evt} {ls : List Lgr} (hW : WellP d es ls) (hN : OkN d es ls) : ∀ x ∈ nodesL es ls, NdOk d x ∧ 0 ≤ x.first ∧ x.first < es.length ∧ x.second < es.length ∧ -1 ≤ x.second := fun x hx => by
  have hlh := hN.win x hx
  have hlow : ∀ u ∈ unitsL es ls, (ndU u).low ≤ (ndU u).high → NdOk d (ndU u) ∧ 0 ≤ (ndU u).first ∧ (ndU u).first < es.length ∧ (ndU u).second < es.length ∧ -1 ≤ (ndU u).second := fun u hu hw => by
    unfold unitsL at hu
    rcases List.mem_append.1 hu with h | h
    · obtain ⟨g, hg, rfl⟩ := List.mem_map.1 h
      have h1 := hW.leg g hg
      have o1 := evAt_office hW (i := g.src.toNat) (by omega)
      have o2 := evAt_office hW (i := g.dst.toNat) (by omega)
      have r1 := clip_rng (evAt es g.src.toNat)
      have r2 := clip_rng (evAt es g.dst.toNat)
      have hw' : max (clipT (evAt es g.src.toNat)).low ((clipT (evAt es g.dst.toNat)).low - g.gap) ≤ min (clipT (evAt es g.src.toNat)).high ((clipT (evAt es g.dst.toNat)).high - g.gap) := hw
      refine ⟨⟨o1, o2, ⟨h1.2.2.2.2.1, h1.2.2.2.2.2⟩, ?_, ?_⟩, h1.1, h1.2.1, h1.2.2.2.1, by show -1 ≤ g.dst; omega⟩
      · show 0 ≤ max (clipT (evAt es g.src.toNat)).low ((clipT (evAt es g.dst.toNat)).low - g.gap) ∧ max (clipT (evAt es g.src.toNat)).low ((clipT (evAt es g.dst.toNat)).low - g.gap) ≤ 1000000
        omega
      · show -1000000 ≤ min (clipT (evAt es g.src.toNat)).high ((clipT (evAt es g.dst.toNat)).high - g.gap) ∧ min (clipT (evAt es g.src.toNat)).high ((clipT (evAt es g.dst.toNat)).high - g.gap) ≤ 1000000
        omega
    · unfold onesL at h
      obtain ⟨i, hi, rfl⟩ := List.mem_map.1 h
      have hil : i < es.length := by simpa using (List.mem_filter.1 hi).1
      have o1 := evAt_office hW hil
      have r1 := clip_rng (evAt es i)
      refine ⟨⟨o1, o1, ⟨Int.le_refl _, by show (0 : Int) ≤ 1000000; omega⟩, ⟨r1.1, r1.2.1⟩, ⟨by show -1000000 ≤ (clipT (evAt es i)).high; omega, r1.2.2.2⟩⟩, by show (0 : Int) ≤ (i : Int); omega, by show (i : Int) < _; omega, by show (-1 : Int) < _; omega, by show (-1 : Int) ≤ -1; omega⟩
  unfold nodesL at hx
  obtain ⟨u, hu, rfl⟩ := List.mem_map.1 hx
  exact hlow u hu hlh
set_option maxRecDepth 100000 in
set_option maxHeartbeats 4000000 in
theorem rfit_c (dp ep lp : Option Addr) (dc ec lc : Nat) (d : List (List Int)) (es : List Evt) (ls : List Lgr) (w : World) (R) (hdl : d.length ≤ maxLen) (hel : es.length ≤ 7) (hll : ls.length ≤ maxLen) (hd : RowsAt w dp d) (he : EvsAt w ep es) (hl : LgsAt w lp ls)
    (hR : ∀ x w', Below w.heap.size w w' → R (.returned (.tuple #[x, .bool (fitR d es ls).isSome])) w') :
    Calls Try.prog 13 #[.slice dp d.length dc, .slice ep es.length ec, .slice lp ls.length lc] w R := by
  have HF : Hid ((fitR d es ls).isSome = false → ∀ x w', Below w.heap.size w w' → R (.returned (.tuple #[x, .bool false])) w') := hide (fun h x w' hb => by have := hR x w' hb; rw [h] at this; exact this)
  have HT : Hid ((fitR d es ls).isSome = true → ∀ x w', Below w.heap.size w w' → R (.returned (.tuple #[x, .bool true])) w') := hide (fun h x w' hb => by have := hR x w' hb; rw [h] at this; exact this)
  have Hd := hide hd; have He := hide he; have Hl := hide hl
  clear hR hd he hl
  go_enter Try.func13, Try.ntmps13
  go_wp2_with (go_at_call 19; refine Stop.out ?_)
  refine Stop.go (rvalid_c dp ep lp dc ec lc d es ls _ _ hdl (by unfold maxLen; omega) hll Hd.out He.out Hl.out ?_)
  intro w1 hb
  have B1 := hide hb
  clear hb
  cases hwb : wellB d es ls with
  | false =>
    have HF1 := hide (HF.out (by
      cases h : (fitR d es ls).isSome with
      | false => rfl
      | true => have := (fitR_iff.1 h).1; rw [wellB_true.2 this] at hwb; cases hwb))
    clear hwb
    go_wp2
    exact HF1.out _ _ B1.out
  | true =>
  have HW := hide (wellB_true.1 hwb)
  clear hwb
  go_wp2_with (go_at_call 30; refine Stop.out ?_)
  refine Stop.go (nodes_c dp ep lp dc ec lc d es ls _ _ hel (Hd.out.keep (Keeps.of_below B1.out)) (He.out.keep (Keeps.of_below B1.out)) (Hl.out.keep (Keeps.of_below B1.out)) HW.out ?_ ?_)
  · intro hN w2 hb
    have HF1 := hide (HF.out (by
      cases h : (fitR d es ls).isSome with
      | false => rfl
      | true => exact absurd ((ref_iff HW.out).1 h).1 hN))
    have B2 := hide (bseq B1.out hb)
    clear hb hN
    go_wp2
    exact HF1.out _ _ B2.out
  intro hN np nc w2 hb hnd
  have HU := refU_of HW.out hN
  have hok := nd_ok HW.out hN
  have hle : (nodesL es ls).length ≤ 7 := by
    have := units_len HW.out
    rw [nodes_len]; omega
  have B2 := hide (bseq B1.out hb)
  have HA := hide (show XA d (nodesL es ls) dp np w2 from ⟨HW.out.dist, Hd.out.keep (Keeps.of_below B2.out), hnd, fun x hx => (hok x hx).1, hle, HU.ok⟩)
  have Hix := hide (fun x (hx : x ∈ nodesL es ls) => (show 0 ≤ x.first ∧ x.first < es.length ∧ x.second < es.length ∧ -1 ≤ x.second ∧ 0 ≤ x.gap ∧ x.gap ≤ 1000000 from ⟨(hok x hx).2.1, (hok x hx).2.2.1, (hok x hx).2.2.2.1, (hok x hx).2.2.2.2, (hok x hx).1.gap.1, (hok x hx).1.gap.2⟩))
  have HFnd := hide (show (fitR d es ls).isSome = foundB d (nodesL es ls) by
    rw [Bool.eq_iff_iff, ref_iff HW.out]
    exact ⟨fun h => h.2, fun h => ⟨hN, h⟩⟩)
  clear hb hN HU hok hnd B1
  generalize nodesL es ls = nds at *
  by_cases h0 : nds.length = 0
  · have hz : ((nds.length : Int) == (0 : Int)) = true := by rw [beq_iff_eq]; omega
    have HT1 := hide (HT.out (by rw [HFnd.out]; unfold foundB; rw [decide_eq_true h0]; rfl))
    clear h0
    go_wp2
    exact HT1.out _ _ B2.out
  have hz : ((nds.length : Int) == (0 : Int)) = false := by rw [beq_eq_false_iff_ne]; omega
  have hpos : 0 < nds.length := by omega
  have HDn := hide (show (fitR d es ls).isSome = doneR (dst d) (unN nds) nds.length by rw [HFnd.out]; unfold foundB; rw [decide_eq_false h0]; rfl)
  obtain ⟨g0, hg0, hgz0, hgz1, hgz2⟩ := info_parts Try.info69
  clear h0 HFnd
  go_wp2
  go_loopw [10, 11] (fun v si wr => ∃ i : Nat, i ≤ nds.length ∧ si = .int .i64 i ∧ Hid (OwnS wr w2.heap.size v ((initR (unN nds) nds.length).take i)) ∧ Hid (Below w2.heap.size w2 wr)) (fun _ si _ => nds.length - (intOf si).toNat)
  case atStart => exact ⟨0, Nat.zero_le _, rfl, hide OwnS.nil, hide (Below.refl _ _)⟩
  case round =>
    obtain ⟨i, hi, rfl, HO, HB⟩ := hrel
    by_cases hlt : i < nds.length
    · obtain ⟨nb, no, x, rfl, hx, _, _, _, x3, _, _, _⟩ := (HA.out.nd.keep (Keeps.of_below HB.out)).nd hlt
      obtain ⟨p, hp⟩ : ∃ p, 2 ^ i = p := ⟨_, rfl⟩
      have HS := hide (show (initR (unN nds) nds.length).take (i + 1) = (initR (unN nds) nds.length).take i ++ [⟨x.low, i, p, -1⟩] by
        rw [take_succ_of (init_at (unN nds) hlt), unN_at hx, hp]; rfl)
      have HP := hide hp
      have hln : ((initR (unN nds) nds.length).take i).length ≤ 7 := by rw [List.length_take, init_len]; omega
      have hBz := HB.out.size
      have hii : (i : Int) < (nds.length : Int) := by omega
      have hnb : u10.ownBlock ≠ some nb := fun e => by
        have h1 := (HO.out.lt _ e).1
        obtain ⟨b', o', x', hp', _, c', _⟩ := HA.out.nd.nd hlt
        injection hp' with hp'; injection hp' with e1 e2
        have := block_lt c'
        simp only at this
        omega
      have KB : Hid (∀ w', wr.grownBy w' u10.ownBlock → (wr.grownBy w' u10.ownBlock ∧ w'.cell? ⟨nb, no + i * 7 + 3, none⟩ = some (.int .i64 x.low))) := hide (fun w' h => ⟨h, grow_cell h x3 hnb⟩)
      clear hx hp x3
      go_wp2
      go_region_held3 (fun w' => wr.grownBy w' u10.ownBlock ∧ w'.cell? ⟨nb, no + i * 7 + 3, none⟩ = some (.int .i64 x.low))
        (first | exact KB.out _ (grow_drew (World.grownBy.refl _ _)) | exact KB.out _ (grow_drew (World.grownBy_alloc _ _ _)) | exact KB.out _ b7)
        (first
        | (go_at_call 31; refine bit2_c i p _ _ (by omega) HP.out ?_)
        | (refine step_where rfl (.tmp 39) (.tmp 49) 64 rfl w2.heap.size 69 g0 _ 4 32 Try.underlying64 hg0 hgz0 hgz1 hgz2 rfl (by omega) u10 _ _ rfl (own_below HO.out ((balloc (Below.refl _ _) _).drew)) ⟨wr.heap.size, 0, none⟩ 1 1 (Rs.cells ⟨x.low, i, p, -1⟩) rfl rfl (fun j u hu => by rw [Addr.add_lit, Nat.zero_add]; exact ((Blk.new wr _ _).drew).cell (by simpa [Rs.cells] using hu)) (rs_one _) (by unfold maxLen; omega) (by omega) (by simp; omega) ?_
           intro v7 w7 hown hg7 hw7
           have b7 : wr.grownBy w7 u10.ownBlock := World.grownBy.trans (grow_drew (World.grownBy_alloc wr _ _)) hg7))
      all_goals
        have HB3 := hide (show Below w2.heap.size w2 w7 from HB.out.grown b7 HB.out.size (fun k hk => (HO.out.lt k hk).1))
        have HO3 := hide (show OwnS w7 w2.heap.size v7 ((initR (unN nds) nds.length).take (i + 1)) by rw [HS.out]; exact OwnS.app hown)
        clear hown hg7 hw7 b7 KB HB HO HS
        go_wp2_with fail
        go_roundw
        case rel => exact ⟨i + 1, by omega, by go_num, HO3, HB3⟩
        case measure => simp [intOf]; omega
    · obtain rfl : i = nds.length := by omega
      have HO1 : Hid (OwnS wr w2.heap.size u10 (allR (dst d) (unN nds) nds.length 0)) := hide (by have := HO.out; rwa [List.take_of_length_le (by rw [init_len]; exact Nat.le_refl _)] at this)
      have hfew := HA.out.few
      clear HO
      go_wp2
      go_loopw [10, 12] (fun v sr wr => ∃ q : Nat, 1 ≤ q ∧ q ≤ nds.length ∧ sr = .int .i64 q ∧ Hid (OwnS wr w2.heap.size v (allR (dst d) (unN nds) nds.length (q - 1))) ∧ Hid (Below w2.heap.size w2 wr)) (fun _ sr _ => nds.length - (intOf sr).toNat)
      case atStart => exact ⟨1, Nat.le_refl _, hpos, rfl, HO1, HB⟩
      case round =>
        clear HO1 HB
        obtain ⟨q, hq1, hq2, rfl, HO, HB⟩ := hrel
        have hun := fun (u : Nat) (hu : u < nds.length) => (HA.out.unok u hu).1
        by_cases hltq : q < nds.length
        · have HI := hide (allR_inv HA.out.unok (q - 1))
          have hL0 : (allR (dst d) (unN nds) nds.length (q - 1)).length ≤ 229376 := by
            have h1 := allR_len (dst d) (unN nds) nds.length hfew (q - 1)
            have h2 : 8 ^ (q - 1) ≤ 8 ^ 5 := Nat.pow_le_pow_right (by omega) (by omega)
            omega
          have HNext := hide (show stepsR (dst d) (unN nds) nds.length q (allR (dst d) (unN nds) nds.length (q - 1)) (allR (dst d) (unN nds) nds.length (q - 1)).length = allR (dst d) (unN nds) nds.length q by
            obtain ⟨r, rfl⟩ : ∃ r, q = r + 1 := ⟨q - 1, by omega⟩
            rfl)
          have HUn := hide hun
          clear hun
          generalize allR (dst d) (unN nds) nds.length (q - 1) = L0 at *
          obtain ⟨lp, lc2, hu, _⟩ := own_val HO.out
          subst hu
          go_wp2
          go_loopw [10, 14] (fun v sk wr => ∃ k : Nat, k ≤ L0.length ∧ sk = .int .i64 k ∧ Hid (OwnS wr w2.heap.size v (stepsR (dst d) (unN nds) nds.length q L0 k)) ∧ Hid (Below w2.heap.size w2 wr)) (fun _ sk _ => L0.length - (intOf sk).toNat)
          case atStart => exact ⟨0, Nat.zero_le _, rfl, HO, HB⟩
          case round =>
            clear HO HB
            obtain ⟨k, hk, rfl, HO, HB⟩ := hrel
            by_cases hltk : k < L0.length
            · have hst := steps_inv (size := q) HUn.out HI.out hk
              have hsl := steps_len (dst d) (unN nds) nds.length q L0 k
              have hkn : k * nds.length ≤ 229376 * 7 := Nat.mul_le_mul (by omega) hfew
              have HInv := hide hst.inv
              have hlen1 := hst.len
              have HSc := hide (stepsR_succ (dst d) (unN nds) nds.length q L0 k)
              clear hst
              go_wp2_with (go_at_call 32; refine Stop.out ?_)
              refine Stop.go (extended_c dp np dc nc d nds (stepsR (dst d) (unN nds) nds.length q L0 k) k q L0.length _ w2 _ _ HA.out hltk hlen1 (by omega) (by omega) HInv.out HB.out HO.out ?_)
              intro v' w' hb' ho'
              have HB3 := hide hb'
              have HO3 := hide (show OwnS w' w2.heap.size v' (stepsR (dst d) (unN nds) nds.length q L0 (k + 1)) by rw [HSc.out]; exact ho')
              clear hb' ho' HB HO HSc HInv
              go_wp2
              go_roundw
              case rel => exact ⟨k + 1, by omega, by go_num, HO3, HB3⟩
              case measure => simp [intOf]; omega
            · obtain rfl : k = L0.length := by omega
              have HO3 := hide (show OwnS wr w2.heap.size u10 (allR (dst d) (unN nds) nds.length (q + 1 - 1)) by
                rw [Nat.add_sub_cancel, ← HNext.out]; exact HO.out)
              go_wp2
              go_roundw
              case rel => exact ⟨q + 1, by omega, by omega, by go_num, HO3, HB⟩
              case measure => simp [intOf]; omega
        · obtain rfl : q = nds.length := by omega
          have HI := hide (allR_inv HA.out.unok (nds.length - 1))
          have hL0 : (allR (dst d) (unN nds) nds.length (nds.length - 1)).length ≤ 1835008 := allR_len6 hfew (by omega)
          have HD1 := hide (show (fitR d es ls).isSome = (allR (dst d) (unN nds) nds.length (nds.length - 1)).any (fun x => x.set == 2 ^ nds.length - 1) from HDn.out)
          clear hun
          generalize allR (dst d) (unN nds) nds.length (nds.length - 1) = lst at *
          obtain ⟨lp, lc2, rfl, hE⟩ := HO.out.lst
          have HE := hide hE
          have hbd := hide (fun (x : Rs) (hx : x ∈ lst) => RsOk.bd HA.out.ok hfew (HI.out.ok x hx))
          obtain ⟨P, hP⟩ : ∃ P, 2 ^ nds.length = P := ⟨_, rfl⟩
          obtain ⟨P0, P1⟩ := pow_bd hfew hP
          rw [hP] at HD1
          have HP := hide hP
          have B3 := hide (bseq B2.out HB.out)
          clear hE HO hP
          have wz : IntKind.i64.wrap ((P : Int) - 1) = (P : Int) - 1 := IntWalk.i64_in _ (by omega)
          generalize wr = W at *
          go_wp2
          go_loopw [15] (fun sk wr => ∃ j nd : Nat, j ≤ lst.length ∧ sk = .int .i64 ((j : Int) - 1) ∧ Hid (∀ x ∈ lst.drop j, (x.set == P - 1) = false) ∧ wr = W.drewN nd) (fun sk _ => (intOf sk + 1).toNat)
          case atStart => exact ⟨lst.length, 0, Nat.le_refl _, rfl, hide (by rw [List.drop_length]; intro x hx; simp at hx), rfl⟩
          case round =>
            obtain ⟨j, nd, hj, hsk, HN, rfl⟩ := hrel
            rcases j with _ | j
            · obtain rfl : u15 = .int .i64 (-1) := by rw [hsk]; rfl
              have HF1 := hide (HF.out (by
                rw [HD1.out, List.any_eq_false]
                intro x hx
                rw [HN.out x (by rw [List.drop_zero]; exact hx)]; simp))
              clear hsk
              go_wp2
              exact HF1.out _ _ (below_drewN' B3.out _)
            · obtain rfl : u15 = .int .i64 (j : Int) := by rw [hsk]; congr 1; omega
              clear hsk
              have hjl : j < lst.length := by omega
              obtain ⟨lb, lo, x, rfl, hx, _, _, l2, _⟩ := HE.out.rs hjl
              have Hxm := hide (List.mem_of_getElem? hx)
              have hji : (j : Int) < (lst.length : Int) := by omega
              have HN2 := hide (fun (h : (x.set == P - 1) = false) => (show ∀ y ∈ lst.drop j, (y.set == P - 1) = false from fun y hy => by
                obtain ⟨hj2, e⟩ := List.getElem?_eq_some_iff.1 hx
                rw [List.drop_eq_getElem_cons hj2] at hy
                rcases List.mem_cons.1 hy with rfl | hy
                · rw [e]; exact h
                · exact HN.out y hy))
              clear hx
              by_cases t : x.set = P - 1
              · have t1 : ((x.set : Int) == (P : Int) - 1) = true := by rw [beq_iff_eq]; omega
                have HT1 := hide (HT.out (by rw [HD1.out, List.any_eq_true]; exact ⟨x, Hxm.out, by rw [t]; simp⟩))
                clear t
                go_wp2
                go_quiet ((go_at_call 31; exact quiet_add_dr (bit2_c nds.length P _ _ hfew HP.out ⟨rfl, Dr.refl _⟩)))
                go_wp2_with (go_at_call 33; refine Stop.out ?_)
                refine Stop.go (times_c np (some ⟨lb, lo, none⟩) nc lc2 es.length j nds lst _ _ hel hjl (by omega) ((HA.out.nd.keep (Keeps.of_below HB.out)).keep (fun _ _ h => h)) (HE.out.keep (fun _ _ h => h)) Hix.out (fun s hs => by have := hbd.out s hs; exact ⟨this.1, this.2.2⟩) hfew HI.out.frm ?_)
                intro p9 w9 hb9
                have B9 := hide (bseq (below_drewN' B3.out _) hb9)
                clear hb9
                go_wp2
                exact HT1.out _ _ B9.out
              · have t1 : ((x.set : Int) == (P : Int) - 1) = false := by rw [beq_eq_false_iff_ne]; omega
                have HN3 := hide (HN2.out (by simpa using t))
                clear t
                go_wp2
                go_quiet ((go_at_call 31; exact quiet_add_dr (bit2_c nds.length P _ _ hfew HP.out ⟨rfl, Dr.refl _⟩)))
                go_wp2
                go_roundw
                case rel => exact ⟨j, _, by omega, rfl, HN3, by first | rfl | exact World.drewN_drewN ..⟩
                case measure => simp [intOf]
end Go.Proofs.Ytaopfoicdjejnaa

namespace Go.Proofs.Ytaopfoicdjejnaa
open Go.ChangeShapes Go.WideShapes Go.ChangeAt Go.RowKit Go.Deep

set_option maxRecDepth 100000 in
set_option maxHeartbeats 8000000 in
theorem orderMatches_c (dp : Option Addr) (n dc : Nat) (d : List (List Int)) (ep : Option Addr) (m ec : Nat) (es : List Evt) (lp : Option Addr) (k lc : Nat) (ls : List Lgr) (tp : Option Addr) (t tc : Nat) (ts : List Int) (w : World) (R)
    (hn : d.length = n) (hn2 : n ≤ maxLen) (hd : RowsAt w dp d) (_hdc : n ≤ dc) (_h1 : True) (hm : es.length = m) (hm2 : m ≤ maxLen) (he : EvsAt w ep es) (_hec : m ≤ ec) (_h2 : True)
    (hk : ls.length = k) (hk2 : k ≤ maxLen) (hl : LgsAt w lp ls) (hlc : k ≤ lc) (_h3 : True) (ht : ts.length = t) (ht2 : t ≤ maxLen) (hti : IntsAt .i64 w tp ts) (_htc : t ≤ tc) (_h4 : True)
    (hR : ∀ w', Below w.heap.size w w' → R (.returned (.bool true)) w') :
    Calls Try.prog 3 #[.slice dp n dc, .slice ep m ec, .slice lp k lc, .slice tp t tc] w R := by
  subst hn; subst hm; subst hk
  have HR := hide hR; have Hd := hide hd; have He := hide he; have Hl := hide hl; have Hti := hide hti; have Ht := hide ht
  clear hR hd he hl hti ht
  go_enter Try.func3, Try.ntmps3
  go_wp2_with (go_at_call 10; refine Stop.out ?_)
  refine Stop.go (head_c _ _ ?_)
  intro w1 hb
  have B1 := hide hb
  clear hb
  cases hf : fewB d es.length ls.length t with
  | false =>
    have Hf := hide hf
    clear hf
    go_wp2_with (go_at_call 11; refine Stop.out ?_)
    refine Stop.go (few_c dp ep lp tp dc ec lc tc _ _ _ d _ _ hn2 hm2 hk2 ht2 (Hd.out.keep (Keeps.of_below B1.out)) ?_)
    rw [Hf.out]
    go_wp2
    exact HR.out _ B1.out
  | true =>
  obtain ⟨l1, l2, l3, l4⟩ := fewB_le hf
  have Hf := hide hf
  clear hf
  go_wp2_with (go_at_call 11; refine Stop.out ?_)
  refine Stop.go (few_c dp ep lp tp dc ec lc tc _ _ _ d _ _ hn2 hm2 hk2 ht2 (Hd.out.keep (Keeps.of_below B1.out)) ?_)
  rw [Hf.out]
  go_wp2_with (go_at_call 12; refine Stop.out ?_)
  refine Stop.go (fit_c dp ep lp dc ec lc d es ls _ _ hn2 hm2 hk2 (Hd.out.keep (Keeps.of_below B1.out)) (He.out.keep (Keeps.of_below B1.out)) (Hl.out.keep (Keeps.of_below B1.out)) ?_ ?_)
  · intro hnone w2 hb
    have Hs := hide (show (fitR d es ls).isSome = false by rw [hnone]; rfl)
    have B2 := hide (bseq B1.out hb)
    clear hb hnone
    go_wp2_with (go_at_call 13; refine Stop.out ?_)
    refine Stop.go (rfit_c dp ep lp dc ec lc d es ls _ _ hn2 l2 hk2 (Hd.out.keep (Keeps.of_below B2.out)) (He.out.keep (Keeps.of_below B2.out)) (Hl.out.keep (Keeps.of_below B2.out)) ?_)
    intro y w3 hb
    rw [Hs.out]
    have B3 := hide (bseq B2.out hb)
    clear hb
    go_wp2_with (go_at_call 14; refine Stop.out ?_)
    refine Stop.go (holds_c dp ep lp tp dc ec lc tc t d es ls ts _ _ hn2 hm2 hk2 ht2 Ht.out hlc (Hd.out.keep (Keeps.of_below B3.out)) (He.out.keep (Keeps.of_below B3.out)) (Hl.out.keep (Keeps.of_below B3.out)) (Hti.out.keep (Keeps.of_below B3.out)) ?_)
    intro w4 hb
    have B4 := hide (bseq B3.out hb)
    clear hb
    go_wp2_with (go_at_call 15; refine Stop.out ?_)
    refine Stop.go (rholds_c dp ep lp tp dc ec lc tc t d es ls ts _ _ hn2 hm2 hk2 ht2 Ht.out (Hd.out.keep (Keeps.of_below B4.out)) (He.out.keep (Keeps.of_below B4.out)) (Hl.out.keep (Keeps.of_below B4.out)) (Hti.out.keep (Keeps.of_below B4.out)) ?_)
    intro w5 hb
    have B5 := hide (bseq B4.out hb)
    clear hb
    have hbb : (holdB d es ls ts == holdB d es ls ts) = true := by simp
    generalize holdB d es ls ts = hv at *
    go_wp2
    exact HR.out _ B5.out
  · intro x hsome q c w2 hb _
    have Hs := hide (show (fitR d es ls).isSome = true by rw [hsome]; rfl)
    have B2 := hide (bseq B1.out hb)
    clear hb hsome
    go_wp2_with (go_at_call 13; refine Stop.out ?_)
    refine Stop.go (rfit_c dp ep lp dc ec lc d es ls _ _ hn2 l2 hk2 (Hd.out.keep (Keeps.of_below B2.out)) (He.out.keep (Keeps.of_below B2.out)) (Hl.out.keep (Keeps.of_below B2.out)) ?_)
    intro y w3 hb
    rw [Hs.out]
    have B3 := hide (bseq B2.out hb)
    clear hb
    go_wp2_with (go_at_call 14; refine Stop.out ?_)
    refine Stop.go (holds_c dp ep lp tp dc ec lc tc t d es ls ts _ _ hn2 hm2 hk2 ht2 Ht.out hlc (Hd.out.keep (Keeps.of_below B3.out)) (He.out.keep (Keeps.of_below B3.out)) (Hl.out.keep (Keeps.of_below B3.out)) (Hti.out.keep (Keeps.of_below B3.out)) ?_)
    intro w4 hb
    have B4 := hide (bseq B3.out hb)
    clear hb
    go_wp2_with (go_at_call 15; refine Stop.out ?_)
    refine Stop.go (rholds_c dp ep lp tp dc ec lc tc t d es ls ts _ _ hn2 hm2 hk2 ht2 Ht.out (Hd.out.keep (Keeps.of_below B4.out)) (He.out.keep (Keeps.of_below B4.out)) (Hl.out.keep (Keeps.of_below B4.out)) (Hti.out.keep (Keeps.of_below B4.out)) ?_)
    intro w5 hb
    have B5 := hide (bseq B4.out hb)
    clear hb
    have hbb : (holdB d es ls ts == holdB d es ls ts) = true := by simp
    generalize holdB d es ls ts = hv at *
    go_wp2
    exact HR.out _ B5.out

set_option maxRecDepth 100000 in
theorem matches_holds_lifted (os : Os) (started : os.Started) (H : Type) (enc : TypeId × Value → H) :
    ReturnsInHanded {} Try.checked os 3 .any (Rows.orderMatchesReferenceSpec.pre6 enc Try.prog Try.f3 Rows.orderMatchesReferenceRow.domain false) (Rows.orderMatchesReferenceSpec.post enc Try.prog Try.f3 false true false false) := by
  refine returnsInHanded_of_change (C := Try.checked) Try.own started (by kernel_rfl) Try.func3
    (ChangeSpec.witness6 (enc := enc) (C := Try.checked) false ⟨#[], #[.slice none 0 0, .slice none 0 0, .slice none 0 0, .slice none 0 0], []⟩ 8 (by kernel_rfl) (by kernel_rfl) (by kernel_rfl) (by kernel_rfl)) ?_
  intro W base args ds gs before hval0 hW hcnd _
  have hval : ∀ (j : Nat) t v, Try.f3.params[j]? = some t → args[j]? = some v → Value.okWide Try.prog W .any base t v := hval0
  have hW' := hW
  obtain ⟨p, q, hA0, hV, rfl, hfz, hnd⟩ := hW
  have hA : DataW.TrodAll enc Try.prog W 0 (fun _ => true) true Try.f3.params.toList args.toList ds p := hA0
  have hA1 := hA
  rw [Try.params3] at hA hval
  obtain ⟨v0, vs0, d0, ds0, p0, q0, hargs, rfl, rfl, h0, r0⟩ := trodAll_cons hA
  obtain ⟨v1, vs1, d1, ds1, p1, q1, rfl, rfl, rfl, h1, r1⟩ := trodAll_cons r0
  obtain ⟨v2, vs2, d2, ds2, p2, q2, rfl, rfl, rfl, h2, r2⟩ := trodAll_cons r1
  obtain ⟨v3, vs3, d3, ds3, p3, q3, rfl, rfl, rfl, h3, r3⟩ := trodAll_cons r2
  obtain ⟨rfl, rfl, rfl⟩ := trodAll_nil r3
  obtain rfl : args = #[v0, v1, v2, v3] := by cases args; simp_all
  obtain ⟨rfl, rfl⟩ := trodVars_none hV
  obtain ⟨a0, n0, c0, l0, rfl, hl0, hm0, hi0, hz0, hw0⟩ := open_rows (hval 0 22 v0 rfl rfl) h0
  obtain ⟨a1, n1, c1, l1, rfl, hl1, hm1, hi1, hz1, hw1⟩ := open_evs (hval 1 23 v1 rfl rfl) h1
  obtain ⟨a2, n2, c2, l2, rfl, hl2, hm2, hi2, hz2, hw2⟩ := open_lgs (hval 2 24 v2 rfl rfl) h2
  obtain ⟨a3, n3, c3, l3, rfl, hl3, hm3, hi3, hz3, hw3⟩ := open_tms (hval 3 25 v3 rfl rfl) h3
  refine orderMatches_c a0 n0 c0 l0 a1 n1 c1 l1 a2 n2 c2 l2 a3 n3 c3 l3 W _ hl0 hm0 hi0 hz0 hw0 hl1 hm1 hi1 hz1 hw1 hl2 hm2 hi2 hz2 hw2 hl3 hm3 hi3 hz3 hw3 fun W' bel => ?_
  exact ⟨_, rfl, law_post Try.laidOut bel rfl hW' hA1 (by kernel_rfl) rfl Try.underlying4 rfl rfl rfl⟩

theorem matches_holds : Rows.OrderMatchesReferenceSaid :=
  OpenClaim.holds_of_wide 3 Try.f3 rfl rfl rfl rfl rfl rfl rfl ⟨rfl, rfl, rfl, rfl, rfl⟩ rfl rfl rfl rfl rfl (by kernel_rfl) Try.func3 (by kernel_rfl)
    (of_decide_eq_true (by kernel_rfl)) (by unfold Func.isWrapper; rw [if_neg (of_decide_eq_false (by kernel_rfl))]; exact ⟨rfl, rfl⟩)
    (fun os started H enc _ => matches_holds_lifted os started H enc)

end Go.Proofs.Ytaopfoicdjejnaa
