/- The reference's well-formed distances. The reference's well-formed distances, events and legs. -/
import Derived.Test.YtaopfoicdjejnaaC11
import Derived.Test.YtaopfoicdjejnaaC12
set_option linter.unusedVariables false
set_option linter.unusedSimpArgs false
namespace Go.Proofs.Ytaopfoicdjejnaa
open Go.RowKit

set_option maxRecDepth 100000 in
set_option maxHeartbeats 1000000 in
theorem rdist_c (p : Option Addr) (c : Nat) (d : List (List Int)) (w : World) (R) (hl : d.length ≤ maxLen) (h : RowsAt w p d) (hR : ∀ w', Dr w w' → R (.returned (.bool (distB d))) w') : Calls Try.prog 22 #[.slice p d.length c] w R := by
  unfold maxLen at hl
  by_cases h12 : d.length ≤ 12
  rotate_left
  · have hf := distB_false (d := d) (fun hd => h12 hd.few)
    rw [hf] at hR
    have HR := hide (hR _ (Dr.refl w))
    have h12' : (12 : Int) < (d.length : Int) := by omega
    clear hR hf h12
    go_enter Try.func22, Try.ntmps22
    go_wp2
    exact HR.out
  have h12' : ¬ (12 : Int) < (d.length : Int) := by omega
  have HF : Hid (¬ DistP d → ∀ w', Dr w w' → R (.returned (.bool false)) w') := hide (fun hn => by have := hR; rw [distB_false hn] at this; exact this)
  have HT : Hid (DistP d → ∀ w', Dr w w' → R (.returned (.bool true)) w') := hide (fun hn => by have := hR; rw [distB_true.2 hn] at this; exact this)
  have H := hide h
  clear hR h
  go_enter Try.func22, Try.ntmps22
  go_wp2
  go_loop [4] (fun si => ∃ i : Nat, i ≤ d.length ∧ si = .int .i64 i ∧ Hid (rowsOk d i)) (fun si => d.length - (intOf si).toNat)
  case atStart => exact ⟨0, Nat.zero_le _, rfl, hide (fun j r hj => absurd hj (by omega))⟩
  case round =>
    obtain ⟨i, hi, rfl, HI⟩ := hrel
    by_cases hlt : i < d.length
    · obtain ⟨b, o, r, q, rc, rfl, hr, cr, hin, hrl⟩ := H.out.at_ hlt
      unfold maxLen at hrl
      have Hr := hide hr
      clear hr
      by_cases hlen : r.length = d.length
      rotate_left
      · have hq1 : ((r.length : Int) != (d.length : Int)) = true := by simp; omega
        have HF1 := hide (HF.out (fun hd => hlen (hd.row r (List.mem_of_getElem? Hr.out)).1))
        clear hlen
        go_wp2
        exact HF1.out _ (Dr.refl _)
      have hq1 : ((r.length : Int) != (d.length : Int)) = false := by simp; omega
      obtain ⟨qb, qo, x, rfl, hx, cx⟩ := hin.at_ (i := i) (by omega)
      have hd0 := dst_at Hr.out hx
      have hir : i < r.length := by omega
      by_cases hx0 : x = 0
      rotate_left
      · have hq2 : (x != (0 : Int)) = true := by simpa using hx0
        have HF1 := hide (HF.out (fun hd => hx0 (by rw [← hd0]; exact hd.zero i hlt)))
        clear hlen hx0 hd0 hx
        go_wp2
        exact HF1.out _ (Dr.refl _)
      have hq2 : (x != (0 : Int)) = false := by simpa using hx0
      have Hd0 := hide (show dst d i i = 0 by rw [hd0]; exact hx0)
      have Hlen := hide hlen
      have Hin := hide hin
      clear hx0 hd0 hx hin
      go_wp2
      go_loop [5] (fun sk => ∃ k : Nat, k ≤ d.length ∧ sk = .int .i64 k ∧ Hid (∀ y ∈ r.take k, -1 ≤ y ∧ y ≤ 1000000)) (fun sk => d.length - (intOf sk).toNat)
      case atStart => exact ⟨0, Nat.zero_le _, rfl, hide (by simp)⟩
      case round =>
        obtain ⟨k, hk, rfl, HK⟩ := hrel
        by_cases hlk : k < d.length
        · obtain ⟨_, _, y, hp, hy, cy⟩ := Hin.out.at_ (i := k) (by omega)
          injection hp with hp; injection hp with e1 e2
          subst e1; subst e2
          have Hy := hide hy
          have hkr : k < r.length := by omega
          clear hy
          by_cases hy1 : y < -1
          · have HF1 := hide (HF.out (fun hd => by have := ((hd.row r (List.mem_of_getElem? Hr.out)).2 y (List.mem_of_getElem? Hy.out)).1; omega))
            go_wp2
            exact HF1.out _ (Dr.refl _)
          by_cases hy2 : (1000000 : Int) < y
          · have HF1 := hide (HF.out (fun hd => by have := ((hd.row r (List.mem_of_getElem? Hr.out)).2 y (List.mem_of_getElem? Hy.out)).2; omega))
            go_wp2
            exact HF1.out _ (Dr.refl _)
          have HK2 := hide (show ∀ z ∈ r.take (k + 1), -1 ≤ z ∧ z ≤ 1000000 by
            intro z hz
            rw [List.take_add_one, Hy.out] at hz
            rcases List.mem_append.1 hz with h | h
            · exact HK.out z h
            · simp at h; rw [h]; omega)
          go_wp2
          go_round
          case rel => exact ⟨k + 1, by omega, by go_num, HK2⟩
          case measure => simp [intOf]; omega
        · obtain rfl : k = d.length := by omega
          have HI2 := hide (show rowsOk d (i + 1) from fun j r' hj hr' => by
            rcases Nat.lt_or_ge j i with h' | h'
            · exact HI.out j r' h' hr'
            · obtain rfl : j = i := by omega
              rw [Hr.out] at hr'; injection hr' with hr'; subst hr'
              have := HK.out; rw [← Hlen.out, List.take_length] at this
              exact ⟨Hlen.out, this, Hd0.out⟩)
          go_wp2
          go_round
          case rel => exact ⟨i + 1, by omega, by go_num, HI2⟩
          case measure => simp [intOf]; omega
    · obtain rfl : i = d.length := by omega
      go_wp2
      go_loopw [6] (fun si wr => ∃ i nd : Nat, i ≤ d.length ∧ si = .int .i64 i ∧ Hid (∀ i' k j, i' < i → k < d.length → j < d.length → triOk d i' k j) ∧ wr = w.drewN nd) (fun si _ => d.length - (intOf si).toNat)
      case atStart => exact ⟨0, 0, Nat.zero_le _, rfl, hide (fun i' k j h => absurd h (by omega)), rfl⟩
      case round =>
        obtain ⟨i, n1, hi2, rfl, HT3, rfl⟩ := hrel
        by_cases hlt2 : i < d.length
        · obtain ⟨b, o, r, q, rc, rfl, hr, cr, hin, hrl⟩ := H.out.at_ hlt2
          have hrow := HI.out i r hlt2 hr
          have hlen := hrow.1
          have hrng := hide hrow.2.1
          have Hz := hide hrow.2.2
          have Hr := hide hr; have Hin := hide hin
          clear hr hin hrow hrl
          go_wp2
          go_loopw [7] (fun sj wr => ∃ j nd : Nat, j ≤ d.length ∧ sj = .int .i64 j ∧ Hid (∀ k j', k < d.length → j' < j → triOk d i k j') ∧ wr = w.drewN nd) (fun sj _ => d.length - (intOf sj).toNat)
          case atStart => exact ⟨0, n1, Nat.zero_le _, rfl, hide (fun k j' _ h => absurd h (by omega)), rfl⟩
          case round =>
            obtain ⟨j, n2, hj, rfl, HT4, rfl⟩ := hrel
            by_cases hlj : j < d.length
            · obtain ⟨qb, qo, t, hq, ht, ct⟩ := Hin.out.at_ (i := j) (by omega)
              subst hq
              have Htd := hide (dst_at Hr.out ht)
              have htr := hrng.out t (List.mem_of_getElem? ht)
              have hjr : j < r.length := by omega
              clear ht
              go_wp2
              go_loopw [8] (fun sk wr => ∃ k nd : Nat, k ≤ d.length ∧ sk = .int .i64 k ∧ Hid (∀ k', k' < k → triOk d i k' j) ∧ wr = w.drewN nd) (fun sk _ => d.length - (intOf sk).toNat)
              case atStart => exact ⟨0, n2, Nat.zero_le _, rfl, hide (fun j' h => absurd h (by omega)), rfl⟩
              case round =>
                obtain ⟨k, n3, hk, rfl, HT6, rfl⟩ := hrel
                by_cases hlk : k < d.length
                · obtain ⟨_, _, f, hq4, hf, cf⟩ := Hin.out.at_ (i := k) (by omega)
                  injection hq4 with hq4; injection hq4 with e1 e2
                  subst e1; subst e2
                  obtain ⟨b2, o2, r2, q2, rc2, hp2, hr2, cr2, hin2, hrl2'⟩ := H.out.at_ hlk
                  injection hp2 with hp2; injection hp2 with e1 e2
                  subst e1; subst e2
                  have hrow2 := HI.out k r2 hlk hr2
                  have hlen2 := hrow2.1
                  obtain ⟨sb, so, s, hq3, hs, cs⟩ := hin2.at_ (i := j) (by omega)
                  subst hq3
                  have hfd := dst_at Hr.out hf
                  have hsd := dst_at hr2 hs
                  have hfr := hrng.out f (List.mem_of_getElem? hf)
                  have hsr := hrow2.2.1 s (List.mem_of_getElem? hs)
                  have hkr : k < r.length := by omega
                  have hjr2 : j < r2.length := by omega
                  have Hbad := hide (fun (h : ¬ triOk d i k j) => HF.out (fun hd => h (hd.tri i k j hlt2 hlk hlj)))
                  have Hnext := hide (fun (h : triOk d i k j) => (show ∀ k', k' < k + 1 → triOk d i k' j from fun k' h1 => by
                    rcases Nat.lt_or_ge k' k with h' | h'
                    · exact HT6.out k' h'
                    · obtain rfl : k' = k := by omega
                      exact h))
                  have Htri := hide (show triOk d i k j ↔ (f ≠ -1 → s ≠ -1 → t ≠ -1 ∧ t ≤ f + s) by
                    have htd := Htd.out
                    unfold triOk; rw [hfd, hsd, htd]
                    refine ⟨fun h h1 h2 => ?_, fun h h1 _ h2 => h h1 h2⟩
                    by_cases hik : i = k
                    · subst hik
                      have h0 := Hz.out
                      rw [hfd] at h0; rw [hsd] at htd
                      subst h0; subst htd
                      exact ⟨h2, by omega⟩
                    · exact h h1 hik h2)
                  clear hs hf hsd hfd hr2 hin2 hrow2 hrl2'
                  have hw : IntKind.i64.wrap (f + s) = f + s := IntWalk.i64_in _ (by omega)
                  by_cases hf1 : f < 0
                  · have hf2 : decide (0 ≤ f) = false := by simp; omega
                    have HT7 := hide (Hnext.out (Htri.out.2 (fun h => absurd (show f = -1 by omega) h)))
                    go_wp2
                    go_quiet (fail)
                    go_wp2
                    go_roundw
                    case rel => exact ⟨k + 1, _, by omega, by go_num, HT7, by first | rfl | exact World.drewN_drewN ..⟩
                    case measure => simp [intOf]; omega
                  have hf2 : decide (0 ≤ f) = true := by simp; omega
                  by_cases hs1 : s < 0
                  · have hs2 : decide (0 ≤ s) = false := by simp; omega
                    have HT7 := hide (Hnext.out (Htri.out.2 (fun _ h => absurd (show s = -1 by omega) h)))
                    go_wp2
                    go_quiet (fail)
                    go_wp2
                    go_roundw
                    case rel => exact ⟨k + 1, _, by omega, by go_num, HT7, by first | rfl | exact World.drewN_drewN ..⟩
                    case measure => simp [intOf]; omega
                  have hs2 : decide (0 ≤ s) = true := by simp; omega
                  by_cases ht1 : t < 0
                  · have HF1 := hide (Hbad.out (fun h => (Htri.out.1 h (by omega) (by omega)).1 (by omega)))
                    have ht2 : decide (t < 0) = true := by simp; omega
                    go_wp2
                    go_quiet (fail)
                    go_wp2
                    exact HF1.out _ (by first | exact Dr.one _ _ | exact Dr.two _ _ _)
                  have ht2 : decide (t < 0) = false := by simp; omega
                  by_cases hgt : f + s < t
                  · have HF1 := hide (Hbad.out (fun h => by have := (Htri.out.1 h (by omega) (by omega)).2; omega))
                    have hg2 : decide (f + s < t) = true := by simp; omega
                    go_wp2
                    go_quiet (fail)
                    go_wp2
                    exact HF1.out _ (by first | exact Dr.one _ _ | exact Dr.two _ _ _)
                  have hg2 : decide (f + s < t) = false := by simp; omega
                  have HT7 := hide (Hnext.out (Htri.out.2 (fun _ _ => ⟨by omega, by omega⟩)))
                  go_wp2
                  go_quiet (fail)
                  go_wp2
                  go_roundw
                  case rel => exact ⟨k + 1, _, by omega, by go_num, HT7, by first | rfl | exact World.drewN_drewN ..⟩
                  case measure => simp [intOf]; omega
                · obtain rfl : k = d.length := by omega
                  have HT5 := hide (show ∀ k' j', k' < d.length → j' < j + 1 → triOk d i k' j' from fun k' j' h1 h2 => by
                    rcases Nat.lt_or_ge j' j with h' | h'
                    · exact HT4.out k' j' h1 h'
                    · obtain rfl : j' = j := by omega
                      exact HT6.out k' h1)
                  go_wp2
                  go_roundw
                  case rel => exact ⟨j + 1, _, by omega, by go_num, HT5, by first | rfl | exact World.drewN_drewN ..⟩
                  case measure => simp [intOf]; omega
            · obtain rfl : j = d.length := by omega
              have HT5 := hide (show ∀ i' k j, i' < i + 1 → k < d.length → j < d.length → triOk d i' k j from fun i' k' j h1 h2 h3 => by
                rcases Nat.lt_or_ge i' i with h' | h'
                · exact HT3.out i' k' j h' h2 h3
                · obtain rfl : i' = i := by omega
                  exact HT4.out k' j h2 h3)
              go_wp2
              go_roundw
              case rel => exact ⟨i + 1, _, by omega, by go_num, HT5, by first | rfl | exact World.drewN_drewN ..⟩
              case measure => simp [intOf]; omega
        · obtain rfl : i = d.length := by omega
          have HD := hide (HT.out (distP_of h12 HI.out HT3.out))
          go_wp2
          exact HD.out _ (by first | exact Dr.one _ _ | exact Dr.two _ _ _)
end Go.Proofs.Ytaopfoicdjejnaa

namespace Go.Proofs.Ytaopfoicdjejnaa
open Go.RowKit

/-- While the reference looks at the legs. -/
structure VP (w : World) (ib n : Nat) (xs : List Bool) (wr : World) : Prop where
  below : Below w.heap.size w wr
  own : wr.ownsRow w.heap.size 4 1 (.slice (some ⟨ib, 0, none⟩) n n) n (xs.map Value.bool)
section
variable {w : World} {ib n : Nat} {xs : List Bool} {wr w' : World}
theorem VP.next (h : VP w ib n xs wr) (hb : Below wr.heap.size wr w') : VP w ib n xs w' := ⟨bseq h.below hb, own_below h.own hb⟩
theorem VP.put (h : VP w ib n xs wr) (i : Nat) (b : Bool) : VP w ib n (xs.set i b) (wr.setCell ⟨ib, i, none⟩ (.bool b)) :=
  ⟨h.below.setCell (p := ⟨ib, i, none⟩) (h.own.lt ib rfl).1 _, by rw [List.map_set]; exact (h.own.stored i (.bool b)).1⟩
theorem VP.cell (h : VP w ib n xs wr) {i : Nat} {b : Bool} (hi : xs[i]? = some b) : wr.cell? ⟨ib, i, none⟩ = some (.bool b) := by
  have hl : xs.length = n := by have := h.own.1; simpa using this
  have := (List.getElem?_eq_some_iff.1 hi).1
  rw [h.own.cellAt i (by omega), List.getElem?_map, hi]; rfl
end

set_option maxRecDepth 100000 in
set_option maxHeartbeats 4000000 in
theorem rvalid_c (dp ep lp : Option Addr) (dc ec lc : Nat) (d : List (List Int)) (es : List Evt) (ls : List Lgr) (w : World) (R) (hdl : d.length ≤ maxLen) (hel : es.length ≤ maxLen) (hll : ls.length ≤ maxLen) (hd : RowsAt w dp d) (he : EvsAt w ep es) (hl : LgsAt w lp ls)
    (hR : ∀ w', Below w.heap.size w w' → R (.returned (.bool (wellB d es ls))) w') :
    Calls Try.prog 19 #[.slice dp d.length dc, .slice ep es.length ec, .slice lp ls.length lc] w R := by
  have hdl' := hdl
  unfold maxLen at hdl hel hll
  have HF : Hid (¬ WellP d es ls → ∀ w', Below w.heap.size w w' → R (.returned (.bool false)) w') := hide (fun hn w' hb => by have := hR w' hb; rw [wellB_false hn] at this; exact this)
  have HT : Hid (WellP d es ls → ∀ w', Below w.heap.size w w' → R (.returned (.bool true)) w') := hide (fun hn w' hb => by have := hR w' hb; rw [wellB_true.2 hn] at this; exact this)
  have He := hide he; have Hl := hide hl; have Hd := hide hd
  clear hR hd he hl
  cases hdb : distB d with
  | false =>
    have HF1 := hide (HF.out (fun h => by rw [distB_true.2 h.dist] at hdb; cases hdb))
    have Hdb := hide hdb
    clear hdb
    go_enter Try.func19, Try.ntmps19
    go_wp2_with (go_at_call 22; refine Stop.out ?_)
    refine Stop.go (rdist_c dp dc d _ _ hdl' Hd.out ?_)
    intro w1 hb1
    rw [Hdb.out]
    have B1 := hide (hb1.below (B := w.heap.size))
    clear hb1
    go_wp2
    exact HF1.out _ B1.out
  | true =>
    have Hdist := hide (distB_true.1 hdb)
    have Hdb := hide hdb
    have hd12 := Hdist.out.few
    clear hdb
    by_cases hn16 : es.length ≤ 16
    rotate_left
    · have HF1 := hide (HF.out (fun h => hn16 h.few))
      have hn : (16 : Int) < (es.length : Int) := by omega
      go_enter Try.func19, Try.ntmps19
      go_wp2_with (go_at_call 22; refine Stop.out ?_)
      refine Stop.go (rdist_c dp dc d _ _ hdl' Hd.out ?_)
      intro w1 hb1
      rw [Hdb.out]
      have B1 := hide (hb1.below (B := w.heap.size))
      clear hb1
      go_wp2
      exact HF1.out _ B1.out
    have hn : ¬ (16 : Int) < (es.length : Int) := by omega
    have hnd : decide ((16 : Int) < (es.length : Int)) = false := by simpa using hn
    go_enter Try.func19, Try.ntmps19
    go_wp2_with (go_at_call 22; refine Stop.out ?_)
    refine Stop.go (rdist_c dp dc d _ _ hdl' Hd.out ?_)
    intro w1 hb1
    rw [Hdb.out]
    have B1 := hide (hb1.below (B := w.heap.size))
    clear hb1
    obtain ⟨w2, hm, how, hb2⟩ := mk75 w1 es.length (by omega)
    have HU := hide (show VP w w1.heap.size es.length (List.replicate es.length false) w2 from ⟨bseq B1.out hb2, own_mono how B1.out.size⟩)
    obtain ⟨ib, hibe⟩ : ∃ ib, w1.heap.size = ib := ⟨_, rfl⟩
    clear how hb2
    go_wp2
    clear hm
    rw [hibe] at HU
    clear hibe
    go_loop [8] (fun si => ∃ i : Nat, i ≤ es.length ∧ si = .int .i64 i ∧ Hid (∀ e ∈ es.take i, 0 ≤ e.office ∧ e.office < d.length)) (fun si => es.length - (intOf si).toNat)
    case atStart => exact ⟨0, Nat.zero_le _, rfl, hide (by simp)⟩
    case round =>
      obtain ⟨i, hi, rfl, HE⟩ := hrel
      by_cases hlt : i < es.length
      · obtain ⟨b, o, e, rfl, hev, e0, e1, e2, e3⟩ := (He.out.keep (Keeps.of_below HU.out.below)).ev hlt
        have Hev := hide hev
        clear hev
        by_cases ho : e.office < 0
        · have HF1 := hide (HF.out (fun h => by have := (h.office e (List.mem_of_getElem? Hev.out)).1; omega))
          go_wp2
          exact HF1.out _ HU.out.below
        by_cases ho2 : (d.length : Int) ≤ e.office
        · have HF1 := hide (HF.out (fun h => by have := (h.office e (List.mem_of_getElem? Hev.out)).2; omega))
          go_wp2
          exact HF1.out _ HU.out.below
        have HE2 := hide (show ∀ e' ∈ es.take (i + 1), 0 ≤ e'.office ∧ e'.office < d.length by
          intro e' he'
          rw [List.take_add_one, Hev.out] at he'
          rcases List.mem_append.1 he' with h | h
          · exact HE.out e' h
          · simp at h; rw [h]; omega)
        go_wp2
        go_round
        case rel => exact ⟨i + 1, by omega, by go_num, HE2⟩
        case measure => simp [intOf]; omega
      · obtain rfl : i = es.length := by omega
        have HO := hide (show ∀ e ∈ es, 0 ≤ e.office ∧ e.office < d.length by have := HE.out; rwa [List.take_length] at this)
        go_wp2
        go_loopw [9] (fun sk wr => ∃ (k : Nat) (xs : List Bool), k ≤ ls.length ∧ sk = .int .i64 k ∧ Hid (VP w ib es.length xs wr) ∧ Hid (xs.length = es.length ∧ (∀ (i : Nat) (b : Bool), xs[i]? = some b → b = inL (ls.take k) i) ∧ (∀ g ∈ ls.take k, legIn es.length g) ∧ (fl (ls.take k)).Nodup)) (fun sk _ => ls.length - (intOf sk).toNat)
        case atStart => exact ⟨0, _, Nat.zero_le _, rfl, HU, hide ⟨by simp, fun i b hb => by
          have := List.mem_of_getElem? hb
          rw [List.mem_replicate] at this
          rw [this.2]; rfl, fun g hg => by simp at hg, by simp [fl]⟩⟩
        case round =>
          clear HU
          obtain ⟨k, xs, hk, rfl, HU, HX⟩ := hrel
          by_cases hltk : k < ls.length
          · obtain ⟨lb, lo, g, rfl, hg, l0, l1, l2⟩ := (Hl.out.keep (Keeps.of_below HU.out.below)).lg hltk
            have Hg := hide hg
            have HU1 := hide (HU.out.next (balloc (Below.refl _ _) (.cells #[.int .i64 g.src, .int .i64 g.dst, .int .i64 g.gap] 39)))
            have hbl := (HU.out.own.lt ib rfl).2
            clear hg
            have HLg := hide (fun (h : WellP d es ls) => h.leg g (List.mem_of_getElem? Hg.out))
            have HOn := hide (fun (h : WellP d es ls) => fl_once Hg.out h.once)
            rcases g with ⟨gs, gd, gg⟩
            simp only at l0 l1 l2 HLg HOn HU1
            by_cases s1 : gs < 0
            · have HF1 := hide (HF.out (fun h => by have := HLg.out h; omega))
              go_wp2
              exact HF1.out _ HU1.out.below
            by_cases s2 : (es.length : Int) ≤ gs
            · have HF1 := hide (HF.out (fun h => by have := HLg.out h; omega))
              go_wp2
              exact HF1.out _ HU1.out.below
            by_cases s3 : gd < 0
            · have HF1 := hide (HF.out (fun h => by have := HLg.out h; omega))
              go_wp2
              exact HF1.out _ HU1.out.below
            by_cases s4 : (es.length : Int) ≤ gd
            · have HF1 := hide (HF.out (fun h => by have := HLg.out h; omega))
              go_wp2
              exact HF1.out _ HU1.out.below
            obtain ⟨a, rfl⟩ : ∃ a : Nat, gs = a := ⟨gs.toNat, by omega⟩
            obtain ⟨b, rfl⟩ : ∃ b : Nat, gd = b := ⟨gd.toNat, by omega⟩
            have ha : a < es.length := by omega
            have hb : b < es.length := by omega
            clear s1 s2 s3 s4
            obtain ⟨ba, hba⟩ : ∃ ba, xs[a]? = some ba := ⟨_, List.getElem?_eq_getElem (by rw [HX.out.1]; exact ha)⟩
            obtain ⟨bb, hbb⟩ : ∃ bb, xs[b]? = some bb := ⟨_, List.getElem?_eq_getElem (by rw [HX.out.1]; exact hb)⟩
            have Hba := hide (HX.out.2.1 _ _ hba)
            have Hbb := hide (HX.out.2.1 _ _ hbb)
            have ca := HU.out.cell hba
            have cb := HU.out.cell hbb
            have fa := HU.out.own.frozenAt a
            have fb := HU.out.own.frozenAt b
            clear hba hbb
            by_cases s5 : a = b
            · have HF1 := hide (HF.out (fun h => (HOn.out h).2.2 (by show (a : Int) = (b : Int); omega)))
              have s6 : ((a : Int) == (b : Int)) = true := by simp; omega
              clear s5
              go_wp2
              exact HF1.out _ HU1.out.below
            have s6 : ((a : Int) == (b : Int)) = false := by simp; omega
            cases ba with
            | true =>
              have HF1 := hide (HF.out (fun h => (HOn.out h).1 (inL_mem.1 Hba.out.symm)))
              go_wp2
              exact HF1.out _ HU1.out.below
            | false =>
            cases bb with
            | true =>
              have HF1 := hide (HF.out (fun h => (HOn.out h).2.1 (inL_mem.1 Hbb.out.symm)))
              go_wp2
              exact HF1.out _ HU1.out.below
            | false =>
            by_cases s7 : gg < 0
            · have HF1 := hide (HF.out (fun h => by have := HLg.out h; omega))
              go_wp2
              exact HF1.out _ HU1.out.below
            by_cases s8 : (1000000 : Int) < gg
            · have HF1 := hide (HF.out (fun h => by have := HLg.out h; omega))
              go_wp2
              exact HF1.out _ HU1.out.below
            have HX3 := hide (show ((xs.set a true).set b true).length = es.length ∧ (∀ (i : Nat) (bb : Bool), ((xs.set a true).set b true)[i]? = some bb → bb = inL (ls.take (k + 1)) i) ∧ (∀ g ∈ ls.take (k + 1), legIn es.length g) ∧ (fl (ls.take (k + 1))).Nodup by
              refine ⟨by simp [HX.out.1], fun i bb hbb => ?_, fun g' hg' => ?_, ?_⟩
              · rw [inL_succ Hg.out]
                rw [List.getElem?_set] at hbb
                split at hbb
                · rename_i e; subst e
                  simp at hbb
                  obtain ⟨_, rfl⟩ := hbb
                  simp
                · rename_i e
                  rw [List.getElem?_set] at hbb
                  split at hbb
                  · rename_i e2; subst e2
                    simp at hbb
                    obtain ⟨_, rfl⟩ := hbb
                    simp
                  · rename_i e2
                    rw [HX.out.2.1 i bb hbb]
                    have q1 : ((a : Int) == (i : Int)) = false := by simp; omega
                    have q2 : ((b : Int) == (i : Int)) = false := by simp; omega
                    rw [q1, q2]; simp
              · rw [List.take_add_one, Hg.out] at hg'
                rcases List.mem_append.1 hg' with h | h
                · exact HX.out.2.2.1 g' h
                · simp at h; rw [h]; exact ⟨by show (0 : Int) ≤ (a : Int); omega, by show (a : Int) < _; omega, by show (0 : Int) ≤ (b : Int); omega, by show (b : Int) < _; omega, by show (0 : Int) ≤ gg; omega, by show gg ≤ _; omega⟩
              · rw [fl_succ Hg.out, List.nodup_append]
                refine ⟨HX.out.2.2.2, by simp; omega, fun x hx y hy e => ?_⟩
                subst e
                simp at hy
                rcases hy with rfl | rfl
                · have := inL_mem.2 hx; rw [← Hba.out] at this; cases this
                · have := inL_mem.2 hx; rw [← Hbb.out] at this; cases this)
            have HU3 := hide (((HU.out.put a true).put b true).next (balloc (Below.refl _ _) (.cells #[.int .i64 (a : Int), .int .i64 (b : Int), .int .i64 gg] 39)))
            have hne : ¬ wr.heap.size = ib := by omega
            have hne2 : ¬ ib = wr.heap.size := by omega
            go_wp2
            go_roundw
            case rel => exact ⟨k + 1, _, by omega, by go_num, HU3, HX3⟩
            case measure => simp [intOf]; omega
          · obtain rfl : k = ls.length := by omega
            have HD := hide (HT.out ⟨Hdist.out, hn16, HO.out, by have := HX.out.2.2.1; rw [List.take_length] at this; exact this, by have := HX.out.2.2.2; rw [List.take_length] at this; exact this⟩)
            go_wp2
            exact HD.out _ HU.out.below
end Go.Proofs.Ytaopfoicdjejnaa
