/- Well-formed distances. -/
import Derived.Test.YtaopfoicdjejnaaC1
set_option linter.unusedVariables false
set_option linter.unusedSimpArgs false
namespace Go.Proofs.Ytaopfoicdjejnaa
open Go.RowKit

/-- The rows looked at so far are of the right length, with numbers in range, and 0 at themselves. -/
def rowsOk (d : List (List Int)) (i : Nat) : Prop := ∀ (j : Nat) (r : List Int), j < i → d[j]? = some r → r.length = d.length ∧ (∀ x ∈ r, -1 ≤ x ∧ x ≤ 1000000) ∧ dst d j j = 0
def triOk (d : List (List Int)) (i k j : Nat) : Prop := dst d i k ≠ -1 → i ≠ k → dst d k j ≠ -1 → dst d i j ≠ -1 ∧ dst d i j ≤ dst d i k + dst d k j
theorem distP_of {d : List (List Int)} (h12 : d.length ≤ 12) (h : rowsOk d d.length) (ht : ∀ i k j, i < d.length → k < d.length → j < d.length → triOk d i k j) : DistP d := by
  refine ⟨h12, fun r hr => ?_, fun i hi => ?_, fun i k j h1 h2 h3 h4 h5 h6 => ht i k j h1 h2 h3 h4 h5 h6⟩
  · obtain ⟨i, hi⟩ := List.getElem?_of_mem hr
    have := h i r (List.getElem?_eq_some_iff.1 hi).1 hi
    exact ⟨this.1, this.2.1⟩
  · exact (h i d[i] hi (List.getElem?_eq_getElem hi)).2.2

set_option maxRecDepth 100000 in
set_option maxHeartbeats 8000000 in
theorem dist_c (p : Option Addr) (c : Nat) (d : List (List Int)) (w : World) (R) (hl : d.length ≤ maxLen) (h : RowsAt w p d) (hR : R (.returned (.bool (distB d))) w) : Calls Try.prog 37 #[.slice p d.length c] w R := by
  unfold maxLen at hl
  by_cases h12 : d.length ≤ 12
  rotate_left
  · have hf := distB_false (d := d) (fun hd => h12 hd.few)
    rw [hf] at hR
    have HR := hide hR
    have h12' : (12 : Int) < (d.length : Int) := by omega
    clear hR hf h12
    go_enter Try.func37, Try.ntmps37
    go_wp2
    exact HR.out
  have h12' : ¬ (12 : Int) < (d.length : Int) := by omega
  have HF : Hid (¬ DistP d → R (.returned (.bool false)) w) := hide (fun hn => by have := hR; rw [distB_false hn] at this; exact this)
  have HT : Hid (DistP d → R (.returned (.bool true)) w) := hide (fun hn => by have := hR; rw [distB_true.2 hn] at this; exact this)
  have H := hide h
  clear hR h
  go_enter Try.func37, Try.ntmps37
  go_wp2
  go_loop [18] (fun si => ∃ i : Nat, i ≤ d.length ∧ si = .int .i64 i ∧ Hid (rowsOk d i)) (fun si => d.length - (intOf si).toNat)
  case atStart => exact ⟨0, Nat.zero_le _, rfl, hide (fun j r hj => absurd hj (by omega))⟩
  case round =>
    obtain ⟨i, hi, rfl, HI⟩ := hrel
    by_cases hlt : i < d.length
    · obtain ⟨b, o, r, q, rc, rfl, hr, cr, hin, hrl⟩ := H.out.at_ hlt
      unfold maxLen at hrl
      have Hr := hide hr
      clear hr
      by_cases hlen : r.length = d.length
      rotate_left
      · have hq1 : ((r.length : Int) != (d.length : Int)) = true := by simp; omega
        have HF1 := hide (HF.out (fun hd => hlen (hd.row r (List.mem_of_getElem? Hr.out)).1))
        clear hlen
        go_wp2
        exact HF1.out
      have hq1 : ((r.length : Int) != (d.length : Int)) = false := by simp; omega
      obtain ⟨qb, qo, x, rfl, hx, cx⟩ := hin.at_ (i := i) (by omega)
      have hd0 := dst_at Hr.out hx
      have hir : i < r.length := by omega
      by_cases hx0 : x = 0
      rotate_left
      · have hq2 : (x != (0 : Int)) = true := by simpa using hx0
        have HF1 := hide (HF.out (fun hd => hx0 (by rw [← hd0]; exact hd.zero i hlt)))
        clear hlen hx0 hd0 hx
        go_wp2
        exact HF1.out
      have hq2 : (x != (0 : Int)) = false := by simpa using hx0
      have Hd0 := hide (show dst d i i = 0 by rw [hd0]; exact hx0)
      have Hlen := hide hlen
      have Hin := hide hin
      clear hlen hx0 hd0 hx hin
      go_wp2
      go_loop [37] (fun sk => ∃ k : Nat, k ≤ r.length ∧ sk = .int .i64 k ∧ Hid (∀ y ∈ r.take k, -1 ≤ y ∧ y ≤ 1000000)) (fun sk => r.length - (intOf sk).toNat)
      case atStart => exact ⟨0, Nat.zero_le _, rfl, hide (by simp)⟩
      case round =>
        obtain ⟨k, hk, rfl, HK⟩ := hrel
        by_cases hlk : k < r.length
        · obtain ⟨_, _, y, hp, hy, cy⟩ := Hin.out.at_ hlk
          injection hp with hp; injection hp with e1 e2
          subst e1; subst e2
          have Hy := hide hy
          clear hy
          by_cases hy1 : y < -1
          · have HF1 := hide (HF.out (fun hd => by have := ((hd.row r (List.mem_of_getElem? Hr.out)).2 y (List.mem_of_getElem? Hy.out)).1; omega))
            go_wp2
            exact HF1.out
          by_cases hy2 : (1000000 : Int) < y
          · have HF1 := hide (HF.out (fun hd => by have := ((hd.row r (List.mem_of_getElem? Hr.out)).2 y (List.mem_of_getElem? Hy.out)).2; omega))
            go_wp2
            exact HF1.out
          have HK2 := hide (show ∀ z ∈ r.take (k + 1), -1 ≤ z ∧ z ≤ 1000000 by
            intro z hz
            rw [List.take_add_one, Hy.out] at hz
            rcases List.mem_append.1 hz with h | h
            · exact HK.out z h
            · simp at h; rw [h]; omega)
          go_wp2
          go_round
          case rel => exact ⟨k + 1, by omega, by go_num, HK2⟩
          case measure => simp [intOf]; omega
        · obtain rfl : k = r.length := by omega
          have HI2 := hide (show rowsOk d (i + 1) from fun j r' hj hr' => by
            rcases Nat.lt_or_ge j i with h' | h'
            · exact HI.out j r' h' hr'
            · obtain rfl : j = i := by omega
              rw [Hr.out] at hr'; injection hr' with hr'; subst hr'
              have := HK.out; rw [List.take_length] at this
              exact ⟨Hlen.out, this, Hd0.out⟩)
          go_wp2
          go_round
          case rel => exact ⟨i + 1, by omega, by go_num, HI2⟩
          case measure => simp [intOf]; omega
    · obtain rfl : i = d.length := by omega
      go_wp2
      go_loop [51] (fun si => ∃ i : Nat, i ≤ d.length ∧ si = .int .i64 i ∧ Hid (∀ i' k j, i' < i → k < d.length → j < d.length → triOk d i' k j)) (fun si => d.length - (intOf si).toNat)
      case atStart => exact ⟨0, Nat.zero_le _, rfl, hide (fun i' k j h => absurd h (by omega))⟩
      case round =>
        obtain ⟨i, hi2, rfl, HT3⟩ := hrel
        by_cases hlt2 : i < d.length
        · obtain ⟨b, o, r, q, rc, rfl, hr, cr, hin, hrl⟩ := H.out.at_ hlt2
          have hrow := HI.out i r hlt2 hr
          have hlen := hrow.1
          have hrng := hide hrow.2.1
          have Hr := hide hr; have Hin := hide hin
          have hrl2 : r.length ≤ 12 := by omega
          clear hr hin hrow hrl
          go_wp2
          go_loop [58] (fun sk => ∃ k : Nat, k ≤ r.length ∧ sk = .int .i64 k ∧ Hid (∀ k' j, k' < k → j < d.length → triOk d i k' j)) (fun sk => r.length - (intOf sk).toNat)
          case atStart => exact ⟨0, Nat.zero_le _, rfl, hide (fun k' j h => absurd h (by omega))⟩
          case round =>
            obtain ⟨k, hk, rfl, HT4⟩ := hrel
            by_cases hlk : k < r.length
            · obtain ⟨qb, qo, f, hq, hf, cf⟩ := Hin.out.at_ hlk
              subst hq
              have hfd := dst_at Hr.out hf
              have hfr := hrng.out f (List.mem_of_getElem? hf)
              clear hf
              have next : ∀ {P : Prop}, P → P := fun h => h
              by_cases hf1 : f = -1
              · have hq1 : (f == (-1 : Int)) = true := by simpa using hf1
                have HT5 := hide (show ∀ k' j, k' < k + 1 → j < d.length → triOk d i k' j from fun k' j h1 h2 => by
                  rcases Nat.lt_or_ge k' k with h' | h'
                  · exact HT4.out k' j h' h2
                  · obtain rfl : k' = k := by omega
                    intro h3; rw [hfd] at h3; exact absurd hf1 h3)
                clear hf1 hfd next
                go_wp2
                go_round
                case rel => exact ⟨k + 1, by omega, by go_num, HT5⟩
                case measure => simp [intOf]; omega
              have hq1 : (f == (-1 : Int)) = false := by simpa using hf1
              by_cases hik : i = k
              · have hq2 : ((i : Int) == (k : Int)) = true := by simp; omega
                have HT5 := hide (show ∀ k' j, k' < k + 1 → j < d.length → triOk d i k' j from fun k' j h1 h2 => by
                  rcases Nat.lt_or_ge k' k with h' | h'
                  · exact HT4.out k' j h' h2
                  · obtain rfl : k' = k := by omega
                    intro _ h3; exact absurd hik h3)
                clear hf1 hfd next hik
                go_wp2
                go_round
                case rel => exact ⟨k + 1, by omega, by go_num, HT5⟩
                case measure => simp [intOf]; omega
              have hq2 : ((i : Int) == (k : Int)) = false := by simp; omega
              have Hfd := hide hfd; have Hf1 := hide hf1; have Hik := hide hik
              clear hfd hf1 hik next
              have hkd : k < d.length := by omega
              have hf0 : 0 ≤ f := by have := Hf1.out; omega
              obtain ⟨b2, o2, r2, q2, rc2, hp2, hr2, cr2, hin2, hrl2'⟩ := H.out.at_ hkd
              injection hp2 with hp2; injection hp2 with e1 e2
              subst e1; subst e2
              have hrow2 := HI.out k r2 hkd hr2
              have hlen2 := hrow2.1
              have hrng2 := hide hrow2.2.1
              have Hr2 := hide hr2; have Hin2 := hide hin2
              clear hr2 hin2 hrow2 hrl2'
              go_wp2
              go_loop [75] (fun sj => ∃ j : Nat, j ≤ r2.length ∧ sj = .int .i64 j ∧ Hid (∀ j', j' < j → triOk d i k j')) (fun sj => r2.length - (intOf sj).toNat)
              case atStart => exact ⟨0, Nat.zero_le _, rfl, hide (fun j' h => absurd h (by omega))⟩
              case round =>
                obtain ⟨j, hj, rfl, HT6⟩ := hrel
                by_cases hlj : j < r2.length
                · obtain ⟨sb, so, s, hq3, hs, cs⟩ := Hin2.out.at_ hlj
                  obtain ⟨_, _, t, hq4, ht, ct⟩ := Hin.out.at_ (i := j) (by omega)
                  injection hq4 with hq4; injection hq4 with e1 e2
                  subst e1; subst e2
                  subst hq3
                  have hsd := dst_at Hr2.out hs
                  have htd := dst_at Hr.out ht
                  have hsr := hrng2.out s (List.mem_of_getElem? hs)
                  have htr := hrng.out t (List.mem_of_getElem? ht)
                  have hjr : j < r.length := by omega
                  have hjd : j < d.length := by omega
                  have Hbad := hide (fun (h : ¬ triOk d i k j) => HF.out (fun hd => h (hd.tri i k j hlt2 hkd hjd)))
                  have Hnext := hide (fun (h : triOk d i k j) => (show ∀ j', j' < j + 1 → triOk d i k j' from fun j' h1 => by
                    rcases Nat.lt_or_ge j' j with h' | h'
                    · exact HT6.out j' h'
                    · obtain rfl : j' = j := by omega
                      exact h))
                  have Htri := hide (show triOk d i k j ↔ (s ≠ -1 → t ≠ -1 ∧ t ≤ f + s) by
                    unfold triOk; rw [Hfd.out, hsd, htd]
                    exact ⟨fun h => h Hf1.out Hik.out, fun h _ _ => h⟩)
                  clear hs ht hsd htd
                  have hw : IntKind.i64.wrap (f + s) = f + s := IntWalk.i64_in _ (by omega)
                  by_cases hs1 : s = -1
                  · have hq5 : (s != (-1 : Int)) = false := by simpa using hs1
                    have HT7 := hide (Hnext.out (Htri.out.2 (fun h => absurd hs1 h)))
                    clear hs1
                    go_wp2
                    go_round
                    case rel => exact ⟨j + 1, by omega, by go_num, HT7⟩
                    case measure => simp [intOf]; omega
                  have hq5 : (s != (-1 : Int)) = true := by simpa using hs1
                  by_cases ht1 : t = -1
                  · have hq6 : (t == (-1 : Int)) = true := by simpa using ht1
                    have HF1 := hide (Hbad.out (fun h => (Htri.out.1 h hs1).1 ht1))
                    clear hs1 ht1
                    go_wp2
                    exact HF1.out
                  have hq6 : (t == (-1 : Int)) = false := by simpa using ht1
                  by_cases hgt : f + s < t
                  · have HF1 := hide (Hbad.out (fun h => by have := (Htri.out.1 h hs1).2; omega))
                    clear hs1 ht1
                    go_wp2
                    exact HF1.out
                  have HT7 := hide (Hnext.out (Htri.out.2 (fun h => ⟨ht1, by omega⟩)))
                  clear hs1 ht1
                  go_wp2
                  go_round
                  case rel => exact ⟨j + 1, by omega, by go_num, HT7⟩
                  case measure => simp [intOf]; omega
                · obtain rfl : j = r2.length := by omega
                  have HT5 := hide (show ∀ k' j, k' < k + 1 → j < d.length → triOk d i k' j from fun k' j h1 h2 => by
                    rcases Nat.lt_or_ge k' k with h' | h'
                    · exact HT4.out k' j h' h2
                    · obtain rfl : k' = k := by omega
                      exact HT6.out j (by omega))
                  go_wp2
                  go_round
                  case rel => exact ⟨k + 1, by omega, by go_num, HT5⟩
                  case measure => simp [intOf]; omega
            · obtain rfl : k = r.length := by omega
              have HT5 := hide (show ∀ i' k j, i' < i + 1 → k < d.length → j < d.length → triOk d i' k j from fun i' k' j h1 h2 h3 => by
                rcases Nat.lt_or_ge i' i with h' | h'
                · exact HT3.out i' k' j h' h2 h3
                · obtain rfl : i' = i := by omega
                  exact HT4.out k' j (by omega) h3)
              go_wp2
              go_round
              case rel => exact ⟨i + 1, by omega, by go_num, HT5⟩
              case measure => simp [intOf]; omega
        · obtain rfl : i = d.length := by omega
          have HD := hide (HT.out (distP_of h12 HI.out HT3.out))
          go_wp2
          exact HD.out
end Go.Proofs.Ytaopfoicdjejnaa
