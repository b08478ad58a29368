import Derived.Test.YtkpnbglghindjaaC6
import Derived.BigRegion
import Derived.RegionTactic
set_option linter.unusedVariables false
set_option linter.unusedSimpArgs false
namespace Go.Proofs.Ytkpnbglghindjaa
open Go.RowKit Math

theorem own_val {w : World} {base e size n : Nat} {v : Value} {xs : List Value} (h : w.ownsRow base e size v n xs) : ∃ p cap, v = .slice p n cap ∧ (p = none → n = 0) := by
  rcases h.2 with ⟨hv, hn⟩ | ⟨g, cap, cur, hv, hb, hh, _⟩
  · exact ⟨none, 0, by rw [hv, hn], fun _ => hn⟩
  · exact ⟨_, cap, hv, fun h => by cases h⟩

theorem total_c (p : Option Addr) (n cap : Nat) (l : List Int) (w : World) (R) (hn : l.length = n) (hl : n ≤ 100) (h : IntsAt .i64 w p l) (hbd : Bd 1000000000000 l)
    (hR : R (.returned (.int .i64 l.sum)) w) : Calls Try.prog 20 #[.slice p n cap] w R := by
  have Hn := hide hn; have Hbd := hide hbd; have HR := hide hR
  clear hn hbd hR
  go_enter Try.func20, Try.ntmps20
  go_wp2
  go_loop [3, 4] (fun t i => ∃ k : Nat, k ≤ n ∧ i = .int .i64 k ∧ t = .int .i64 (l.take k).sum) (fun _ i => n - (intOf i).toNat)
  case atStart => exact ⟨0, Nat.zero_le _, rfl, rfl⟩
  case round =>
    obtain ⟨k, hk, rfl, rfl⟩ := hrel
    have hb := sum_take_bd Hbd.out k
    generalize hsk : (l.take k).sum = sk at *
    have Hsk := hide hsk; clear hsk
    by_cases hlt : k < n
    · obtain ⟨b, o, x, rfl, hx, hc⟩ := h.at_ (i := k) (by rw [Hn.out]; exact hlt)
      have hxb := Hbd.out x (List.mem_of_getElem? hx)
      have Hx := hide hx; clear hx h
      go_wp2
      go_round
      case rel => exact ⟨k + 1, by omega, by go_num, by rw [List.take_add_one, List.sum_append_int, Hx.out, Hsk.out]; simp⟩
      case measure => simp [intOf]; omega
    · have hkn : l.take k = l := List.take_of_length_le (by rw [Hn.out]; omega)
      have HS := hide (show l.sum = sk by rw [← hkn]; exact Hsk.out)
      have HR1 := hide HR.out
      rw [HS.out] at HR1
      clear hkn Hsk
      go_wp2
      exact HR1.out

theorem okAmt_eq (x : Int) : okAmt x = !wrongB maxB x := by
  unfold okAmt wrongB maxB
  rw [Bool.eq_iff_iff]
  simp
theorem all_okAmt (l : List Int) : l.all okAmt = !l.any (wrongB maxB) := by
  induction l with
  | nil => rfl
  | cons a l ih => rw [List.all_cons, List.any_cons, ih, okAmt_eq, Bool.not_or]
end Go.Proofs.Ytkpnbglghindjaa
