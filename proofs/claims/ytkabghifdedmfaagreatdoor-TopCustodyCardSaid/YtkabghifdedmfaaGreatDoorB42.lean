/- World: the departures of the fixed run. -/
import Derived.Test.YtkabghifdedmfaaGreatDoorB41
set_option linter.unusedVariables false
set_option linter.unusedSimpArgs false
namespace Go.Proofs.YtkabghifdedmfaaGreatDoor
open Go.RowKit Go.Sort Go.Shelf
attribute [local go_sem] Oper.semAt_some

theorem departures_c (h : Nat) (bf : Int) (W : World) (R) (hR : R (.returned (.func (.func 98) #[] #[.pointer (some ⟨W.heap.size, 0, none⟩), .pointer (some ⟨W.heap.size + 1, 0, none⟩)])) ((W.alloc (.cells #[.pointer (some ⟨h, 0, none⟩)] 116)).alloc (.cells #[.int .i64 bf] 3))) :
    Calls Tryz.prog 77 #[.pointer (some ⟨h, 0, none⟩), .int .i64 bf] W R := by
  have HR := hide hR
  clear hR
  go_enter Tryz.func77, Tryz.ntmps77
  go_wp2
  exact HR.out
/-- What the iterator sees when k items have gone. -/
structure DV (bs : List Nat) (h b1 b2 : Nat) (bf : Int) (p : Option Addr) (n c k : Nat) (W : World) : Prop where
  c1 : W.cell? ⟨b1, 0, none⟩ = some (.pointer (some ⟨h, 0, none⟩))
  c2 : W.cell? ⟨b2, 0, none⟩ = some (.int .i64 bf)
  h7 : W.cell? ⟨h, 7, none⟩ = some (.slice p n c)
  row : ∀ i b, bs[i]? = some b → ∃ g, p = some ⟨g, 0, none⟩ ∧ W.cell? ⟨g, i, none⟩ = some (.pointer (some ⟨b, 0, none⟩))
  it : ∀ i b, bs[i]? = some b → W.cell? ⟨b, 11, none⟩ = some (.int .i64 (if i < k then -1 else 0)) ∧ W.cell? ⟨b, 12, none⟩ = some (.int .i64 480)
def encB (b : Nat) : Array Value := #[.pointer (some ⟨b, 0, none⟩)]
set_option maxRecDepth 100000 in
set_option maxHeartbeats 4000000 in
theorem deps_none (m : Nat) (hm : 1 ≤ m) (bs : List Nat) (h b1 b2 n c : Nat) (p : Option Addr) (w : World) (hn : bs.length = n) (hn1 : n ≤ 1000) :
    SeqV Fence.wide m Tryz.prog 98 #[.pointer (some ⟨b1, 0, none⟩), .pointer (some ⟨b2, 0, none⟩)] encB (fun pre W => pre = [] → DV bs h b1 b2 100 p n c 0 W) (fun _ _ _ => False) (fun xs => xs = []) 1000 w := by
  intro l J W hbW hJs hJV hY h0
  have HJs := hide hJs; have HJV := hide hJV; have HJ0 := hide h0; have Hn := hide hn
  have hv := hJV [] W h0 rfl
  have x1 := hv.c1; have x2 := hv.c2; have x7 := hv.h7
  clear hJs hJV hY h0 hbW hv hn
  refine callsIn_of_wp Tryz.func98 rfl trivial ?_ rfl
  simp only [Tryz.ntmps98, List.size_toArray, List.length_cons, List.length_nil, Nat.reduceAdd, Nat.reduceSub, Array.replicate_succ, Array.replicate_zero, List.push_toArray, List.append_toArray, List.nil_append, List.cons_append]
  refine wpIn_wide.2 ?_
  go_wp2
  clear x1 x2 x7
  refine (wpIn_wide (n := m)).1 ?_
  gi_loopw [11] (fun sk wq => ∃ k : Nat, k ≤ n ∧ sk = .int .i64 k ∧ Hid (J [] wq)) (fun sk _ => n - (intOf sk).toNat)
  case atStart => exact ⟨0, Nat.zero_le _, rfl, HJ0⟩
  case round =>
    clear HJ0
    obtain ⟨k, hk, rfl, HJ⟩ := hrel
    by_cases hlt : k < n
    · have hltI : (k : Int) < (n : Int) := by omega
      have hv := HJV.out _ _ HJ.out rfl
      obtain ⟨b, hbk⟩ : ∃ b, bs[k]? = some b := ⟨_, List.getElem?_eq_getElem (show k < bs.length by rw [Hn.out]; exact hlt)⟩
      obtain ⟨g, rfl, xg⟩ := hv.row k _ hbk
      obtain ⟨y1, y2⟩ := hv.it k _ hbk
      rw [if_neg (by omega)] at y1
      have x2 := hv.c2
      clear hv hbk
      gi_wp2
      refine wpIn_loop_rounds 1 ?_
      rw [roundsIn_succ]
      gi_wp2
      refine wpIn_wide.2 ?_
      go_quiet (fail)
      have HJ2 := hide (HJs.out _ _ _ HJ.out (below_drewN' (Below.refl _ _) nq))
      gi_wp2
      go_roundw
      case rel => exact ⟨k + 1, by omega, by go_num, HJ2⟩
      case measure => simp [intOf]; omega
    · have hltI : ¬ (k : Int) < (n : Int) := by omega
      gi_wp2
      go_end0
      exact ⟨⟨_, rfl⟩, HJ.out⟩
theorem take_succ {bs : List Nat} {k b : Nat} (h : bs[k]? = some b) : bs.take (k + 1) = bs.take k ++ [b] := by
  rw [List.take_add_one, h]; rfl
set_option maxRecDepth 100000 in
set_option maxHeartbeats 4000000 in
theorem deps_all (m : Nat) (hm : 1 ≤ m) (bs : List Nat) (h b1 b2 n c : Nat) (p : Option Addr) (w : World) (hn : bs.length = n) (hn1 : n ≤ 900) :
    SeqV Fence.wide m Tryz.prog 98 #[.pointer (some ⟨b1, 0, none⟩), .pointer (some ⟨b2, 0, none⟩)] encB (fun pre W => pre = bs.take pre.length → DV bs h b1 b2 9223372036854775807 p n c pre.length W) (fun pre b _ => bs[pre.length]? = some b) (fun xs => xs = bs) 1000 w := by
  intro l J W hbW hJs hJV hY h0
  have HJs := hide hJs; have HJV := hide hJV; have HJ0 := hide h0; have Hn := hide hn; have HY := hide hY
  have hv := hJV [] W h0 (by simp)
  have x1 := hv.c1; have x2 := hv.c2; have x7 := hv.h7
  clear hJs hJV hY h0 hbW hv hn
  refine callsIn_of_wp Tryz.func98 rfl trivial ?_ rfl
  simp only [Tryz.ntmps98, List.size_toArray, List.length_cons, List.length_nil, Nat.reduceAdd, Nat.reduceSub, Array.replicate_succ, Array.replicate_zero, List.push_toArray, List.append_toArray, List.nil_append, List.cons_append]
  refine wpIn_wide.2 ?_
  go_wp2
  clear x1 x2 x7
  refine (wpIn_wide (n := m)).1 ?_
  gi_loopw [11] (fun sk wq => ∃ k : Nat, k ≤ n ∧ sk = .int .i64 k ∧ Hid (J (bs.take k) wq)) (fun sk _ => n - (intOf sk).toNat)
  case atStart => exact ⟨0, Nat.zero_le _, rfl, hide (by simpa using HJ0.out)⟩
  case round =>
    clear HJ0
    obtain ⟨k, hk, rfl, HJ⟩ := hrel
    by_cases hlt : k < n
    · have hltI : (k : Int) < (n : Int) := by omega
      have hlen : (bs.take k).length = k := by rw [List.length_take, Hn.out]; omega
      have hv := HJV.out _ _ HJ.out (by rw [hlen])
      rw [hlen] at hv
      obtain ⟨b, hbk⟩ : ∃ b, bs[k]? = some b := ⟨_, List.getElem?_eq_getElem (show k < bs.length by rw [Hn.out]; exact hlt)⟩
      obtain ⟨g, rfl, xg⟩ := hv.row k _ hbk
      obtain ⟨y1, y2⟩ := hv.it k _ hbk
      rw [if_neg (by omega)] at y1
      have x2 := hv.c2
      have Hbk := hide hbk; have Hlen := hide hlen
      clear hv hbk hlen
      gi_wp2
      refine wpIn_loop_rounds 2 ?_
      rw [roundsIn_succ]
      gi_wp2
      refine wpIn_wide.2 ?_
      go_quiet (fail)
      have HJ2 := hide (HJs.out _ _ _ HJ.out (below_drewN' (Below.refl _ _) nq))
      clear HJ xg y1 y2 x2
      generalize wr.drewN nq = W2 at *
      obtain ⟨fn, tmps, assign, body, hy, hR⟩ := HY.out (bs.take k) b _ HJ2.out (by rw [Hlen.out]; exact Hbk.out) (by rw [Hlen.out]; omega)
      unfold encB at hy
      gi_wp2
      refine hR.mono ?_
      rintro e W3 ⟨rfl, hJ3⟩
      have HJ3 := hide (show J (bs.take (k + 1)) W3 by rw [take_succ Hbk.out]; exact hJ3)
      clear hJ3 hR hy HJ2
      have hlen : (bs.take (k + 1)).length = k + 1 := by rw [List.length_take, Hn.out]; omega
      have hv := HJV.out _ _ HJ3.out (by rw [hlen])
      rw [hlen] at hv
      obtain ⟨y1, y2⟩ := hv.it k _ Hbk.out
      rw [if_pos (by omega)] at y1
      have x2 := hv.c2
      clear hv hlen
      gi_wp2
      rw [roundsIn_succ]
      gi_wp2
      refine wpIn_wide.2 ?_
      go_quiet (fail)
      have HJ4 := hide (HJs.out _ _ _ HJ3.out (below_drewN' (Below.refl _ _) nq))
      gi_wp2
      go_roundw
      case rel => exact ⟨k + 1, by omega, by go_num, HJ4⟩
      case measure => simp [intOf]; omega
    · obtain rfl : k = n := by omega
      have HJ5 := hide (show J bs _ by have := HJ.out; rwa [List.take_of_length_le (by rw [Hn.out]; exact Nat.le_refl _)] at this)
      gi_wp2
      go_end0
      exact ⟨⟨_, rfl⟩, bs, rfl, HJ5.out⟩
end Go.Proofs.YtkabghifdedmfaaGreatDoor
