import Derived.Test.YtkpnbglghindjaaC7
set_option linter.unusedVariables false
set_option linter.unusedSimpArgs false
namespace Go.Proofs.Ytkpnbglghindjaa
open Go.RowKit Math

/-- The balances that numbers determine. -/
def balL (l : List Int) : List Int := l.take 39 ++ [-(l.take 39).sum]

theorem length_balL (l : List Int) : (balL l).length = min 39 l.length + 1 := by simp [balL]
theorem sum_balL (l : List Int) : (balL l).sum = 0 := by unfold balL; rw [List.sum_append_int]; simp; omega
theorem sum_bd (l : List Int) (h : ∀ x ∈ l, -2147483648 ≤ x ∧ x ≤ 2147483647) : -(2147483648 * (l.length : Int)) ≤ l.sum ∧ l.sum ≤ 2147483648 * (l.length : Int) := by
  induction l with
  | nil => simp
  | cons a l ih => have := h a (by simp); have := ih (fun x hx => h x (by simp [hx])); simp; omega
theorem balL_bd (l : List Int) (h : ∀ x ∈ l, -2147483648 ≤ x ∧ x ≤ 2147483647) : ∀ x ∈ balL l, -83751862272 ≤ x ∧ x ≤ 83751862272 := by
  intro x hx
  unfold balL at hx
  rcases List.mem_append.1 hx with hx | hx
  · have := h x (List.mem_of_mem_take hx); omega
  · rw [List.mem_singleton] at hx
    have := sum_bd (l.take 39) (fun x hx => h x (List.mem_of_mem_take hx))
    have hl : (l.take 39).length ≤ 39 := by simp; omega
    omega
theorem wrong_balL (l : List Int) (h : ∀ x ∈ l, -2147483648 ≤ x ∧ x ≤ 2147483647) : (balL l).any (wrongB maxB) = false := by
  rw [List.any_eq_false]
  intro x hx
  have := balL_bd l h x hx
  unfold wrongB maxB
  simp; omega
theorem netErr_balL (l : List Int) (h : ∀ x ∈ l, -2147483648 ≤ x ∧ x ≤ 2147483647) : netErr (balL l) = 0 :=
  netErr_ok' (by rw [length_balL]; omega) (wrong_balL l h) (sum_balL l)
where
  netErr_ok' {l : List Int} (h : ¬ 40 < l.length) (h' : l.any (wrongB maxB) = false) (hs : l.sum = 0) : netErr l = 0 := by
    unfold netErr; rw [if_neg (by rw [h']; simp; omega), if_neg (by simp [hs])]

theorem wf_i32 {n : Int} : (Lit.int .i32 n).wf = true ↔ -2147483648 ≤ n ∧ n ≤ 2147483647 := by
  simp [Lit.wf, show IntKind.min .i32 = -2147483648 from rfl, show IntKind.max .i32 = 2147483647 from rfl]

set_option maxHeartbeats 1000000 in
theorem balanced_c (p : Option Addr) (n cap : Nat) (l : List Int) (w : World) (R) (hn : l.length = n) (hl : n ≤ maxLen) (h : IntsAt .i32 w p l) (hbd : ∀ x ∈ l, -2147483648 ≤ x ∧ x ≤ 2147483647)
    (hR : ∀ v w', Below w.heap.size w w' → OwnI w' w.heap.size v (balL l) → R (.returned v) w') : Calls Try.prog 17 #[.slice p n cap] w R := by
  unfold maxLen at hl
  have Hn := hide hn; have HR := hide hR; have H := hide h; have Hbd := hide hbd
  clear hn hR h hbd
  obtain ⟨i0, hi0, hz0, hz1, hz2⟩ := info_parts info_int
  go_enter Try.func17, Try.ntmps17
  go_wp2_with fail
  go_loopw [3, 4, 5] (fun v s i wr => ∃ k : Nat, k ≤ n ∧ k ≤ 39 ∧ i = .int .i64 k ∧ s = .int .i64 (l.take k).sum ∧ Hid (OwnI wr w.heap.size v (l.take k)) ∧ Hid (Below w.heap.size w wr)) (fun _ _ i _ => n - (intOf i).toNat)
  case atStart => exact ⟨0, Nat.zero_le _, Nat.zero_le _, rfl, rfl, hide (World.ownsRow_nil ..), hide (Below.refl _ _)⟩
  case round =>
    obtain ⟨k, hk, hk9, rfl, rfl, Ho, Hb⟩ := hrel
    have hsb := sum_bd (l.take k) (fun x hx => Hbd.out x (List.mem_of_mem_take hx))
    have hlk : (l.take k).length = k := by rw [List.length_take, Hn.out]; omega
    rw [hlk] at hsb
    generalize hsk : (l.take k).sum = sk at *
    have Hsk := hide hsk
    have Hlk := hide hlk
    clear hsk hlk
    by_cases hlt : k < n ∧ k < 39
    · obtain ⟨hlt, hlt9⟩ := hlt
      obtain ⟨b, o, x, rfl, hx, hc⟩ := (H.out.keep (Keeps.of_below Hb.out)).at_ (i := k) (by rw [Hn.out]; exact hlt)
      have hxb := Hbd.out x (List.mem_of_getElem? hx)
      have Hx := hide hx; clear hx
      have hc2 : ∀ o', (wr.alloc o').cell? ⟨b, o + k, none⟩ = some (.int .i32 x) := fun o' => Keeps.alloc wr o' _ _ hc
      have Hc := hide hc
      go_wp2_with (at_builtin; refine Stop.out ?_)
      refine Stop.go ?_
      refine wpList_app _ rfl (.tmp 16) (.tmp 22) 22 rfl w.heap.size 3 i0 _ 1 8 Try.underlying22 hi0 hz0 hz1 hz2 rfl (by omega) u3 (l.take k).length ((l.take k).map (Value.int .i64)) rfl (Ho.out.alloc _) (some ⟨wr.heap.size, 0, none⟩) 1 1 [.int .i64 x] rfl ⟨rfl, fun _ => ⟨_, rfl, fun j u hu => ?_⟩⟩ (ints_oneCell .i64 [x]) (by rw [Hlk.out]; unfold maxLen; omega) (by rw [Hlk.out]; omega) (by simp; have := Hb.out.size; omega) ?_
      · match j, hu with
        | 0, hu => cases hu; exact cell_new
      intro v1 w1 hown1 hg1
      have hg1' : wr.grownBy w1 u3.ownBlock := World.grownBy.trans (World.grownBy_alloc _ _ _) hg1
      have Hb1 := hide (show Below w.heap.size w w1 from Hb.out.grown hg1' Hb.out.size (fun k hk => (Ho.out.lt k hk).1))
      have hc3 : w1.cell? ⟨b, o + k, none⟩ = some (.int .i32 x) := by
        have h0 : b < w.heap.size := by
          obtain ⟨b', o', x', hq', _, hc⟩ := H.out.at_ (i := k) (by rw [Hn.out]; exact hlt)
          cases hq'
          exact block_lt hc
        exact hg1'.cell Hc.out (by intro e; have := (Ho.out.lt b e.symm).1; omega)
      have Hown1 := hide hown1
      clear hown1 hg1 hg1' hc2 hc
      go_wp2_with fail
      go_roundw
      case rel =>
        refine ⟨k + 1, by omega, by omega, by go_num, by rw [List.take_add_one, List.sum_append_int, Hx.out, Hsk.out]; simp, hide ?_, Hb1⟩
        have := Hown1.out
        unfold OwnI
        rw [List.take_add_one, Hx.out]
        simpa using this
      case measure => simp [intOf]; omega
    · have hk2 : (l.take k) = l.take 39 := by
        rcases Nat.lt_or_ge k n with h1 | h1
        · rw [show k = 39 by omega]
        · rw [List.take_of_length_le (by rw [Hn.out]; omega), List.take_of_length_le (by rw [Hn.out]; omega)]
      have hbl : balL l = l.take k ++ [-sk] := by unfold balL; rw [← hk2, Hsk.out]
      have Hbl := hide hbl
      clear hk2 hbl
      by_cases hlt1 : k < n
      all_goals
        go_wp2_with (at_builtin; refine Stop.out ?_)
        refine Stop.go ?_
        refine wpList_app _ rfl (.tmp 31) (.tmp 34) 22 rfl w.heap.size 3 i0 _ 1 8 Try.underlying22 hi0 hz0 hz1 hz2 rfl (by omega) u3 (l.take k).length ((l.take k).map (Value.int .i64)) rfl (Ho.out.alloc _) (some ⟨wr.heap.size, 0, none⟩) 1 1 [.int .i64 (-sk)] rfl ⟨rfl, fun _ => ⟨_, rfl, fun j u hu => ?_⟩⟩ (ints_oneCell .i64 [-sk]) (by rw [Hlk.out]; unfold maxLen; omega) (by rw [Hlk.out]; omega) (by simp; have := Hb.out.size; omega) ?_
        · match j, hu with
          | 0, hu => cases hu; exact cell_new
        intro v1 w1 hown1 hg1
        have hg1' : wr.grownBy w1 u3.ownBlock := World.grownBy.trans (World.grownBy_alloc _ _ _) hg1
        have Hb1 := hide (show Below w.heap.size w w1 from Hb.out.grown hg1' Hb.out.size (fun k hk => (Ho.out.lt k hk).1))
        have Hown1 := hide hown1
        clear hown1 hg1 hg1'
        go_wp2_with fail
        refine HR.out _ _ Hb1.out ?_
        have := Hown1.out
        unfold OwnI
        rw [Hbl.out]
        simpa using this
end Go.Proofs.Ytkpnbglghindjaa
