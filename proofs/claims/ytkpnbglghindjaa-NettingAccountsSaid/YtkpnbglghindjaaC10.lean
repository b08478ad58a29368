import Derived.Test.YtkpnbglghindjaaC8
import Derived.Test.YtkpnbglghindjaaC9
set_option linter.unusedVariables false
set_option linter.unusedSimpArgs false
namespace Go.Proofs.Ytkpnbglghindjaa
open Go.RowKit Math

theorem IntsAt.lit {w : World} {t : TypeId} (l : List Int) : IntsAt .i64 (w.alloc (.cells (l.map (Value.int .i64)).toArray t)) (some ⟨w.heap.size, 0, none⟩) l := fun _ =>
  ⟨w.heap.size, 0, rfl, fun i x hx => by rw [Nat.zero_add, cell_new]; simp [hx]⟩
theorem TrsAt.lit {w : World} {t : TypeId} (l : List Tr) : TrsAt (w.alloc (.cells (l.flatMap trCells).toArray t)) (some ⟨w.heap.size, 0, none⟩) l := fun _ =>
  ⟨w.heap.size, 0, rfl, fun i x hx => by
    obtain ⟨a1, a2, a3⟩ := trCells_at l i x hx
    simp only [Nat.zero_add, cell_new, List.getElem?_toArray]
    exact ⟨a1, a2, a3⟩⟩

theorem netLit_c (l : List Int) (xs : List Tr) (er : Int) (n : Nat) (w : World) (R) (hl : l.length = n) (hn : n ≤ 40) (hx : netList l = xs) (he : netErr l = er)
    (hR : ∀ p cap w', Below w.heap.size w w' → TrsAt w' p xs → R (.returned (.tuple #[.slice p xs.length cap, .int .i64 er])) w') : Calls Try.prog 11 #[.slice (some ⟨w.heap.size, 0, none⟩) n n] (w.alloc (.cells (l.map (Value.int .i64)).toArray 3)) R := by
  refine net_c _ n n l _ R hl (by unfold maxLen; omega) (IntsAt.lit l) (fun h => by cases h) fun v w' hb ho => ?_
  obtain ⟨p, cap, rfl, _⟩ := own_val ho
  rw [hx] at ho ⊢
  rw [he]
  exact hR p cap w' (bseq (balloc (Below.refl _ _) _) hb) (TrsAt.of_own ho)

/-- A literal list of balances as the walk shows it. -/
abbrev litI (w : World) (l : List Int) : World := w.alloc (.cells (l.map (Value.int .i64)).toArray 3)
abbrev litT (w : World) (l : List Tr) : World := w.alloc (.cells (l.flatMap trCells).toArray 36)

theorem sameLit_c (p : Option Addr) (cap n : Nat) (xs : List Tr) (w : World) (R) (hn : xs.length = n) (hl : n ≤ 40) (h : TrsAt w p xs) (hR : ∀ w', Below w.heap.size w w' → R (.returned (.bool true)) w') :
    Calls Try.prog 13 #[.slice p n cap, .slice (some ⟨w.heap.size, 0, none⟩) n n] (w.alloc (.cells (xs.flatMap trCells).toArray 36)) R :=
  same_c p _ n n cap n xs xs _ R hn hn (by unfold maxLen; omega) (by unfold maxLen; omega) (h.keep (Keeps.alloc _ _)) (TrsAt.lit xs) fun w' hw' => by
    rw [decide_eq_true rfl]; exact hR w' (bseq (balloc (Below.refl _ _) _) hw'.below)

theorem payLit_c (l : List Int) (q : Option Addr) (cap' m : Nat) (ts : List Tr) (rs : List Int) (n : Nat) (w : World) (R) (hl : l.length = n) (hm : ts.length = m) (hn : n ≤ 40) (hm' : m ≤ 1000) (ht : TrsAt w q ts) (hx : payRes l ts = rs)
    (hR : ∀ p cap w', Below w.heap.size w w' → IntsAt .i64 w' p rs → R (.returned (.slice p rs.length cap)) w') : Calls Try.prog 15 #[.slice (some ⟨w.heap.size, 0, none⟩) n n, .slice q m cap'] (w.alloc (.cells (l.map (Value.int .i64)).toArray 3)) R := by
  refine Pay_c _ q n m n cap' l ts _ R hl hm (by omega) (by unfold maxLen; omega) (IntsAt.lit l) (fun h => by cases h) (ht.keep (Keeps.alloc _ _)) fun v w' hb ho => ?_
  obtain ⟨p, cap, rfl, _⟩ := own_val ho
  rw [hx] at ho ⊢
  exact hR p cap w' (bseq (balloc (Below.refl _ _) _) hb) (IntsAt.of_own ho)

theorem payLit2_c (l : List Int) (m : Nat) (ts : List Tr) (rs : List Int) (n : Nat) (w : World) (R) (hl : l.length = n) (hm : ts.length = m) (hn : n ≤ 40) (hm' : m ≤ 1000) (hx : payRes l ts = rs)
    (hR : ∀ p cap w', Below w.heap.size w w' → IntsAt .i64 w' p rs → R (.returned (.slice p rs.length cap)) w') : Calls Try.prog 15 #[.slice (some ⟨w.heap.size, 0, none⟩) n n, .slice (some ⟨w.heap.size + 1, 0, none⟩) m m] ((w.alloc (.cells (l.map (Value.int .i64)).toArray 3)).alloc (.cells (ts.flatMap trCells).toArray 36)) R := by
  have e : w.heap.size + 1 = (w.alloc (.cells (l.map (Value.int .i64)).toArray 3)).heap.size := by simp
  rw [e]
  refine Pay_c _ _ n m n m l ts _ R hl hm (by omega) (by unfold maxLen; omega) ((IntsAt.lit l).keep (Keeps.alloc _ _)) (fun h => by cases h) (TrsAt.lit ts) fun v w' hb ho => ?_
  obtain ⟨p, cap, rfl, _⟩ := own_val ho
  rw [hx] at ho ⊢
  exact hR p cap w' (bseq (balloc (balloc (Below.refl _ _) _) _) hb) (IntsAt.of_own ho)

theorem intsLit_c (p : Option Addr) (cap n : Nat) (xs : List Int) (w : World) (R) (hn : xs.length = n) (hl : n ≤ 40) (h : IntsAt .i64 w p xs) (hR : ∀ w', Below w.heap.size w w' → R (.returned (.bool true)) w') :
    Calls Try.prog 14 #[.slice p n cap, .slice (some ⟨w.heap.size, 0, none⟩) n n] (w.alloc (.cells (xs.map (Value.int .i64)).toArray 3)) R :=
  ints_c p _ n n cap n xs xs _ R hn hn (by unfold maxLen; omega) (by unfold maxLen; omega) (h.keep (Keeps.alloc _ _)) (IntsAt.lit xs) fun w' hw' => by
    rw [decide_eq_true rfl]; exact hR w' (bseq (balloc (Below.refl _ _) _) hw'.below)

set_option maxHeartbeats 1000000 in
theorem head_c (w : World) (R) (hR : ∀ w', Below w.heap.size w w' → R (.returned (.bool true)) w') : Calls Try.prog 10 #[] w R := by
  have HR := hide hR; clear hR
  go_enter Try.func10, Try.ntmps10
  go_wp2_with (go_at_call 11; refine Stop.out ?_)
  refine Stop.go (netLit_c [-5, 3, 2] [⟨0, 1, 3⟩, ⟨0, 2, 2⟩] 0 3 w _ rfl (by decide) (by decide) (by decide) ?_)
  intro p1 cap1 w1 hb1 ht1
  have B := hide hb1; clear hb1
  go_wp2_with (go_at_call 11; refine Stop.out ?_)
  refine Stop.go (netLit_c [4, -4, 1, -1] [⟨1, 0, 4⟩, ⟨3, 2, 1⟩] 0 4 w1 _ rfl (by decide) (by decide) (by decide) ?_)
  intro p2 cap2 w2 hb2 ht2
  replace B := hide (bseq B.out hb2)
  replace ht1 := ht1.keep (Keeps.of_below hb2)
  clear hb2
  go_wp2_with (go_at_call 11; refine Stop.out ?_)
  refine Stop.go (netLit_c [1, -2] [] 380 2 w2 _ rfl (by decide) (by decide) (by decide) ?_)
  intro p3 cap3 w3 hb3 _
  replace B := hide (bseq B.out hb3)
  replace ht1 := ht1.keep (Keeps.of_below hb3)
  replace ht2 := ht2.keep (Keeps.of_below hb3)
  clear hb3
  go_wp2_with (go_at_call 11; refine Stop.out ?_)
  refine Stop.go (netLit_c [1000000000001, -1000000000001] [] 1 2 w3 _ rfl (by decide) (by decide) (by decide) ?_)
  intro p4 cap4 w4 hb3 _
  replace B := hide (bseq B.out hb3)
  replace ht1 := ht1.keep (Keeps.of_below hb3)
  replace ht2 := ht2.keep (Keeps.of_below hb3)
  clear hb3
  go_wp2_with (go_at_call 11; refine Stop.out ?_)
  refine Stop.go (net_c none 0 0 [] _ _ rfl (by unfold maxLen; omega) IntsAt.nil (fun _ => rfl) ?_)
  intro v5 w5 hb3 ho5
  obtain ⟨p5, cap5, rfl, _⟩ := own_val ho5
  rw [show netList [] = [] by decide, show netErr [] = 0 by decide]
  replace B := hide (bseq B.out hb3)
  replace ht1 := ht1.keep (Keeps.of_below hb3)
  replace ht2 := ht2.keep (Keeps.of_below hb3)
  clear hb3 ho5
  go_wp2_with (go_at_call 13; refine Stop.out ?_)
  refine Stop.go (sameLit_c p1 cap1 2 [⟨0, 1, 3⟩, ⟨0, 2, 2⟩] _ _ rfl (by decide) ht1 ?_)
  intro w6 hb3
  replace B := hide (bseq B.out hb3)
  replace ht1 := ht1.keep (Keeps.of_below hb3)
  replace ht2 := ht2.keep (Keeps.of_below hb3)
  clear hb3
  go_wp2_with (go_at_call 13; refine Stop.out ?_)
  refine Stop.go (sameLit_c p2 cap2 2 [⟨1, 0, 4⟩, ⟨3, 2, 1⟩] _ _ rfl (by decide) ht2 ?_)
  intro w7 hb3
  replace B := hide (bseq B.out hb3)
  replace ht1 := ht1.keep (Keeps.of_below hb3)
  clear hb3 ht2
  go_wp2_with (go_at_call 15; refine Stop.out ?_)
  refine Stop.go (payLit_c [-5, 3, 2] p1 cap1 2 [⟨0, 1, 3⟩, ⟨0, 2, 2⟩] [0, 0, 0] 3 w7 _ rfl rfl (by decide) (by decide) ht1 (by decide) ?_)
  intro p8 cap8 w8 hb3 hi8
  replace B := hide (bseq B.out hb3)
  clear hb3 ht1
  go_wp2_with (go_at_call 14; refine Stop.out ?_)
  refine Stop.go (intsLit_c p8 cap8 3 [0, 0, 0] w8 _ rfl (by decide) hi8 ?_)
  intro w9 hb3
  replace B := hide (bseq B.out hb3)
  clear hb3 hi8
  go_wp2_with (go_at_call 15; refine Stop.out ?_)
  refine Stop.go (payLit2_c [1, 2] 1 [⟨0, 1, -3⟩] [-2, 5] 2 w9 _ rfl rfl (by decide) (by decide) (by decide) ?_)
  intro pa ca wa hb3 hia
  replace B := hide (bseq B.out hb3)
  clear hb3
  go_wp2_with (go_at_call 14; refine Stop.out ?_)
  refine Stop.go (intsLit_c pa ca 2 [-2, 5] wa _ rfl (by decide) hia ?_)
  intro wb hb3
  replace B := hide (bseq B.out hb3)
  clear hb3 hia
  go_wp2_with (go_at_call 15; refine Stop.out ?_)
  refine Stop.go (payLit2_c [1] 1 [⟨0, 1, 0⟩] [] 1 wb _ rfl rfl (by decide) (by decide) (by decide) ?_)
  intro pc cc wc hb3 hic
  replace B := hide (bseq B.out hb3)
  clear hb3 hic
  go_wp2_with fail
  exact HR.out _ B.out
end Go.Proofs.Ytkpnbglghindjaa
