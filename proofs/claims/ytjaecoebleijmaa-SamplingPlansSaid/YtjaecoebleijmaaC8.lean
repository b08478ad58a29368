import Derived.Test.YtjaecoebleijmaaC6
set_option linter.unusedVariables false
set_option linter.unusedSimpArgs false
namespace Go.Proofs.Ytjaecoebleijmaa
open Go.RowKit

theorem estLit_c (n step first most : Int) (l : List Int) (m : Nat) (a b e : Int) (w : World) (R) (hl : l.length = m) (hm : m ≤ 40) (hn : n ≤ 3000) (he : estR n step first most l = .tuple #[.int .i64 a, .int .i64 b, .int .i64 e])
    (hR : ∀ w', Below w.heap.size w w' → R (.returned (.tuple #[.int .i64 a, .int .i64 b, .int .i64 e])) w') :
    Calls Try.prog 12 #[.int .i64 n, .int .i64 step, .int .i64 first, .int .i64 most, .slice (some ⟨w.heap.size, 0, none⟩) m m] (w.alloc (.cells (l.map (Value.int .i64)).toArray 3)) R := by
  refine estimate_c n step first most _ m m l _ R (fun _ => hn) hl (by unfold maxLen; omega) (IntsAt.lit l) fun w' hb => ?_
  rw [he]
  exact hR w' (bseq (balloc (Below.refl _ _) _) hb)

theorem intsLit_c (p : Option Addr) (cap n : Nat) (xs : List Int) (w : World) (R) (hn : xs.length = n) (hl : n ≤ 40) (h : IntsAt .i64 w p xs) (hR : ∀ w', Below w.heap.size w w' → R (.returned (.bool true)) w') :
    Calls Try.prog 14 #[.slice p n cap, .slice (some ⟨w.heap.size, 0, none⟩) n n] (w.alloc (.cells (xs.map (Value.int .i64)).toArray 3)) R :=
  ints_c p _ n n cap n xs xs _ R hn hn (by unfold maxLen; omega) (by unfold maxLen; omega) (h.keep (Keeps.alloc _ _)) (IntsAt.lit xs) fun w' hw' => by
    rw [decide_eq_true rfl]; exact hR w' (bseq (balloc (Below.refl _ _) _) hw'.below)

theorem estR_val {n step first most : Int} {l : List Int} {a b : Int} (h : estOk n step first most l = true) (ha : est n step first l = a) (hb : estErr n step first most l = b) : estR n step first most l = .tuple #[.int .i64 a, .int .i64 b, .int .i64 0] := by rw [estR_true h, ha, hb]

set_option maxHeartbeats 1000000 in
theorem head_c (w : World) (R) (hR : ∀ w', Below w.heap.size w w' → R (.returned (.bool true)) w') : Calls Try.prog 9 #[] w R := by
  have HR := hide hR; clear hR
  go_enter Try.func9, Try.ntmps9
  go_wp2_with (go_at_call 10; refine Stop.out ?_)
  refine Stop.go (chosen_c 7 3 1 (by decide) w _ ?_)
  intro v w1 ho hb
  obtain ⟨p, cap, rfl, _⟩ := own_val ho
  rw [show sq 7 3 1 = [1, 4] by decide] at ho ⊢
  have I := hide (IntsAt.of_own ho)
  have B := hide hb
  clear ho hb
  go_wp2_with (go_at_call 12; refine Stop.out ?_)
  refine Stop.go (estLit_c 7 3 1 10 [4, 6] 2 35000 25000 0 w1 _ rfl (by decide) (by decide) (estR_val (by decide) (by decide) (by decide)) ?_)
  intro w2 hb
  replace B := hide (bseq B.out hb)
  replace I := hide (I.out.keep (Keeps.of_below hb))
  clear hb
  go_wp2_with (go_at_call 12; refine Stop.out ?_)
  refine Stop.go (estLit_c 4 1 0 9 [1, 2, 3, 4] 4 10000 0 0 w2 _ rfl (by decide) (by decide) (estR_val (by decide) (by decide) (by decide)) ?_)
  intro w3 hb
  replace B := hide (bseq B.out hb)
  replace I := hide (I.out.keep (Keeps.of_below hb))
  clear hb
  go_wp2_with (go_at_call 10; refine Stop.out ?_)
  refine Stop.go (chosen_bad 3 4 0 (by decide) _ _ ?_)
  go_wp2_with (go_at_call 10; refine Stop.out ?_)
  refine Stop.go (chosen_bad 3 2 2 (by decide) _ _ ?_)
  go_wp2_with (go_at_call 12; refine Stop.out ?_)
  refine Stop.go (estLit_c 7 3 1 10 [4, 11] 2 0 0 1 w3 _ rfl (by decide) (by decide) (estR_false (by decide)) ?_)
  intro w4 hb
  replace B := hide (bseq B.out hb)
  replace I := hide (I.out.keep (Keeps.of_below hb))
  clear hb
  go_wp2_with (go_at_call 14; refine Stop.out ?_)
  refine Stop.go (intsLit_c p cap 2 [1, 4] w4 _ rfl (by decide) I.out ?_)
  intro w5 hb
  replace B := hide (bseq B.out hb)
  clear hb
  go_wp2_with fail
  exact HR.out _ B.out
end Go.Proofs.Ytjaecoebleijmaa
