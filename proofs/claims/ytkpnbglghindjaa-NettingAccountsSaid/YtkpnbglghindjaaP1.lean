import Derived.Test.YtkpnbglghindjaaD1
import Derived.Test.YtkpnbglghindjaaC10
import Derived.Test.YtkpnbglghindjaaF1
set_option linter.unusedVariables false
set_option linter.unusedSimpArgs false
namespace Go.Proofs.Ytkpnbglghindjaa
open Go.RowKit Math

/-- Net at balances that are known to be right. -/
theorem netOk_c (p : Option Addr) (n cap : Nat) (b : List Int) (w : World) (R) (hn : b.length = n) (hl : n ≤ 40) (h : IntsAt .i64 w p b) (hp : p = none → n = 0) (he : netErr b = 0)
    (hR : ∀ q cap' w', Below w.heap.size w w' → TrsAt w' q (netList b) → R (.returned (.tuple #[.slice q (netList b).length cap', .int .i64 0])) w') : Calls Try.prog 11 #[.slice p n cap] w R := by
  refine net_c p n cap b w R hn (by unfold maxLen; omega) h hp fun v w' hb ho => ?_
  obtain ⟨q, cap', rfl, _⟩ := own_val ho
  rw [he]
  exact hR q cap' w' hb (TrsAt.of_own ho)

/-- What the laws over numbers do first: head, balanced, Net. -/
theorem balanced2_c (p : Option Addr) (n cap : Nat) (l : List Int) (w : World) (R) (hn : l.length = n) (hl : n ≤ maxLen) (h : IntsAt .i32 w p l) (h32 : I32 l)
    (hR : ∀ q cap' w', Below w.heap.size w w' → IntsAt .i64 w' q (balL l) → (q = none → (balL l).length = 0) → R (.returned (.slice q (balL l).length cap')) w') : Calls Try.prog 17 #[.slice p n cap] w R := by
  refine balanced_c p n cap l w R hn hl h h32 fun v w' hb ho => ?_
  obtain ⟨q, cap', rfl, hq⟩ := own_val ho
  exact hR q cap' w' hb (IntsAt.of_own ho) hq
end Go.Proofs.Ytkpnbglghindjaa
