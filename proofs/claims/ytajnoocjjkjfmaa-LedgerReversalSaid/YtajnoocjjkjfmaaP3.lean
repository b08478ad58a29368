/- Plain: lengths; contracts in the laws' form. -/
import Derived.Test.YtajnoocjjkjfmaaH
import Derived.Test.YtajnoocjjkjfmaaD2
import Derived.Test.YtajnoocjjkjfmaaD4
set_option linter.unusedVariables false
set_option linter.unusedSimpArgs false
namespace Go.Proofs.Ytajnoocjjkjfmaa
open Go.RowKit

theorem balE_zero {n : Int} {l : List Ent} (h : balE n l = 0) : inB n 1 100 = true ∧ l.all (validE n) = true ∧ l.length ≤ 1000 := by
  unfold balE at h
  split at h
  · rename_i hk
    unfold balOk at hk
    rw [Bool.and_eq_true] at hk
    refine ⟨hk.1, hk.2, ?_⟩
    split at h
    · cases h
    · omega
  · cases h
theorem balL_len (n : Int) (l : List Ent) : (balL n l).length ≤ 100 := by
  unfold balL
  split
  · rename_i h
    have := inB_true (balE_zero h).1
    simp; omega
  · simp
theorem splitL_len (a : Int) (l : List Int) : (splitL a l).length ≤ l.length := by
  unfold splitL; split
  · simp
  · simp
theorem adjE_zero {a b : List Int} {ref : ByteArray} (h : adjE a b ref = 0) : a.length = b.length ∧ 1 ≤ a.length ∧ a.length ≤ 100 ∧ ref.size ≤ 60 ∧ a.any wrongA = false ∧ b.any wrongA = false ∧ (diffL a b).sum = 0 ∧ (settleL ref (diffL a b)).any (fun e => decide (1000000000 < e.am)) = false := by
  unfold adjE at h
  split at h
  · cases h
  · split at h
    · cases h
    · split at h
      · cases h
      · split at h
        · cases h
        · rename_i h1 h2 h3 h4
          unfold adjShape at h1
          simp at h1
          have h5 := inB_true h1.2.1
          simp at h2
          refine ⟨h1.1, by omega, by omega, h1.2.2, by rw [List.any_eq_false]; intro x hx; rw [h2.1 x hx]; decide, by rw [List.any_eq_false]; intro x hx; rw [h2.2 x hx]; decide, by simpa using h3, by simpa using h4⟩
theorem adjL_len (a b : List Int) (ref : ByteArray) : (adjL a b ref).length ≤ 100 := by
  unfold adjL
  split
  · rename_i h
    obtain ⟨h1, h2, h3, _⟩ := adjE_zero h
    have h4 := settleL_len ref (diffL a b)
    have h5 := nz_le (diffL a b)
    rw [diff_len h1] at h5
    omega
  · simp
theorem valid_b (n : Int) (e : Ent) (he : e.ref.size ≤ maxLen) (w : World) (R) (hR : ∀ w', Below w.heap.size w w' → R (.returned (.bool (validE n e))) w') :
    Calls Try.prog 19 #[.int .i64 n, .agg #[.int .i64 e.fr, .int .i64 e.to_, .int .i64 e.am, .string e.ref]] w R :=
  valid_c n e he w R (hR _ (balloc (Below.refl _ _) _))
theorem bal_b (n : Int) (p : Option Addr) (m cap : Nat) (l : List Ent) (w : World) (R) (hm : l.length = m) (hl : m ≤ maxLen) (h : EntsAt w p l) (hw : EWf l) (hnw : (Lit.int .i64 n).wf = true)
    (hR : ∀ p' c' w', Below w.heap.size w w' → IntsAt .i64 w' p' (balL n l) → R (.returned (.tuple #[.slice p' (balL n l).length c', .int .i64 (balE n l)])) w') : Calls Try.prog 13 #[.int .i64 n, .slice p m cap] w R :=
  balances_c n p m cap l w R hm hl h hw hnw fun v w' hb ho => by
    obtain ⟨p', c', rfl, _⟩ := own_val ho
    exact hR p' c' w' hb (IntsAt.of_own ho)
theorem refBal_b (n : Int) (p : Option Addr) (m cap : Nat) (l : List Ent) (w : World) (R) (hm : l.length = m) (hl : m ≤ 2000) (h : EntsAt w p l) (hw : EWf l) (hnw : (Lit.int .i64 n).wf = true)
    (hR : ∀ p' c' w', Below w.heap.size w w' → IntsAt .i64 w' p' (balL n l) → R (.returned (.tuple #[.slice p' (balL n l).length c', .int .i64 (balE n l)])) w') : Calls Try.prog 14 #[.int .i64 n, .slice p m cap] w R :=
  refBalances_c n p m cap l w R hm hl h hw hnw fun v w' hb ho => by
    obtain ⟨p', c', rfl, _⟩ := own_val ho
    exact hR p' c' w' hb (IntsAt.of_own ho)
theorem split_b (a : Int) (p : Option Addr) (n cap : Nat) (l : List Int) (w : World) (R) (hn : l.length = n) (hl : n ≤ maxLen) (h : IntsAt .i64 w p l)
    (hR : ∀ p' c' w', Below w.heap.size w w' → IntsAt .i64 w' p' (splitL a l) → R (.returned (.tuple #[.slice p' (splitL a l).length c', .int .i64 (splitE a l)])) w') : Calls Try.prog 15 #[.int .i64 a, .slice p n cap] w R :=
  split_c a p n cap l w R hn hl h fun v w' hb ho => by
    obtain ⟨p', c', rfl, _⟩ := own_val ho
    exact hR p' c' w' hb (IntsAt.of_own ho)
theorem refSplit_b (a : Int) (p : Option Addr) (n cap : Nat) (l : List Int) (w : World) (R) (hn : l.length = n) (hl : n ≤ maxLen) (h : IntsAt .i64 w p l)
    (hR : ∀ p' c' w', Below w.heap.size w w' → IntsAt .i64 w' p' (splitL a l) → R (.returned (.tuple #[.slice p' (splitL a l).length c', .int .i64 (splitE a l)])) w') : Calls Try.prog 16 #[.int .i64 a, .slice p n cap] w R :=
  refSplit_c a p n cap l w R hn hl h fun v w' hb ho => by
    obtain ⟨p', c', rfl, _⟩ := own_val ho
    exact hR p' c' w' hb (IntsAt.of_own ho)
theorem adj_b (p q : Option Addr) (n m cap cap' : Nat) (a b : List Int) (ref : ByteArray) (w : World) (R) (hn : a.length = n) (hm : b.length = m) (hl : n ≤ maxLen) (hl' : m ≤ maxLen) (h : IntsAt .i64 w p a) (h' : IntsAt .i64 w q b) (hr : ref.size ≤ maxLen)
    (hR : ∀ p' c' w', Below w.heap.size w w' → EntsAt w' p' (adjL a b ref) → R (.returned (.tuple #[.slice p' (adjL a b ref).length c', .int .i64 (adjE a b ref)])) w') : Calls Try.prog 17 #[.slice p n cap, .slice q m cap', .string ref] w R :=
  adjust_c p q n m cap cap' a b ref w R hn hm hl hl' h h' hr fun v w' hb ho => by
    obtain ⟨p', c', rfl, _⟩ := own_val ho
    exact hR p' c' w' hb (EntsAt.of_own ho)
theorem refAdj_b (p q : Option Addr) (n m cap cap' : Nat) (a b : List Int) (ref : ByteArray) (w : World) (R) (hn : a.length = n) (hm : b.length = m) (hl : n ≤ maxLen) (hl' : m ≤ maxLen) (h : IntsAt .i64 w p a) (h' : IntsAt .i64 w q b) (hr : ref.size ≤ maxLen)
    (hR : ∀ p' c' w', Below w.heap.size w w' → EntsAt w' p' (adjL a b ref) → R (.returned (.tuple #[.slice p' (adjL a b ref).length c', .int .i64 (adjE a b ref)])) w') : Calls Try.prog 18 #[.slice p n cap, .slice q m cap', .string ref] w R :=
  refAdjust_c p q n m cap cap' a b ref w R hn hm hl hl' h h' hr fun v w' hb ho => by
    obtain ⟨p', c', rfl, _⟩ := own_val ho
    exact hR p' c' w' hb (EntsAt.of_own ho)
end Go.Proofs.Ytajnoocjjkjfmaa
