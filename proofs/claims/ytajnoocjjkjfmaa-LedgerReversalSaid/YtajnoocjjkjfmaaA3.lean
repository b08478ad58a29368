import Derived.Test.YtajnoocjjkjfmaaA1
import Derived.Test.YtajnoocjjkjfmaaA2
set_option linter.unusedVariables false
set_option linter.unusedSimpArgs false
namespace Go.Proofs.Ytajnoocjjkjfmaa
open Go.RowKit Go.Shelf
attribute [local go_sem] Oper.semAt_some

theorem own_kept2 {w : World} {base e size n : Nat} {v : Value} {xs : List Value} (h : w.ownsRow base e size v n xs) (g i : Nat) (u : Value) (hg : g < base) : (w.setCell ⟨g, i, none⟩ u).ownsRow base e size v n xs := by
  rcases h.2 with ⟨h1, _⟩ | ⟨g', cap, cur, h1, hb, _⟩
  · exact h.kept (grownBy_set (World.grownBy.refl w (some g)) i u) (.inl (by rw [h1]; rfl))
  · exact h.kept (grownBy_set (World.grownBy.refl w (some g)) i u) (.inr (by rw [h1]; simp [Value.ownBlock]; omega))
set_option maxRecDepth 100000 in
set_option maxHeartbeats 4000000 in
theorem adj_tail (Q : Exit → Act → World → Prop) (n : Nat) (d : List Int) (ref : ByteArray) (w w1 : World) (hl : n ≤ 100) (Hn : Hid (d.length = n)) (hbd : Hid (∀ t, -2000000000 ≤ d.getD t 0 ∧ d.getD t 0 ≤ 2000000000))
    (B1 : Hid (Below w.heap.size w w1)) (O1 : Hid (w1.ownsRow w.heap.size 3 1 (.slice (some ⟨w.heap.size + 2, 0, none⟩) n n) n (d.map (Value.int .i64)))) (b6 : Hid (Boxed w1 w.heap.size 22 (.slice none 0 0))) (b7 : Hid (Boxed w1 (w.heap.size + 1) 26 (.int .i64 0))) (hgs : w.heap.size + 2 < w1.heap.size)
    (u0 u1 u3 u4 u5 u8 u11 u12 u13 u14 u15 u16 u17 u18 u19 u20 u21 u22 u23 u24 u25 u26 u27 u28 u29 u30 u31 u32 u33 u34 u35 u36 u37 u38 u39 u40 u41 u42 u43 u44 u45 u46 u47 u48 u49 u50 u51 u52 u53 u54 u55 u56 u57 u58 u59 u60 u61 u62 u63 u64 u65 u66 u67 u68 u69 u70 u71 u72 u73 u74 u75 u76 u77 u78 u79 u80 u81 u82 u83 u84 u85 u86 : Value)
    (H3 : Hid (d.sum ≠ 0 → ∀ W tm, Below w.heap.size w W → Boxed W w.heap.size 22 (.slice none 0 0) → Boxed W (w.heap.size + 1) 26 (.int .i64 380) → tm.getD 6 undef = .pointer (some ⟨w.heap.size, 0, none⟩) → tm.getD 7 undef = .pointer (some ⟨w.heap.size + 1, 0, none⟩) → Q .ret { tmps := tm, defers := [] } W))
    (H2 : Hid (d.sum = 0 → (settleL ref d).any (fun e => decide (1000000000 < e.am)) = true → ∀ D W tm, w.heap.size + 3 ≤ D → Below w.heap.size w W → Boxed W w.heap.size 22 (.slice none 0 0) → Boxed W (w.heap.size + 1) 26 (.int .i64 2) → W.heap[D]? = some (.deferred (some [])) → tm.getD 6 undef = .pointer (some ⟨w.heap.size, 0, none⟩) → tm.getD 7 undef = .pointer (some ⟨w.heap.size + 1, 0, none⟩) → Q .ret { tmps := tm, defers := [{ target := .collected D, args := #[] }] } W))
    (H0 : Hid (d.sum = 0 → (settleL ref d).any (fun e => decide (1000000000 < e.am)) = false → ∀ D W v tm, w.heap.size + 3 ≤ D → Below w.heap.size w W → Boxed W w.heap.size 22 v → W.ownsRow (w.heap.size + 2) 34 4 v (settleL ref d).length ((settleL ref d).flatMap entCells) → Boxed W (w.heap.size + 1) 26 (.int .i64 0) → W.heap[D]? = some (.deferred (some [])) → tm.getD 6 undef = .pointer (some ⟨w.heap.size, 0, none⟩) → tm.getD 7 undef = .pointer (some ⟨w.heap.size + 1, 0, none⟩) → Q .ret { tmps := tm, defers := [{ target := .collected D, args := #[] }] } W)) :
    adjTail.wpIn Fence.wide 9 Try.prog Q { tmps := #[u0, u1, .string ref, u3, u4, u5, .pointer (some ⟨w.heap.size, 0, none⟩), .pointer (some ⟨w.heap.size + 1, 0, none⟩), u8, .int .i64 d.sum, .slice (some ⟨w.heap.size + 2, 0, none⟩) n n, u11, u12, u13, u14, u15, u16, u17, u18, u19, u20, u21, u22, u23, u24, u25, u26, u27, u28, u29, u30, u31, u32, u33, u34, u35, u36, u37, u38, u39, u40, u41, u42, u43, u44, u45, u46, u47, u48, u49, u50, u51, u52, u53, u54, u55, u56, u57, u58, u59, u60, u61, u62, u63, u64, u65, u66, u67, u68, u69, u70, u71, u72, u73, u74, u75, u76, u77, u78, u79, u80, u81, u82, u83, u84, u85, u86], defers := [] } w1 := by
  simp only [adjTail, Try.f17, Option.getD, afterLoop, loopsOf, List.isEmpty_nil, List.isEmpty_cons, if_true, if_false, List.nil_append, List.append_nil, List.cons_append, Bool.false_eq_true, ite_true, ite_false, reduceIte]
  have c6 := b6.out.cell; have c7 := b7.out.cell
  have f6 := b6.out.frozen; have f7 := b7.out.frozen
  by_cases hs : d.sum = 0
  · have Hs := hide hs
    generalize d.sum = s at *
    subst hs
    clear c6 c7 f6 f7
    gi_wp2_with (refine ⟨trivial, ?_⟩; gi_at_call 31; refine callsIn_wide.2 (settlement_c _ _ _ _ ?_ ⟨_, _, _, rfl⟩))
    have hB2 : Below w.heap.size w (((w1.alloc (.cells #[.slice none 0 0] 22)).alloc (.cells #[.slice (some ⟨w.heap.size + 2, 0, none⟩) n n] 23)).alloc (.cells #[.string ref] 9)) := balloc (balloc (balloc B1.out _) _) _
    refine adj_range _ n n w1.heap.size (w1.heap.size + 1) (w1.heap.size + 2) (w.heap.size + 2) ref d w _ rfl (by simp only [World.size_alloc]; omega) (by simp only [World.size_alloc]; omega) (by simp only [World.size_alloc]; omega) (by simp only [World.size_alloc]; omega) hgs (by omega) (by omega) Hn.out hl hbd.out (((O1.out.alloc _).alloc _).alloc _) ?c1 ?c2 ⟨⟨_, ?x1, World.ownsRow_nil _ _ _ _⟩, hB2, ?x2, ?x3, Nat.le_refl _, rfl⟩ _ _ _ _ _ _ _ _ _ _ _ _ _ _ _ _ _ _ _ _ _ _ _ _ _ _ _ _ _ _ _ _ _ _ _ _ _ _ _ _ _ _ _ _ _ _ _ _ _ _ _ _ _ _ _ _ _ _ _ _ _ _ _ _ _ _ _ _ _ _ _ _ _ _ _ _ _ _ _ _ _ _ _ (hide ?x4) (hide ?x5)
    case c1 =>
      have h := ((Boxed.new (w1.alloc (.cells #[.slice none 0 0] 22)) 23 (.slice (some ⟨w.heap.size + 2, 0, none⟩) n n)).alloc (.cells #[.string ref] 9)).cell
      rw [World.size_alloc] at h; exact h
    case c2 =>
      have h := (Boxed.new ((w1.alloc (.cells #[.slice none 0 0] 22)).alloc (.cells #[.slice (some ⟨w.heap.size + 2, 0, none⟩) n n] 23)) 9 (.string ref)).cell
      rw [World.size_alloc, World.size_alloc] at h; exact h
    case x1 => exact ((Boxed.new w1 22 (.slice none 0 0)).alloc _).alloc _
    case x2 => exact ((b6.out.alloc _).alloc _).alloc _
    case x3 => exact ((b7.out.alloc _).alloc _).alloc _
    case x4 =>
      intro D W hD hI hd
      obtain ⟨⟨v, hv, hrow⟩, hB, h6, h7, hsz, hall⟩ := hI
      simp only [World.size_alloc] at hsz hD
      have hDl := (Array.getElem?_eq_some_iff.1 hd).1
      have k6 := h6.cell; have k7 := h7.cell
      have g6 := h6.frozen; have g7 := h7.frozen
      have k12 := hv.cell
      have hd' := hide hd
      obtain ⟨vp, vc, rfl, _⟩ := own_val hrow
      have hrow' := hide hrow
      clear hrow hd
      gi_wp2
      refine H0.out (by simp) hall D _ (.slice vp _ vc) _ (by omega) (below_set (below_set hB _ 0 _ (Nat.le_refl _)) _ 0 _ (by omega)) ((h6.set _).other (by omega) _) ?_ ((h7.other (by omega) _).set _) ?_ rfl rfl
      · have hr := hrow'.out
        refine own_monoE (own_kept2 (own_kept2 hr _ 0 _ ?_) _ 0 _ ?_) (by simp; omega) <;> simp <;> omega
      · rw [Below.heap_setCell _ _ _ _ (by show D ≠ w.heap.size + 1; omega), Below.heap_setCell _ _ _ _ (by show D ≠ w.heap.size; omega)]; exact hd'.out
    case x5 =>
      intro D W hD hI hd
      obtain ⟨-, hB, h6, h7, hany⟩ := hI
      simp only [World.size_alloc] at hD
      exact H2.out (by simp) hany D W _ (by omega) hB h6 h7 hd rfl rfl
  · have hs' : (d.sum != 0) = true := by simpa using hs
    have Hs := hide hs
    clear hs
    gi_wp2
    exact H3.out Hs.out _ _ (below_set (below_set B1.out _ 0 _ (Nat.le_refl _)) _ 0 _ (by omega)) ((b6.out.set _).other (by omega) _) ((b7.out.other (by omega) _).set _) rfl rfl
end Go.Proofs.Ytajnoocjjkjfmaa
