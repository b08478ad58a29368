/- A range over an iterator that makes blocks and writes none that was there: the law. -/
import Derived.Test.YtkabghifdedmfaaGreatDoorB7
set_option linter.unusedVariables false
set_option linter.unusedSimpArgs false
namespace Go.Proofs.YtkabghifdedmfaaGreatDoor
open Go.RowKit

section
variable {F : Fence} {n : Nat} {P : Program}

theorem rangeFunc_B {α : Type} {g : Operand} {ps : Array Tmp} {assign body : Code} {Q : Exit → Act → World → Prop} {a : Act} {w : World}
    (hro : F.round = none) (h1 : 1 ≤ n) {gf : Nat} {lb : Array Value} (hg : a.eval g = .func (.func gf) #[] lb) (hFg : F.fn gf) (eg : ∀ args w, (callFunc gf args).run P w = .ok (.enter gf args) w)
    {encs : α → Array Value} {K : Nat → Prop} {Px : α → World → Prop} {S : List α → Prop} {N : Nat} (hseq : SeqB F (n - 1) P gf lb encs Px K S N w) (bad : World → Nat → Prop) (hK : ∀ k, K k → k < w.heap.size ∧ ¬ bad w k) (hps : ∀ x, (encs x).size = ps.size)
    (I : List α → World → Prop) (hI : OwnB w.heap.size I) (hIb : BadB w.heap.size I bad) (h0 : I [] w) (A : World → α → Act → World → Prop) (hA : ∀ W0 a', OwnB w.heap.size (fun x W => A W0 x a' W))
    (hassign : ∀ (l : Nat) (pre : List α) (x : α) (W : World) (K' : Act → World → Prop), I pre W → Px x W → (∀ a' W', KeepsFrom w.heap.size W W' → Kpb bad W W' → I pre W' → A W x a' W' → K' a' W') →
      assign.wpIn (F.inRound l) (n - 1 - 1) P (Exit.then K' (fun _ _ _ => False)) { tmps := (ps.zip (encs x)).foldl (fun t (p, v) => t.setIfInBounds p v) a.tmps, defers := [] } W)
    (hbody : ∀ (l : Nat) (pre : List α) (x : α) (a' : Act) (W0 W : World), I pre W → pre.length < N → A W0 x a' W → Kpb (fun W k => k = w.heap.size + 1 ∨ bad W k) W0 W →
      body.wpIn (F.inRound l) (n - 1 - 1) P (ownPostG w.heap.size (fun _ W' => Kpb (fun W k => k = w.heap.size + 1 ∨ bad W k) W0 W') I (fun _ _ _ => False) (pre ++ [x]) W) a' W)
    (hdone : ∀ (D : Nat) (xs : List α) (W : World), w.heap.size ≤ D → S xs → I xs W → W.heap[D]? = some (.deferred (some [])) → Q .normal { a with defers := { target := .collected D, args := #[] } :: a.defers } W) :
    (Code.rangeFunc g ps assign body).wpIn F n P Q a w := by
  refine wpIn_rangeFunc ?_
  intro fn hfn
  rw [hro]
  let rc : LoopState → Option Code → Loop := fun st pe => { state := st, pending := pe, fn, tmps := a.tmps, params := ps, assign, body, defers := w.heap.size }
  let B := w.heap.size
  obtain ⟨W1, hW1⟩ : ∃ W1, (w.alloc (.deferred (some []))).alloc (.loop (rc .ready none)) = W1 := ⟨_, rfl⟩
  have hL1 : W1.heap[w.heap.size + 1]? = some (.loop (rc .ready none)) := by
    rw [← hW1]; have := World.alloc_heap_new (w.alloc (.deferred (some []))) (.loop (rc .ready none)); rwa [World.size_alloc] at this
  have hD1 : W1.heap[w.heap.size]? = some (.deferred (some [])) := by
    rw [← hW1]; exact (Below.heap_alloc _ _ _ (by simp)).trans (World.alloc_heap_new w _)
  have hB1 : Below w.heap.size w W1 := by rw [← hW1]; exact ((Below.refl _ w).alloc (Nat.le_refl _) _).alloc (by simp) _
  have hg1 : w.grownBy W1 none := by rw [← hW1]; exact (World.grownBy_alloc _ _ none).trans (World.grownBy_alloc _ _ none)
  -- a step of the iterator leaves the record and the block for deferred calls
  have step : ∀ {A A' : World} {k : Nat} {o : Obj}, A.grownBy A' none → B ≤ k → A.heap[k]? = some o → A'.heap[k]? = some o := fun h hk ho =>
    (h.block _ (Array.getElem?_eq_some_iff.1 ho).1 (by simp)).trans ho
  have put : ∀ {J : List α → World → Prop}, OwnB w.heap.size J → ∀ {s : List α} {A : World} {o : Obj} (o' : Obj), J s A → A.heap[w.heap.size + 1]? = some o → o.isCells = false → J s (A.putObj (w.heap.size + 1) o') := fun hJ s A o o' hs ho hc =>
    hJ s A _ (some (w.heap.size + 1)) hs (grownBy_putObj' A _ o') (fun r e => by cases e; exact ⟨by omega, o, ho, hc⟩)
  have kput : ∀ (s : List α) (A : World) (o o' : Obj), I s A → A.heap[w.heap.size + 1]? = some o → o.isCells = false → Kpb (fun W k => k = w.heap.size + 1 ∨ bad W k) A (A.putObj (w.heap.size + 1) o') := fun s A o o' hs ho hc =>
    ⟨(grownBy_putObj' A (w.heap.size + 1) o').size, fun k hk hb => ⟨World.putObj_heap_other (fun e => hb (.inl e)), fun hh => by
      rcases hh with hh | hh
      · exact hb (.inl hh)
      · exact hb (.inr (hIb s A _ (some (w.heap.size + 1)) hs (grownBy_putObj' A _ o') (fun r e => by cases e; exact ⟨by omega, o, ho, hc⟩) k hh).1)⟩⟩
  refine ⟨w.heap.size + 1, [{ target := .collected w.heap.size, args := #[] }], W1, { target := .fn (.func gf) lb, args := #[.func (.yield (w.heap.size + 1)) #[] #[]] }, W1, gf, #[.func (.yield (w.heap.size + 1)) #[] #[]] ++ lb, W1, ?_, ?_, ?_, ?_, fun _ => h1, ?_⟩
  · rw [← hW1]; exact run_enterLoop_outer _ _ _ _ _
  · simp only [resolve, hg]; simp [go_sem]
  · intro f' hf'; simp [Target.leads] at hf'; subst hf'; exact hFg
  · simp [invoke, go_sem, eg]
  refine (hseq (w.heap.size + 1)
    (fun pre W => I pre W ∧ W.heap[w.heap.size + 1]? = some (.loop (rc .ready none)) ∧ W.heap[w.heap.size]? = some (.deferred (some [])))
    (fun W k => k = w.heap.size + 1 ∨ bad W k)
    W1 hB1 (fun s A A' hs hA => ⟨⟨hI s A A' _ hs.1 (grown_of_below hA) (fun r e => by cases e), step (grown_of_below hA) (by show w.heap.size ≤ _; omega) hs.2.1, step (grown_of_below hA) (Nat.le_refl _) hs.2.2⟩, fun k hk => by
      rcases hk with rfl | hk
      · exact ⟨.inl rfl, (Array.getElem?_eq_some_iff.1 hs.2.1).1⟩
      · obtain ⟨h1, h2⟩ := hIb s A A' none hs.1 (grown_of_below hA) (fun r e => by cases e) k hk
        exact ⟨.inr h1, h2⟩⟩)
    (fun k hk => by
      obtain ⟨h1, h2⟩ := hK k hk
      rintro (hh | hh)
      · omega
      · exact h2 (hIb [] w W1 none h0 hg1 (fun r e => by cases e) k hh).1)
    ?_ ⟨hI [] w W1 none h0 hg1 (fun r e => by cases e), hL1, hD1⟩).mono ?_
  · -- a round
    rintro pre x W0 ⟨hi0, hl0, hk0⟩ hpx hlen
    refine ⟨fn, _, assign, body, run_yield (P := P) (args := encs x) hl0 (hps x), roundIn_of_wpIn hfn (hassign _ pre x W0 _ hi0 hpx fun a' W hKO hKK hi hax => ?_)⟩
    have hl := hKO.same _ _ (Nat.le_succ _) hl0 rfl
    have hk := hKO.same _ _ (Nat.le_refl _) hk0 rfl
    refine ⟨_, run_beginRound hl rfl, ?_⟩
    have hlt : w.heap.size + 1 < W.heap.size := (Array.getElem?_eq_some_iff.1 hl).1
    have hl2 : (W.putObj (w.heap.size + 1) (.loop { rc .ready none with state := .busy })).heap[w.heap.size + 1]? = some (.loop { rc .ready none with state := .busy }) := World.putObj_heap_same hlt
    have hk2 : (W.putObj (w.heap.size + 1) (.loop { rc .ready none with state := .busy })).heap[w.heap.size]? = some (.deferred (some [])) := (World.putObj_heap_other (by omega)).trans hk
    have hax2 : A W0 x a' (W.putObj (w.heap.size + 1) (.loop { rc .ready none with state := .busy })) := hA W0 a' x W _ (some (w.heap.size + 1)) hax (grownBy_putObj' W _ _) (fun r e => by cases e; exact ⟨by omega, _, hl, rfl⟩)
    refine wpIn_mono (hbody _ pre x a' W0 _ (put hI _ hi hl rfl) hlen hax2 ((hKK.more _).trans (kput pre W _ _ hi hl rfl))) ?_
    have fin : ∀ (jump : Option Code) (W3 : World), KeepsFrom w.heap.size (W.putObj (w.heap.size + 1) (.loop { rc .ready none with state := .busy })) W3 →
        ∃ W4, (Instr.endRound (w.heap.size + 1) jump).run P W3 = .ok (.bool jump.isNone) W4 ∧ W4 = W3.putObj (w.heap.size + 1) (.loop (rc (if jump.isNone then .ready else .done) jump)) ∧
        W3.heap[w.heap.size + 1]? = some (.loop { rc .ready none with state := .busy }) ∧ W4.heap[w.heap.size + 1]? = some (.loop (rc (if jump.isNone then .ready else .done) jump)) ∧ W4.heap[w.heap.size]? = some (.deferred (some [])) := fun jump W3 h3 => by
      have hl3 := h3.same _ _ (Nat.le_succ _) hl2 rfl
      exact ⟨_, run_endRound (P := P) jump hl3, rfl, hl3, World.putObj_heap_same (Array.getElem?_eq_some_iff.1 hl3).1, (World.putObj_heap_other (by omega)).trans (h3.same _ _ (Nat.le_refl _) hk2 rfl)⟩
    rintro e a3 W3 hp
    cases e with
    | normal =>
      obtain ⟨hk3, hkp3, hi3⟩ := hp
      obtain ⟨W4, hr, rfl, hl3, hl4, hk4⟩ := fin none W3 hk3
      exact ⟨_, _, hr, rfl, ⟨put hI _ hi3 hl3 rfl, hl4, hk4⟩, hkp3.trans (kput _ W3 _ _ hi3 hl3 rfl)⟩
    | ret => exact hp.2.elim
    | exit id => exact hp.2.elim
    | goto t => exact hp.2.elim
    | panic ch => exact hp.elim
    | outgrown => exact hp.elim
  · -- behind the iterator
    rintro e W2 ⟨⟨v, rfl⟩, xs, hS, hi, hl, hk⟩
    exact ⟨none, _, run_endLoop (P := P) hl (by simp [rc]), hdone _ xs _ (Nat.le_refl _) hS (put hI _ hi hl rfl) ((World.putObj_heap_other (by omega)).trans hk)⟩
end
end Go.Proofs.YtkabghifdedmfaaGreatDoor
