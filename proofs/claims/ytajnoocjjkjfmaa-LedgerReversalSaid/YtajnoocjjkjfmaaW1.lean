/- A range over an iterator that writes cells of one block between two rounds: the caller's word. -/
import Derived.RangeFuncNested
import Derived.RangeFuncBound
import Derived.RangeFuncCalls
import Derived.RangeFuncLeaves
import Derived.RangeFuncBox
import Derived.Test.YtajnoocjjkjfmaaBase
set_option linter.unusedVariables false
set_option linter.unusedSimpArgs false
namespace Go.Proofs.Ytajnoocjjkjfmaa
open Go.RowKit

/-- The blocks of K lie as they lay. -/
def KpK (K : Nat → Prop) (A B : World) : Prop := ∀ k, K k → B.heap[k]? = A.heap[k]?
theorem KpK.refl (K : Nat → Prop) (A : World) : KpK K A A := fun _ _ => rfl
theorem KpK.trans {K : Nat → Prop} {A B C : World} (h : KpK K A B) (k : KpK K B C) : KpK K A C := fun j hj => (k j hj).trans (h j hj)

/-- An iterator that writes block gd alone, and lays blocks. -/
def SeqT {α : Type} (F : Fence) (n : Nat) (P : Program) (g : Nat) (lb : Array Value) (encs : α → Array Value) (gd : Nat) (K : Nat → Prop) (S Sp : List α → Prop) (N : Nat) (w : World) : Prop :=
  ∀ (l : Nat) (J Jx : List α → World → Prop) (W : World), Below w.heap.size w W →
    (∀ s A B, J s A → A.grownBy B (some gd) → J s B) → (∀ s A B, Jx s A → A.grownBy B (some gd) → Jx s B) →
    (∀ pre x W1, J pre W1 → pre.length < N → YieldAt F (n - 1) P l (encs x) W1 fun e W' =>
      (e = .returned (.bool true) ∧ J (pre ++ [x]) W' ∧ KpK K W1 W') ∨ (e = .returned (.bool false) ∧ Jx (pre ++ [x]) W')) →
    J [] W →
    CallsIn F n P g (#[.func (.yield l) #[] #[]] ++ lb) W fun e W' => (∃ v, e = .returned v) ∧ ((∃ xs, S xs ∧ J xs W') ∨ (∃ pre, Sp pre ∧ Jx pre W'))

/-- What the caller's word must abide: block gd's cells, and turns of objects that are no cells and lie from B on. -/
def OwnT {β : Type} (gd B : Nat) (I : β → World → Prop) : Prop :=
  ∀ s W W' row, I s W → W.grownBy W' row → (∀ r, row = some r → r = gd ∨ (B ≤ r ∧ ∃ o : Obj, W.heap[r]? = some o ∧ o.isCells = false)) → I s W'

section
variable {F : Fence} {n : Nat} {P : Program}

theorem rangeFunc_T {α : Type} {g : Operand} {ps : Array Tmp} {assign body : Code} {Q : Exit → Act → World → Prop} {a : Act} {w : World}
    (hro : F.round = none) (h1 : 1 ≤ n) {gf : Nat} {lb : Array Value} (hg : a.eval g = .func (.func gf) #[] lb) (hFg : F.fn gf) (eg : ∀ args w, (callFunc gf args).run P w = .ok (.enter gf args) w)
    {encs : α → Array Value} {gd : Nat} {K : Nat → Prop} {S Sp : List α → Prop} {N : Nat} (hseq : SeqT F (n - 1) P gf lb encs gd K S Sp N w) (hgd : gd < w.heap.size) (hK : ∀ k, K k → k < w.heap.size) (hps : ∀ x, (encs x).size = ps.size)
    (I : List α → World → Prop) (Ix : Code → List α → World → Prop) (hI : OwnT gd w.heap.size I) (hIx : ∀ c, OwnT gd w.heap.size (Ix c)) (h0 : I [] w) (A : α → Act → World → Prop) (hA : ∀ a', OwnT gd w.heap.size (fun x W => A x a' W))
    (hassign : ∀ (l : Nat) (pre : List α) (x : α) (W : World) (K' : Act → World → Prop), I pre W → (∀ a' W', KeepsOthers W W' → KpK K W W' → I pre W' → A x a' W' → K' a' W') →
      assign.wpIn (F.inRound l) (n - 1 - 1) P (Exit.then K' (fun _ _ _ => False)) { tmps := (ps.zip (encs x)).foldl (fun t (p, v) => t.setIfInBounds p v) a.tmps, defers := [] } W)
    (hbody : ∀ (l : Nat) (pre : List α) (x : α) (a' : Act) (W : World), I pre W → pre.length < N → A x a' W → body.wpIn (F.inRound l) (n - 1 - 1) P (ownPostK (KpK K) I Ix (pre ++ [x]) W) a' W)
    (hdone : ∀ (D : Nat) (xs : List α) (W : World), w.heap.size ≤ D → S xs → I xs W → W.heap[D]? = some (.deferred (some [])) → Q .normal { a with defers := { target := .collected D, args := #[] } :: a.defers } W)
    (hstop : ∀ (D : Nat) (c : Code) (pre : List α) (W : World), w.heap.size ≤ D → Sp pre → Ix c pre W → W.heap[D]? = some (.deferred (some [])) → c.wpIn F n P Q { a with defers := { target := .collected D, args := #[] } :: a.defers } W) :
    (Code.rangeFunc g ps assign body).wpIn F n P Q a w := by
  refine wpIn_rangeFunc ?_
  intro fn hfn
  rw [hro]
  let rc : LoopState → Option Code → Loop := fun st pe => { state := st, pending := pe, fn, tmps := a.tmps, params := ps, assign, body, defers := w.heap.size }
  let B := w.heap.size
  obtain ⟨W1, hW1⟩ : ∃ W1, (w.alloc (.deferred (some []))).alloc (.loop (rc .ready none)) = W1 := ⟨_, rfl⟩
  have hL1 : W1.heap[w.heap.size + 1]? = some (.loop (rc .ready none)) := by
    rw [← hW1]; have := World.alloc_heap_new (w.alloc (.deferred (some []))) (.loop (rc .ready none)); rwa [World.size_alloc] at this
  have hD1 : W1.heap[w.heap.size]? = some (.deferred (some [])) := by
    rw [← hW1]; exact (Below.heap_alloc _ _ _ (by simp)).trans (World.alloc_heap_new w _)
  have hB1 : Below w.heap.size w W1 := by rw [← hW1]; exact ((Below.refl _ w).alloc (Nat.le_refl _) _).alloc (by simp) _
  have hg1 : w.grownBy W1 none := by rw [← hW1]; exact (World.grownBy_alloc _ _ none).trans (World.grownBy_alloc _ _ none)
  -- a step of the iterator leaves the record and the block for deferred calls
  have step : ∀ {A A' : World} {k : Nat} {o : Obj}, A.grownBy A' (some gd) → B ≤ k → A.heap[k]? = some o → A'.heap[k]? = some o := fun h hk ho =>
    (h.block _ (Array.getElem?_eq_some_iff.1 ho).1 (by intro e; injection e with e; have : gd < B := hgd; omega)).trans ho
  have put : ∀ {J : List α → World → Prop}, OwnT gd w.heap.size J → ∀ {s : List α} {A : World} {o : Obj} (o' : Obj), J s A → A.heap[w.heap.size + 1]? = some o → o.isCells = false → J s (A.putObj (w.heap.size + 1) o') := fun hJ s A o o' hs ho hc =>
    hJ s A _ (some (w.heap.size + 1)) hs (grownBy_putObj' A _ o') (fun r e => by cases e; exact .inr ⟨by omega, o, ho, hc⟩)
  have kput : ∀ (A : World) (o' : Obj), KpK K A (A.putObj (w.heap.size + 1) o') := fun A o' k hk => World.putObj_heap_other (by have := hK k hk; omega)
  refine ⟨w.heap.size + 1, [{ target := .collected w.heap.size, args := #[] }], W1, { target := .fn (.func gf) lb, args := #[.func (.yield (w.heap.size + 1)) #[] #[]] }, W1, gf, #[.func (.yield (w.heap.size + 1)) #[] #[]] ++ lb, W1, ?_, ?_, ?_, ?_, fun _ => h1, ?_⟩
  · rw [← hW1]; exact run_enterLoop_outer _ _ _ _ _
  · simp only [resolve, hg]; simp [go_sem]
  · intro f' hf'; simp [Target.leads] at hf'; subst hf'; exact hFg
  · simp [invoke, go_sem, eg]
  refine (hseq (w.heap.size + 1)
    (fun pre W => I pre W ∧ W.heap[w.heap.size + 1]? = some (.loop (rc .ready none)) ∧ W.heap[w.heap.size]? = some (.deferred (some [])))
    (fun pre W => ∃ c, Ix c pre W ∧ W.heap[w.heap.size + 1]? = some (.loop (rc .done (some c))) ∧ W.heap[w.heap.size]? = some (.deferred (some [])))
    W1 hB1 (fun s A A' hs hA => ⟨hI s A A' _ hs.1 hA (fun r e => by cases e; exact .inl rfl), step hA (by show w.heap.size ≤ _; omega) hs.2.1, step hA (Nat.le_refl _) hs.2.2⟩)
    (fun s A A' hs hA => by
      obtain ⟨c, hc, hl, hk⟩ := hs
      exact ⟨c, hIx c s A A' _ hc hA (fun r e => by cases e; exact .inl rfl), step hA (by show w.heap.size ≤ _; omega) hl, step hA (Nat.le_refl _) hk⟩)
    ?_ ⟨hI [] w W1 none h0 hg1 (fun r e => by cases e), hL1, hD1⟩).mono ?_
  · -- a round
    rintro pre x W0 ⟨hi0, hl0, hk0⟩ hlen
    refine ⟨fn, _, assign, body, run_yield (P := P) (args := encs x) hl0 (hps x), roundIn_of_wpIn hfn (hassign _ pre x W0 _ hi0 fun a' W hKO hKK hi hax => ?_)⟩
    have hl := hKO.same _ _ hl0 rfl
    have hk := hKO.same _ _ hk0 rfl
    refine ⟨_, run_beginRound hl rfl, ?_⟩
    have hlt : w.heap.size + 1 < W.heap.size := (Array.getElem?_eq_some_iff.1 hl).1
    have hl2 : (W.putObj (w.heap.size + 1) (.loop { rc .ready none with state := .busy })).heap[w.heap.size + 1]? = some (.loop { rc .ready none with state := .busy }) := World.putObj_heap_same hlt
    have hk2 : (W.putObj (w.heap.size + 1) (.loop { rc .ready none with state := .busy })).heap[w.heap.size]? = some (.deferred (some [])) := (World.putObj_heap_other (by omega)).trans hk
    have hax2 : A x a' (W.putObj (w.heap.size + 1) (.loop { rc .ready none with state := .busy })) := hA a' x W _ (some (w.heap.size + 1)) hax (grownBy_putObj' W _ _) (fun r e => by cases e; exact .inr ⟨by omega, _, hl, rfl⟩)
    refine wpIn_mono (hbody _ pre x a' _ (put hI _ hi hl rfl) hlen hax2) ?_
    have fin : ∀ (jump : Option Code) (W3 : World), KeepsOthers (W.putObj (w.heap.size + 1) (.loop { rc .ready none with state := .busy })) W3 →
        ∃ W4, (Instr.endRound (w.heap.size + 1) jump).run P W3 = .ok (.bool jump.isNone) W4 ∧ W4 = W3.putObj (w.heap.size + 1) (.loop (rc (if jump.isNone then .ready else .done) jump)) ∧
        W3.heap[w.heap.size + 1]? = some (.loop { rc .ready none with state := .busy }) ∧ W4.heap[w.heap.size + 1]? = some (.loop (rc (if jump.isNone then .ready else .done) jump)) ∧ W4.heap[w.heap.size]? = some (.deferred (some [])) := fun jump W3 h3 => by
      have hl3 := h3.same _ _ hl2 rfl
      exact ⟨_, run_endRound (P := P) jump hl3, rfl, hl3, World.putObj_heap_same (Array.getElem?_eq_some_iff.1 hl3).1, (World.putObj_heap_other (by omega)).trans (h3.same _ _ hk2 rfl)⟩
    rintro e a3 W3 hp
    cases e with
    | normal =>
      obtain ⟨hk3, hkp3, hi3⟩ := hp
      obtain ⟨W4, hr, rfl, hl3, hl4, hk4⟩ := fin none W3 hk3
      exact ⟨_, _, hr, .inl ⟨rfl, ⟨put hI _ hi3 hl3 rfl, hl4, hk4⟩, ((hKK.trans (kput W _)).trans hkp3).trans (kput W3 _)⟩⟩
    | ret =>
      obtain ⟨hk3, hi3⟩ := hp
      obtain ⟨W4, hr, rfl, hl3, hl4, hk4⟩ := fin (some .ret) W3 hk3
      exact ⟨_, _, hr, .inr ⟨rfl, .ret, put (hIx _) _ hi3 hl3 rfl, hl4, hk4⟩⟩
    | exit id =>
      obtain ⟨hk3, hi3⟩ := hp
      obtain ⟨W4, hr, rfl, hl3, hl4, hk4⟩ := fin (some (.exit id)) W3 hk3
      exact ⟨_, _, hr, .inr ⟨rfl, .exit id, put (hIx _) _ hi3 hl3 rfl, hl4, hk4⟩⟩
    | goto t =>
      obtain ⟨hk3, hi3⟩ := hp
      obtain ⟨W4, hr, rfl, hl3, hl4, hk4⟩ := fin (some (.goto t)) W3 hk3
      exact ⟨_, _, hr, .inr ⟨rfl, .goto t, put (hIx _) _ hi3 hl3 rfl, hl4, hk4⟩⟩
    | panic ch => exact hp.elim
    | outgrown => exact hp.elim
  · -- behind the iterator
    rintro e W2 ⟨⟨v, rfl⟩, (⟨xs, hS, hi, hl, hk⟩ | ⟨pre, hSp, c, hi, hl, hk⟩)⟩
    · exact ⟨none, _, run_endLoop (P := P) hl (by simp [rc]), hdone _ xs _ (Nat.le_refl _) hS (put hI _ hi hl rfl) ((World.putObj_heap_other (by omega)).trans hk)⟩
    · exact ⟨some c, _, run_endLoop (P := P) hl (by simp [rc]), hstop _ c pre _ (Nat.le_refl _) hSp (put (hIx c) _ hi hl rfl) ((World.putObj_heap_other (by omega)).trans hk)⟩
end
end Go.Proofs.Ytajnoocjjkjfmaa
