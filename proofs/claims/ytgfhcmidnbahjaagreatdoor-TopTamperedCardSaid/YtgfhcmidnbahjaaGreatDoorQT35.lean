/- A range over an iterator that itself ranges over another one: what the caller holds abides the turning of records that are newer than the call. The inspector: the cut-offs of a class at an office, as an iterator over an iterator. -/
import Derived.Test.YtgfhcmidnbahjaaGreatDoorQT2
import Derived.Test.YtgfhcmidnbahjaaGreatDoorQT34
import Derived.Test.YtgfhcmidnbahjaaGreatDoorQT20
import Derived.Test.YtgfhcmidnbahjaaGreatDoorQT12
set_option linter.unusedVariables false
set_option linter.unusedSimpArgs false
namespace Go.Proofs.YtgfhcmidnbahjaaGreatDoor
open Go.RowKit
theorem kfrom_mono {B B' : Nat} {A C : World} (hB : B ≤ B') (h : KeepsFrom B A C) : KeepsFrom B' A C := ⟨h.size, fun k o hk ho hc => h.same k o (Nat.le_trans hB hk) ho hc⟩
theorem kfrom_put {B l : Nat} {A : World} (hl : l < B) (o' : Obj) : KeepsFrom B A (A.putObj l o') := ⟨(grownBy_putObj' A l o').size, fun k o hk ho hc => (World.putObj_heap_other (by omega)).trans ho⟩
def IterN {α : Type} (P : Program) (g : Nat) (lb : Array Value) (encs : α → Array Value) (xs : List α) (K : Nat → Prop) (w : World) : Prop :=
  ∀ (l : Nat) (J : List α → World → Prop) (T : World → Prop) (Pn : List PanicEntry → World → Prop) (bad : World → Nat → Prop) (W : World), Below w.heap.size w W →
    JSt J bad → OwnB W.heap.size J → BadB W.heap.size J bad → OwnB W.heap.size (fun (_ : Unit) => T) → OwnB W.heap.size Pn → (∀ k, K k → ¬ bad W k) →
    (∀ pre x post, xs = pre ++ x :: post → ∀ W1, J pre W1 → YieldAt Fence.wide 7 P l (encs x) W1 (fun e W' => KeepsFrom W.heap.size W1 W' ∧ YP J T Pn bad pre x W1 e W')) →
    J [] W → Calls P g (#[.func (.yield l) #[] #[]] ++ lb) W (IP J T Pn xs)
theorem range_coreN {α : Type} {P : Program} {fn : FuncId} {g : Operand} {ps : Array Tmp} {assign body : Code} {a : Act} {w : World} {R : Ending → World → Prop}
    {gf : Nat} {lb : Array Value} (hg : a.eval g = .func (.func gf) #[] lb) (eg : ∀ args w, (callFunc gf args).run P w = .ok (.enter gf args) w)
    {encs : α → Array Value} {xs : List α} {K : Nat → Prop} (hit : IterN P gf lb encs xs K w) (bad : World → Nat → Prop) (hK : ∀ k, K k → k < w.heap.size ∧ ¬ bad w k) (hps : ∀ x, (encs x).size = ps.size)
    (I : List α → World → Prop) (Tx : Code → World → Prop) (Pn : List PanicEntry → World → Prop) (hI : OwnB w.heap.size I) (hIb : BadB w.heap.size I bad) (hTx : ∀ c, OwnB w.heap.size (fun (_ : Unit) => Tx c))
    (hPo : OwnB w.heap.size Pn) (hPn : ∀ ch W, Pn ch W → ∃ F, P.funcs[fn]? = some F) (h0 : I [] w)
    (hround : ∀ (l : Nat) (pre : List α) (x : α) (post : List α), xs = pre ++ x :: post → ∀ (W : World), I pre W → ∀ K' : Act → World → Prop,
      (∀ a1 W1, KeepsFrom w.heap.size W W1 → Kpb bad W W1 → I pre W1 → (∀ W2, Bump w.heap.size W1 W2 → I pre W2 → body.wpIn (Fence.wide.inRound l) 6 P (RP w.heap.size I Tx Pn bad pre x W2) a1 W2) → K' a1 W1) →
      assign.wpIn (Fence.wide.inRound l) 6 P (Exit.then K' (fun _ _ _ => False)) { tmps := (ps.zip (encs x)).foldl (fun t (p, v) => t.setIfInBounds p v) a.tmps, defers := [] } W)
    (hdone : ∀ (l D : Nat) (W : World), w.heap.size ≤ D → I xs W → W.heap[D]? = some (.deferred (some [])) → ∀ W', (Instr.endLoop l).run P W = .ok none W' → I xs W' → W'.heap[D]? = some (.deferred (some [])) → D = w.heap.size → l = w.heap.size + 1 → R (.returned undef) W)
    (hstop : ∀ (l D : Nat) (c : Code) (W : World), w.heap.size ≤ D → Tx c W → ∀ W', (Instr.endLoop l).run P W = .ok (some c) W' → Tx c W' → W'.heap[D]? = some (.deferred (some [])) → D = w.heap.size → l = w.heap.size + 1 → R (.returned undef) W)
    (hpanic : ∀ (ch : List PanicEntry) (W : World), Pn ch W → W.heap[w.heap.size]? = some (.deferred (some [])) → R (.panicked ch) W)
    (hR : ∀ v v' W, R (.returned v) W → R (.returned v') W) :
    ∃ w₁ w₂, (Instr.enterLoop fn a.tmps ps assign body none).run P w = .ok (w.heap.size + 1, [{ target := .collected w.heap.size, args := #[] }]) w₁ ∧
      (resolve a.eval (rangeCall g (w.heap.size + 1)) 0).run P w₁ = .ok { target := .fn (.func gf) lb, args := #[.func (.yield (w.heap.size + 1)) #[] #[]] } w₁ ∧
      (invoke (.fn (.func gf) lb) #[.func (.yield (w.heap.size + 1)) #[] #[]]).run P w₁ = .ok (.enter gf (#[.func (.yield (w.heap.size + 1)) #[] #[]] ++ lb)) w₂ ∧
      Calls P gf (#[.func (.yield (w.heap.size + 1)) #[] #[]] ++ lb) w₂ R := by
  let rc : LoopState → Option Code → Loop := fun st pe => { state := st, pending := pe, fn, tmps := a.tmps, params := ps, assign, body, defers := w.heap.size }
  obtain ⟨W1, hW1⟩ : ∃ W1, (w.alloc (.deferred (some []))).alloc (.loop (rc .ready none)) = W1 := ⟨_, rfl⟩
  have hL1 : W1.heap[w.heap.size + 1]? = some (.loop (rc .ready none)) := by
    rw [← hW1]; have := World.alloc_heap_new (w.alloc (.deferred (some []))) (.loop (rc .ready none)); rwa [World.size_alloc] at this
  have hD1 : W1.heap[w.heap.size]? = some (.deferred (some [])) := by
    rw [← hW1]; exact (Below.heap_alloc _ _ _ (by simp)).trans (World.alloc_heap_new w _)
  have hB1 : Below w.heap.size w W1 := by rw [← hW1]; exact ((Below.refl _ w).alloc (Nat.le_refl _) _).alloc (by simp) _
  have hg1 : w.grownBy W1 none := by rw [← hW1]; exact (World.grownBy_alloc _ _ none).trans (World.grownBy_alloc _ _ none)
  have step : ∀ {A A' : World} {k : Nat} {o : Obj}, A.grownBy A' none → A.heap[k]? = some o → A'.heap[k]? = some o := fun h ho =>
    (h.block _ (Array.getElem?_eq_some_iff.1 ho).1 (by simp)).trans ho
  have hsz1 : W1.heap.size = w.heap.size + 2 := by rw [← hW1]; simp [World.size_alloc]
  have stay : ∀ {A A' : World} {row : Option Nat} {k : Nat} {o : Obj}, A.grownBy A' row → (∀ r, row = some r → W1.heap.size ≤ r ∧ ∃ o : Obj, A.heap[r]? = some o ∧ o.isCells = false) → k < W1.heap.size → A.heap[k]? = some o → A'.heap[k]? = some o := fun {A A' row k o} hg hr hk ho =>
    (hg.block k (Array.getElem?_eq_some_iff.1 ho).1 (fun e => by have := (hr k e.symm).1; omega)).trans ho
  have put : ∀ {β : Type} {J : β → World → Prop}, OwnB w.heap.size J → ∀ {s : β} {A : World} {o : Obj} (o' : Obj), J s A → A.heap[w.heap.size + 1]? = some o → o.isCells = false → J s (A.putObj (w.heap.size + 1) o') := fun hJ s A o o' hs ho hc =>
    hJ s A _ (some (w.heap.size + 1)) hs (grownBy_putObj' A _ o') (fun r e => by cases e; exact ⟨by omega, o, ho, hc⟩)
  have kput : ∀ (s : List α) (A : World) (o o' : Obj), I s A → A.heap[w.heap.size + 1]? = some o → o.isCells = false → Kpb (fun W k => k = w.heap.size + 1 ∨ bad W k) A (A.putObj (w.heap.size + 1) o') := fun s A o o' hs ho hc =>
    ⟨(grownBy_putObj' A (w.heap.size + 1) o').size, fun k hk hb => ⟨World.putObj_heap_other (fun e => hb (.inl e)), fun hh => by
      rcases hh with hh | hh
      · exact hb (.inl hh)
      · exact hb (.inr (hIb s A _ (some (w.heap.size + 1)) hs (grownBy_putObj' A _ o') (fun r e => by cases e; exact ⟨by omega, o, ho, hc⟩) k hh).1)⟩⟩
  refine ⟨W1, W1, ?_, ?_, ?_, ?_⟩
  · rw [← hW1]; exact run_enterLoop_outer _ _ _ _ _
  · simp only [resolve, hg]; simp [go_sem]
  · simp [invoke, go_sem, eg]
  refine (hit (w.heap.size + 1)
    (fun pre W => I pre W ∧ W.heap[w.heap.size + 1]? = some (.loop (rc .ready none)) ∧ W.heap[w.heap.size]? = some (.deferred (some [])))
    (fun W => ∃ c, Tx c W ∧ W.heap[w.heap.size + 1]? = some (.loop (rc .done (some c))) ∧ W.heap[w.heap.size]? = some (.deferred (some [])))
    (fun ch W => Pn ch W ∧ W.heap[w.heap.size]? = some (.deferred (some [])))
    (fun W k => k = w.heap.size + 1 ∨ bad W k)
    W1 hB1 (fun s A A' hs hA => ⟨⟨hI s A A' _ hs.1 (grown_of_below hA) (fun r e => by cases e), step (grown_of_below hA) hs.2.1, step (grown_of_below hA) hs.2.2⟩, fun k hk => by
      rcases hk with rfl | hk
      · exact ⟨.inl rfl, (Array.getElem?_eq_some_iff.1 hs.2.1).1⟩
      · obtain ⟨h1, h2⟩ := hIb s A A' none hs.1 (grown_of_below hA) (fun r e => by cases e) k hk
        exact ⟨.inr h1, h2⟩⟩)
    (fun s A A' row hs hg hr => ⟨hI s A A' row hs.1 hg (fun r e => ⟨by have := (hr r e).1; omega, (hr r e).2⟩), stay hg hr (by omega) hs.2.1, stay hg hr (by omega) hs.2.2⟩)
    (fun s A A' row hs hg hr k hk => by
      rcases hk with rfl | hk
      · exact ⟨.inl rfl, (Array.getElem?_eq_some_iff.1 hs.2.1).1⟩
      · obtain ⟨h1, h2⟩ := hIb s A A' row hs.1 hg (fun r e => ⟨by have := (hr r e).1; omega, (hr r e).2⟩) k hk
        exact ⟨.inr h1, h2⟩)
    (fun _ A A' row hs hg hr => by
      obtain ⟨c, h1, h2, h3⟩ := hs
      exact ⟨c, hTx c () A A' row h1 hg (fun r e => ⟨by have := (hr r e).1; omega, (hr r e).2⟩), stay hg hr (by omega) h2, stay hg hr (by omega) h3⟩)
    (fun ch A A' row hs hg hr => ⟨hPo ch A A' row hs.1 hg (fun r e => ⟨by have := (hr r e).1; omega, (hr r e).2⟩), stay hg hr (by omega) hs.2⟩)
    (fun k hk => by
      obtain ⟨h1, h2⟩ := hK k hk
      rintro (hh | hh)
      · omega
      · exact h2 (hIb [] w W1 none h0 hg1 (fun r e => by cases e) k hh).1)
    ?_ ⟨hI [] w W1 none h0 hg1 (fun r e => by cases e), hL1, hD1⟩).mono ?_
  · -- a round
    rintro pre x post hx W0 ⟨hi0, hl0, hk0⟩
    refine ⟨fn, _, assign, body, run_yield (P := P) (args := encs x) hl0 (hps x), roundIn_any (n := 6) (round_of (∃ F, P.funcs[fn]? = some F) id (hround _ pre x post hx W0 hi0 _ (fun a' W hKO hKK hi hbody => ?_)))⟩
    have hl := hKO.same _ _ (Nat.le_succ _) hl0 rfl
    have hk := hKO.same _ _ (Nat.le_refl _) hk0 rfl
    refine ⟨_, run_beginRound hl rfl, ?_⟩
    have hlt : w.heap.size + 1 < W.heap.size := (Array.getElem?_eq_some_iff.1 hl).1
    have hl2 : (W.putObj (w.heap.size + 1) (.loop { rc .ready none with state := .busy })).heap[w.heap.size + 1]? = some (.loop { rc .ready none with state := .busy }) := World.putObj_heap_same hlt
    have hk2 : (W.putObj (w.heap.size + 1) (.loop { rc .ready none with state := .busy })).heap[w.heap.size]? = some (.deferred (some [])) := (World.putObj_heap_other (by omega)).trans hk
    refine wpIn_mono (hbody _ ⟨w.heap.size + 1, _, by omega, hl, rfl, grownBy_putObj' W _ _⟩ (put hI _ hi hl rfl)) ?_
    have fin : ∀ (jump : Option Code) (W3 : World), KeepsFrom w.heap.size (W.putObj (w.heap.size + 1) (.loop { rc .ready none with state := .busy })) W3 →
        ∃ W4, (Instr.endRound (w.heap.size + 1) jump).run P W3 = .ok (.bool jump.isNone) W4 ∧ W4 = W3.putObj (w.heap.size + 1) (.loop (rc (if jump.isNone then .ready else .done) jump)) ∧
        W3.heap[w.heap.size + 1]? = some (.loop { rc .ready none with state := .busy }) ∧ W4.heap[w.heap.size + 1]? = some (.loop (rc (if jump.isNone then .ready else .done) jump)) ∧ W4.heap[w.heap.size]? = some (.deferred (some [])) := fun jump W3 h3 => by
      have hl3 := h3.same _ _ (Nat.le_succ _) hl2 rfl
      exact ⟨_, run_endRound (P := P) jump hl3, rfl, hl3, World.putObj_heap_same (Array.getElem?_eq_some_iff.1 hl3).1, (World.putObj_heap_other (by omega)).trans (h3.same _ _ (Nat.le_refl _) hk2 rfl)⟩
    have kf : ∀ (o' : Obj) (W3 : World), KeepsFrom w.heap.size (W.putObj (w.heap.size + 1) (.loop { rc .ready none with state := .busy })) W3 → KeepsFrom W1.heap.size W0 (W3.putObj (w.heap.size + 1) o') := fun o' W3 h3 =>
      ((kfrom_mono (by omega) hKO).trans (kfrom_put (by omega) _)).trans ((kfrom_mono (by omega) h3).trans (kfrom_put (by omega) _))
    have kf0 : ∀ (W3 : World), KeepsFrom w.heap.size (W.putObj (w.heap.size + 1) (.loop { rc .ready none with state := .busy })) W3 → KeepsFrom W1.heap.size W0 W3 := fun W3 h3 =>
      ((kfrom_mono (by omega) hKO).trans (kfrom_put (by omega) _)).trans (kfrom_mono (by omega) h3)
    rintro e a3 W3 hp
    cases e with
    | normal =>
      obtain ⟨hk3, hkp3, hi3⟩ := hp
      obtain ⟨W4, hr, rfl, hl3, hl4, hk4⟩ := fin none W3 hk3
      exact ⟨_, _, hr, kf _ _ hk3, .inl ⟨rfl, ⟨put hI _ hi3 hl3 rfl, hl4, hk4⟩, ((hKK.more _).trans (kput pre W _ _ hi hl rfl)).trans ((hkp3.more _).trans (kput _ W3 _ _ hi3 hl3 rfl))⟩⟩
    | ret =>
      obtain ⟨W4, hr, rfl, hl3, hl4, hk4⟩ := fin (some .ret) W3 hp.1
      exact ⟨_, _, hr, kf _ _ hp.1, .inr ⟨rfl, .ret, put (hTx _) (s := ()) _ hp.2 hl3 rfl, hl4, hk4⟩⟩
    | exit id =>
      obtain ⟨W4, hr, rfl, hl3, hl4, hk4⟩ := fin (some (.exit id)) W3 hp.1
      exact ⟨_, _, hr, kf _ _ hp.1, .inr ⟨rfl, .exit id, put (hTx _) (s := ()) _ hp.2 hl3 rfl, hl4, hk4⟩⟩
    | goto t =>
      obtain ⟨W4, hr, rfl, hl3, hl4, hk4⟩ := fin (some (.goto t)) W3 hp.1
      exact ⟨_, _, hr, kf _ _ hp.1, .inr ⟨rfl, .goto t, put (hTx _) (s := ()) _ hp.2 hl3 rfl, hl4, hk4⟩⟩
    | panic ch => exact ⟨hPn ch W3 hp.2.2, hp.1, kf0 _ hp.2.1, hp.2.2, hp.2.1.same _ _ (Nat.le_refl _) hk2 rfl⟩
    | outgrown => exact hp.elim
  · -- behind the iterator
    rintro e W2 hh
    cases e with
    | outgrown => exact hh.elim
    | panicked ch => exact hpanic ch W2 hh.1 hh.2
    | returned v =>
      rcases hh with ⟨hi, hl, hk⟩ | ⟨c, hi, hl, hk⟩
      · exact hR _ _ _ (hdone _ _ W2 (Nat.le_refl _) hi hk _ (run_endLoop (P := P) hl (by simp [rc])) (put hI _ hi hl rfl) ((World.putObj_heap_other (by omega)).trans hk) rfl rfl)
      · exact hR _ _ _ (hstop _ _ c W2 (Nat.le_refl _) hi _ (run_endLoop (P := P) hl (by simp [rc])) (put (hTx c) (s := ()) _ hi hl rfl) ((World.putObj_heap_other (by omega)).trans hk) rfl rfl)
theorem rangeFunc_PN {α : Type} {P : Program} {f0 : FuncId} {F0 : Func} (hf0 : P.funcs[f0]? = some F0) {g : Operand} {ps : Array Tmp} {assign body : Code} {Q : Exit → Act → World → Prop} {a : Act} {w : World}
    {gf : Nat} {lb : Array Value} (hg : a.eval g = .func (.func gf) #[] lb) (eg : ∀ args w, (callFunc gf args).run P w = .ok (.enter gf args) w)
    {encs : α → Array Value} {xs : List α} {K : Nat → Prop} (hit : IterN P gf lb encs xs K w) (bad : World → Nat → Prop) (hK : ∀ k, K k → k < w.heap.size ∧ ¬ bad w k) (hps : ∀ x, (encs x).size = ps.size)
    (I : List α → World → Prop) (Tx : Code → World → Prop) (Pn : List PanicEntry → World → Prop) (hI : OwnB w.heap.size I) (hIb : BadB w.heap.size I bad) (hTx : ∀ c, OwnB w.heap.size (fun (_ : Unit) => Tx c)) (hPo : OwnB w.heap.size Pn) (h0 : I [] w)
    (hround : ∀ (l : Nat) (pre : List α) (x : α) (post : List α), xs = pre ++ x :: post → ∀ (W : World), I pre W → ∀ K' : Act → World → Prop,
      (∀ a1 W1, KeepsFrom w.heap.size W W1 → Kpb bad W W1 → I pre W1 → (∀ W2, Bump w.heap.size W1 W2 → I pre W2 → body.wpIn (Fence.wide.inRound l) 6 P (RP w.heap.size I Tx Pn bad pre x W2) a1 W2) → K' a1 W1) →
      assign.wpIn (Fence.wide.inRound l) 6 P (Exit.then K' (fun _ _ _ => False)) { tmps := (ps.zip (encs x)).foldl (fun t (p, v) => t.setIfInBounds p v) a.tmps, defers := [] } W)
    (hdone : ∀ (D : Nat) (W : World), w.heap.size ≤ D → I xs W → W.heap[D]? = some (.deferred (some [])) → Q .normal { a with defers := { target := .collected D, args := #[] } :: a.defers } W)
    (hstop : ∀ (D : Nat) (c : Code) (W : World), w.heap.size ≤ D → Tx c W → W.heap[D]? = some (.deferred (some [])) → wpAt f0 P c Q { a with defers := { target := .collected D, args := #[] } :: a.defers } W)
    (hpanic : ∀ (D : Nat) (ch : List PanicEntry) (W : World), w.heap.size ≤ D → Pn ch W → W.heap[D]? = some (.deferred (some [])) → Q (.panic ch) { a with defers := { target := .collected D, args := #[] } :: a.defers } W) :
    wpAt f0 P (Code.rangeFunc g ps assign body) Q a w := by
  refine wpAt_rangeFunc ?_
  obtain ⟨w₁, w₂, h1, h2, h3, h4⟩ := range_coreN (fn := f0) (R := rangePostAt f0 P (w.heap.size + 1) Q { a with defers := { target := .collected w.heap.size, args := #[] } :: a.defers }) hg eg hit bad hK hps I Tx Pn hI hIb hTx hPo (fun _ _ _ => ⟨_, hf0⟩) h0 hround
    (fun l D W hD hi hk W' he hi' hk' hDe hle => by subst hDe; subst hle; exact ⟨none, W', he, hdone _ W' hD hi' hk'⟩)
    (fun l D c W hD hi W' he hi' hk' hDe hle => by subst hDe; subst hle; exact ⟨some c, W', he, hstop _ c W' hD hi' hk'⟩)
    (fun ch W hp hk => hpanic _ ch W (Nat.le_refl _) hp hk) (fun v v' W h => h)
  exact ⟨_, _, w₁, _, w₁, gf, _, w₂, h1, h2, h3, h4⟩
end Go.Proofs.YtgfhcmidnbahjaaGreatDoor
namespace Go.Proofs.YtgfhcmidnbahjaaGreatDoor
open Go.RowKit Go.Shelf
attribute [local go_sem] Oper.semAt_some run_store_func
structure IuI (N : Net) (P : Pln) (gv gn gp gr k o g : Nat) (W : World) : Prop where
  b0 : Blk W g #[.pointer (some ⟨gv, 0, none⟩)] 152
  b1 : Blk W (g + 1) #[.int .i64 (k : Int)] 3
  b2 : Blk W (g + 2) #[.int .i64 (o : Int)] 3
  pv : Blk W gv #[.pointer (some ⟨gn, 0, none⟩), .pointer (some ⟨gp, 0, none⟩), .pointer (some ⟨gr, 0, none⟩)] 154
  net : Blk W gn N.cells 29
  pln : Blk W gp P.cells.toArray 39
  nn : NetAt W N
def IuK (N : Net) (gv gn gp g : Nat) (j : Nat) : Prop := (g ≤ j ∧ j ≤ g + 2) ∨ j = gv ∨ j = gn ∨ j = gp ∨ NetBlk N j
section
variable {N : Net} {P : Pln} {gv gn gp gr k o g : Nat} {W W' : World}
theorem IuI.next (h : IuI N P gv gn gp gr k o g W) (hb : Below W.heap.size W W') : IuI N P gv gn gp gr k o g W' := ⟨h.b0.next hb, h.b1.next hb, h.b2.next hb, h.pv.next hb, h.net.next hb, h.pln.next hb, h.nn.next hb⟩
theorem IuI.kpb {bad : World → Nat → Prop} (h : IuI N P gv gn gp gr k o g W) (hk : Kpb bad W W') (hb : ∀ j, IuK N gv gn gp g j → ¬ bad W j) : IuI N P gv gn gp gr k o g W' :=
  ⟨h.b0.kpb hk (hb _ (.inl ⟨by omega, by omega⟩)), h.b1.kpb hk (hb _ (.inl ⟨by omega, by omega⟩)), h.b2.kpb hk (hb _ (.inl ⟨by omega, by omega⟩)),
   h.pv.kpb hk (hb _ (.inr (.inl rfl))), h.net.kpb hk (hb _ (.inr (.inr (.inl rfl)))), h.pln.kpb hk (hb _ (.inr (.inr (.inr (.inl rfl))))), h.nn.kpb hk (fun j e => hb j (.inr (.inr (.inr (.inr e)))))⟩
theorem IuI.own {row : Option Nat} {B : Nat} (h : IuI N P gv gn gp gr k o g W) (hg : W.grownBy W' row) (hr : ∀ r, row = some r → B ≤ r ∧ ∃ o : Obj, W.heap[r]? = some o ∧ o.isCells = false) : IuI N P gv gn gp gr k o g W' :=
  ⟨h.b0.own hg hr, h.b1.own hg hr, h.b2.own hg hr, h.pv.own hg hr, h.net.own hg hr, h.pln.own hg hr, h.nn.keep (keeps_own hg hr)⟩
theorem IuI.lt (h : IuI N P gv gn gp gr k o g W) {j : Nat} (hj : IuK N gv gn gp g j) : j < W.heap.size := by
  rcases hj with ⟨ha, hb⟩ | rfl | rfl | rfl | e
  · have := h.b2.lt; omega
  · exact h.pv.lt
  · exact h.net.lt
  · exact h.pln.lt
  · exact h.nn.lt e
theorem IuI.s (h : IuI N P gv gn gp gr k o g W) : CuS g gv gp P.fr P.till W := ⟨h.b0.cell (k := 0) rfl, h.pv.cell (k := 1) rfl, h.pln.cell (k := 0) rfl, h.pln.cell (k := 1) rfl⟩
end
set_option maxRecDepth 100000 in
set_option maxHeartbeats 2000000 in
theorem icalOf2_c (N : Net) (P : Pln) (gv gn gp gr k o g s ci : Nat) (of : Off) (c : Cal) (w : World) (R) (hI : IuI N P gv gn gp gr k o g w) (hX : OffX N s ci of c)
    (hR : ∀ b oo w', Below w.heap.size w w' → (∀ X, NetAt X N → IcAt b oo c X) → NetBlk N b → (∀ j, CalBlk c j → NetBlk N j) → R (.returned (.pointer (some ⟨b, oo, none⟩))) w') : Calls Tryz.prog 156 #[.pointer (some ⟨gv, 0, none⟩), .int .i64 (s : Int)] w R := by
  have HR := hide hR
  have hs := (List.getElem?_eq_some_iff.1 hX.off).1
  have hk := (List.getElem?_eq_some_iff.1 hX.c).1
  obtain ⟨b2, o2, o', hp2, ho', _, _, _, m2, _⟩ := hI.nn.off_ hs
  rw [hX.off] at ho'; injection ho' with ho'; subst ho'
  obtain ⟨b3, o3, c', hp3, hc', hd, d0, d1, d2⟩ := hI.nn.cal_ hk
  rw [hX.c] at hc'; injection hc' with hc'; subst hc'
  have HC : Hid (∀ X, NetAt X N → IcAt b3 (o3 + ci * 3) c X) := hide (fun X hX' => by
    obtain ⟨b3', o3', c', hp', hc', hd, d0, d1, d2⟩ := hX'.cal_ hk
    rw [hp3] at hp'; injection hp' with hp'; injection hp' with e1 e2; subst e1; subst e2
    rw [hX.c] at hc'; injection hc' with hc'; subst hc'
    exact ⟨d0, d1, d2, hd⟩)
  have HN1 : Hid (NetBlk N b3) := hide (.inl ⟨by omega, o3, hp3⟩)
  have HN2 : Hid (∀ j, CalBlk c j → NetBlk N j) := hide (fun j h => .inr (.inl ⟨c, List.mem_of_getElem? hX.c, h⟩))
  rw [hX.cal] at m2
  have v0 := hI.pv.cell (k := 0) rfl
  have x0 := hI.net.cell (k := 0) (v := .slice N.cp N.cals.length N.cc) rfl; have x3 := hI.net.cell (k := 3) (v := .slice N.fp N.offs.length N.fc) rfl
  rw [hp3] at x0; rw [hp2] at x3
  have q3 : (0 : Int) ≤ (s : Int) := by omega
  have q4 : (s : Int) < (N.offs.length : Int) := by omega
  have q5 : (0 : Int) ≤ (ci : Int) := by omega
  have q6 : (ci : Int) < (N.cals.length : Int) := by omega
  clear hR hI hs hk hX hp2 hp3 d0 d1 d2 hd
  go_enter Tryz.func156, Tryz.ntmps156
  go_wp2
  go_quiet (fail)
  go_wp2
  exact HR.out _ _ _ (below_drewN' (Below.refl _ _) _) HC.out HN1.out HN2.out
set_option maxRecDepth 100000 in
theorem icutoffs_c (N : Net) (P : Pln) (gv gn gp gr k o : Nat) (w : World) (R) (h1 : Blk w gv #[.pointer (some ⟨gn, 0, none⟩), .pointer (some ⟨gp, 0, none⟩), .pointer (some ⟨gr, 0, none⟩)] 154) (h2 : Blk w gn N.cells 29) (h3 : Blk w gp P.cells.toArray 39) (hN : NetAt w N)
    (hR : ∀ w', Below w.heap.size w w' → IuI N P gv gn gp gr k o w.heap.size w' → w'.heap.size = w.heap.size + 3 →
      R (.returned (.func (.func 155) #[] #[.pointer (some ⟨w.heap.size, 0, none⟩), .pointer (some ⟨w.heap.size + 2, 0, none⟩), .pointer (some ⟨w.heap.size + 1, 0, none⟩)])) w') :
    Calls Tryz.prog 103 #[.pointer (some ⟨gv, 0, none⟩), .int .i64 (k : Int), .int .i64 (o : Int)] w R := by
  obtain ⟨w1, hw1⟩ : ∃ w1, ((w.alloc (.cells #[.pointer (some ⟨gv, 0, none⟩)] 152)).alloc (.cells #[.int .i64 (k : Int)] 3)).alloc (.cells #[.int .i64 (o : Int)] 3) = w1 := ⟨_, rfl⟩
  have hb1 : Below w.heap.size w w1 := hw1 ▸ balloc (balloc (balloc (Below.refl _ _) _) _) _
  have hI : IuI N P gv gn gp gr k o w.heap.size w1 := by
    refine ⟨?_, ?_, ?_, h1.next hb1, h2.next hb1, h3.next hb1, hN.next hb1⟩ <;> rw [← hw1] <;> repeat (first | exact Blk.new_at (by simp) | refine Blk.alloc ?_ _)
  have HF := hide (hR w1 hb1 hI (by rw [← hw1]; simp))
  clear hR h1 h2 h3 hN hb1 hI
  go_enter Tryz.func103, Tryz.ntmps103
  go_wp2
  exact HF.out
def cutsD (c : Cal) (cut fr till : Int) (ds : List Int) : List Int := (ds.map fun d => timeOf c d cut).filter fun x => decide (1440 * fr ≤ x) && decide (x < 1440 * till)
theorem cutsD_app (c : Cal) (cut fr till : Int) (ds es : List Int) : cutsD c cut fr till (ds ++ es) = cutsD c cut fr till ds ++ cutsD c cut fr till es := by unfold cutsD; rw [List.map_append, List.filter_append]
theorem cutsD_one (c : Cal) (cut fr till d : Int) : cutsD c cut fr till [d] = if 1440 * fr ≤ timeOf c d cut ∧ timeOf c d cut < 1440 * till then [timeOf c d cut] else [] := by
  unfold cutsD
  simp only [List.map_cons, List.map_nil, List.filter_cons, List.filter_nil]
  by_cases h1 : 1440 * fr ≤ timeOf c d cut <;> by_cases h2 : timeOf c d cut < 1440 * till <;> simp [h1, h2]
theorem cutsI_D (c : Cal) (cut fr till : Int) : cutsI c cut fr till = cutsD c cut fr till (daysF c (fr - 1) (till + 3 - fr).toNat) := rfl
structure IuJ (N : Net) (P : Pln) (gv gn gp gr k o g B E g5 a6 a7 bc oc : Nat) (fr till : Int) (l : Nat) (bad : World → Nat → Prop) (W : World) : Prop where
  iu : IuI N P gv gn gp gr k o g W
  k4 : Blk W B #[.func (.yield l) #[] #[]] 100
  k5 : Blk W g5 #[.pointer (some ⟨bc, oc, none⟩)] 212
  k6 : Blk W a6 #[.int .i64 (1440 * fr)] 3
  k7 : Blk W a7 #[.int .i64 (1440 * till)] 3
  sz : E ≤ W.heap.size
  nb : ∀ j, (IuK N gv gn gp g j ∨ (B ≤ j ∧ j < E)) → ¬ bad W j
theorem IuJ.keep {N : Net} {P : Pln} {gv gn gp gr k o g B E g5 a6 a7 bc oc : Nat} {fr till : Int} {l : Nat} {bad : World → Nat → Prop} {W W' : World} (h : IuJ N P gv gn gp gr k o g B E g5 a6 a7 bc oc fr till l bad W) (hk : Kpb bad W W')
    (h4 : B < E) (h5 : B ≤ g5 ∧ g5 < E) (h6 : B ≤ a6 ∧ a6 < E) (h7 : B ≤ a7 ∧ a7 < E) : IuJ N P gv gn gp gr k o g B E g5 a6 a7 bc oc fr till l bad W' :=
  ⟨h.iu.kpb hk (fun j hj => h.nb j (.inl hj)), h.k4.kpb hk (h.nb _ (.inr ⟨Nat.le_refl _, h4⟩)), h.k5.kpb hk (h.nb _ (.inr h5)), h.k6.kpb hk (h.nb _ (.inr h6)), h.k7.kpb hk (h.nb _ (.inr h7)), Nat.le_trans h.sz hk.1,
   fun j hj => (hk.2 j (by rcases hj with hj | hj
                           · exact h.iu.lt hj
                           · have := h.sz; omega) (h.nb j hj)).2⟩
set_option maxRecDepth 100000 in
set_option maxHeartbeats 8000000 in
theorem icutoffs_it (N : Net) (P : Pln) (gv gn gp gr k o g : Nat) (w : World) (hI : IuI N P gv gn gp gr k o g w) (hS : Snd N) (hk : k < N.clss.length) (ho : o < N.offs.length) (h1 : 0 ≤ P.fr) (h2 : P.fr < P.till) (h3 : P.till ≤ 600) :
    IterN Tryz.prog 155 #[.pointer (some ⟨g, 0, none⟩), .pointer (some ⟨g + 2, 0, none⟩), .pointer (some ⟨g + 1, 0, none⟩)] (fun x : Int => #[.int .i64 x]) (cutsI (calOf N o) (clsOf N k).cut P.fr P.till) (IuK N gv gn gp g) w := by
  intro l J T Pn bad W hbW hJs hJo hJb hTo hPo hK hY h0
  have HJs := hide hJs; have HJo := hide hJo; have HJb := hide hJb; have HTo := hide hTo; have HPo := hide hPo; have HJ0 := hide h0; have HK := hide hK
  have HI := hide (hI.next hbW)
  obtain ⟨ci, of, c, hX, _⟩ := hS.offX ho
  have HX := hide hX
  have Hc := hide (hX.ok hS)
  obtain ⟨Kc, hKc⟩ : ∃ Kc, N.clss[k]? = some Kc := ⟨_, List.getElem?_eq_getElem hk⟩
  have hPk := clsP_of (hS.cls k hk)
  rw [getD_some hKc] at hPk
  have hcut := hPk.cut
  have hKo : clsOf N (k : Int) = Kc := by unfold clsOf; rw [show ((k : Int)).toNat = k by omega, getD_some hKc]
  rw [hX.calOf, hKo] at hY ⊢
  have HY := hide hY; have HKc := hide hKc
  obtain ⟨fr, hfr⟩ : ∃ fr, P.fr = fr := ⟨_, rfl⟩
  obtain ⟨till, htl⟩ : ∃ till, P.till = till := ⟨_, rfl⟩
  have Hfr := hide hfr; have Htl := hide htl
  rw [hfr] at h1 h2 HY; rw [htl] at h2 h3 HY
  rw [hfr, htl]
  have x0 := HI.out.b0.cell (k := 0) rfl; have x2 := HI.out.b2.cell (k := 0) rfl
  clear hJs hJo hJb hTo hPo hK hY h0 hI hX hKc hPk hKo hfr htl hS
  refine calls_of_wpAt Tryz.func155 rfl ?_
  simp only [Tryz.ntmps155, List.size_toArray, List.length_cons, List.length_nil, Nat.reduceAdd, Nat.reduceSub, Array.replicate_succ, Array.replicate_zero, List.push_toArray, List.append_toArray, List.nil_append, List.cons_append]
  obtain ⟨w1, hw1⟩ : ∃ w1, W.alloc (.cells #[.func (.yield l) #[] #[]] 100) = w1 := ⟨_, rfl⟩
  refine wpAt_seq (wpAt_of_wp ?_)
  go_wp2
  have hb1 : Below W.heap.size W w1 := hw1 ▸ balloc (Below.refl _ _) _
  have k4 : Blk w1 W.heap.size #[.func (.yield l) #[] #[]] 100 := hw1 ▸ Blk.new _ _ _
  have HI1 := hide (HI.out.next hb1); have HB1 := hide hb1; have K4 := hide k4
  clear x0 x2 hw1 hb1 k4
  have x0 := HI1.out.b0.cell (k := 0) rfl; have x2 := HI1.out.b2.cell (k := 0) rfl
  refine wpAt_seq (wpAt_of_wp ?_)
  go_wp2_with (go_at_call 156; refine Stop.out ?_)
  refine Stop.go (icalOf2_c N P gv gn gp gr k o g o ci of c w1 _ HI1.out HX.out ?_)
  intro bc oc w2 hb hC hn1 hn2
  obtain ⟨w3, hw3⟩ : ∃ w3, w2.alloc (.cells #[.pointer (some ⟨bc, oc, none⟩)] 212) = w3 := ⟨_, rfl⟩
  have hb3 : Below w1.heap.size w1 w3 := hw3 ▸ balloc hb _
  have k5 : Blk w3 w2.heap.size #[.pointer (some ⟨bc, oc, none⟩)] 212 := hw3 ▸ Blk.new _ _ _
  have HB3 := hide (bseq HB1.out hb3); have HI3 := hide (HI1.out.next hb3); have K43 := hide (K4.out.next hb3); have K53 := hide k5
  have HC3 := hide hC; have HN1 := hide hn1; have HN2 := hide hn2
  have hg5 : W.heap.size < w2.heap.size := Nat.lt_of_lt_of_le K4.out.lt hb.size
  clear x0 x2 hb hC hn1 hn2 hb3 k5 HI1 HB1 K4
  go_wp2
  clear hw3
  obtain ⟨g5, hg5e⟩ : ∃ g5, w2.heap.size = g5 := ⟨_, rfl⟩
  rw [hg5e] at hg5 K53
  rw [hg5e]
  clear hg5e
  refine wpAt_seq (wpAt_of_wp ?_)
  refine cut2_p (g := g) (gv := gv) (gp := gp) (by have h9 := HI3.out.s; rw [Hfr.out, Htl.out] at h9; exact h9) ⟨by omega, by omega⟩ ⟨by omega, by omega⟩ (fun a6 a7 w4 hb hl6 hl7 hu6 hu7 k6 k7 _ _ _ _ _ _ _ _ _ _ _ _ _ _ _ _ => ?_)
  have hl6' := Nat.le_trans HB3.out.size hl6; have hl7' := Nat.le_trans HB3.out.size hl7
  have HB4 := hide (bseq HB3.out hb); have HI4 := hide (HI3.out.next hb); have K44 := hide (K43.out.next hb); have K54 := hide (K53.out.next hb); have HC4 := hide HC3.out
  have K64 := hide k6; have K74 := hide k7
  clear hb k6 k7 HB3 HI3 K43 K53 HC3
  refine wpAt_seq (wpAt_of_wp ?_)
  have KS : Hid (∀ W', Below w4.heap.size w4 W' → W'.cell? ⟨g5, 0, none⟩ = some (.pointer (some ⟨bc, oc, none⟩)) ∧ W'.cell? ⟨g, 0, none⟩ = some (.pointer (some ⟨gv, 0, none⟩)) ∧ W'.cell? ⟨gv, 1, none⟩ = some (.pointer (some ⟨gp, 0, none⟩)) ∧ W'.cell? ⟨gp, 0, none⟩ = some (.int .i64 fr) ∧ W'.cell? ⟨gp, 1, none⟩ = some (.int .i64 till)) := hide (fun W' hb => by
    have h9 := (HI4.out.next hb).s
    rw [Hfr.out, Htl.out] at h9
    exact ⟨(K54.out.next hb).cell (k := 0) rfl, h9⟩)
  have e1 : IntKind.i64.wrap (fr - 1) = fr - 1 := IntWalk.i64_in _ (by omega)
  have e2 : IntKind.i64.wrap (till + 1) = till + 1 := IntWalk.i64_in _ (by omega)
  go_region_held3 (fun W' => W'.cell? ⟨g5, 0, none⟩ = some (.pointer (some ⟨bc, oc, none⟩)) ∧ W'.cell? ⟨g, 0, none⟩ = some (.pointer (some ⟨gv, 0, none⟩)) ∧ W'.cell? ⟨gv, 1, none⟩ = some (.pointer (some ⟨gp, 0, none⟩)) ∧ W'.cell? ⟨gp, 0, none⟩ = some (.int .i64 fr) ∧ W'.cell? ⟨gp, 1, none⟩ = some (.int .i64 till))
    (first | exact KS.out _ (Below.refl _ _).drew | exact KS.out _ hbb)
    (first
    | (go_at_call 157
       refine iworkdays_c c bc oc (fr - 1) (till + 1) _ _ (HC4.out _ (HI4.out.next (Below.refl _ _).drew).nn) (fun W' hb hD hsz => ?_)
       have hbb : Below w4.heap.size w4 W' := bseq (Below.refl _ _).drew hb))
  have hg7 : w4.drew.heap.size = w4.heap.size := rfl
  rw [hg7] at hD hsz
  have HB5 := hide (bseq HB4.out hbb); have HD := hide hD
  have h04 := HI4.out.b2.lt
  have HJ5 : Hid (J (cutsD c Kc.cut fr till []) W') := hide (HJs.out _ _ _ HJ0.out HB5.out).1
  have HNB : Hid (∀ j, (IuK N gv gn gp g j ∨ (W.heap.size ≤ j ∧ j < W'.heap.size)) → ¬ bad W' j) := hide (fun j hj e => by
    obtain ⟨e1, e2⟩ := (HJs.out _ _ _ HJ0.out HB5.out).2 j e
    rcases hj with hj | hj
    · exact HK.out j hj e1
    · omega)
  have hs4 := hbb.size
  have hW0 : W.heap.size < w4.heap.size := K44.out.lt
  have hG5 : g5 < w4.heap.size := K54.out.lt
  have HJI := hide (show IuJ N P gv gn gp gr k o g W.heap.size W'.heap.size g5 a6 a7 bc oc fr till l bad W' from ⟨HI4.out.next hbb, K44.out.next hbb, K54.out.next hbb, K64.out.next hbb, K74.out.next hbb, Nat.le_refl _, HNB.out⟩)
  have HCW := hide HC4.out
  have hA6 : W.heap.size ≤ a6 ∧ a6 < W'.heap.size := by omega
  have hA7 : W.heap.size ≤ a7 ∧ a7 < W'.heap.size := by omega
  clear hb hD hbb hg7 KS e1 e2 HI4 K44 K54 K64 K74 HC4 HB4 HNB hl6 hl7 hu6 hu7 h04
  generalize w4.heap.size = g7 at *
  obtain ⟨E, hE⟩ : ∃ E, W'.heap.size = E := ⟨_, rfl⟩
  rw [hE] at hs4 hsz hA6 hA7 HJI
  have HE := hide hE
  clear hE
  obtain ⟨n, hn⟩ : ∃ n : Nat, till + 3 - fr = (n : Int) := ⟨(till + 3 - fr).toNat, by omega⟩
  have Hn := hide hn
  have HYD : Hid (cutsI c Kc.cut fr till = cutsD c Kc.cut fr till (daysF c (fr - 1) n)) := hide (by rw [cutsI_D, show (till + 3 - fr).toNat = n by omega])
  refine wpAt_block ?_
  refine rangeFunc_P Tryz.func155 rfl (enters_of Tryz.func209 (by kernel_rfl) rfl) (iworkdays_it c bc oc (fr - 1) (till + 1) n g7 W' HD.out Hc.out (by omega) (by omega) (by omega) (by omega)) bad ?hK (fun _ => rfl)
    (fun pre X => J (cutsD c Kc.cut fr till pre) X ∧ IuJ N P gv gn gp gr k o g W.heap.size E g5 a6 a7 bc oc fr till l bad X) (fun cd X => cd = .ret ∧ T X) Pn ?hI ?hIb ?hTx ⟨HJ5.out, HJI.out⟩ ?hround ?hdone ?hstop ?hpanic
  case hK =>
    intro j hj
    refine ⟨HD.out.lt hj, ?_⟩
    rcases hj with ⟨ha, hb⟩ | rfl | hb
    · exact HJI.out.nb j (.inr ⟨by omega, by omega⟩)
    · exact HJI.out.nb _ (.inl (.inr (.inr (.inr (.inr HN1.out)))))
    · exact HJI.out.nb j (.inl (.inr (.inr (.inr (.inr (HN2.out j hb))))))
  case hI =>
    intro s X Y row h hg hr
    have hr2 : ∀ r, row = some r → W.heap.size ≤ r ∧ ∃ o : Obj, X.heap[r]? = some o ∧ o.isCells = false := fun r e => ⟨by have := (hr r e).1; rw [HE.out] at this; omega, (hr r e).2⟩
    exact ⟨HJo.out _ X Y row h.1 hg hr2, h.2.iu.own hg hr, h.2.k4.own hg hr, h.2.k5.own hg hr, h.2.k6.own hg hr, h.2.k7.own hg hr, Nat.le_trans h.2.sz hg.size, fun j hj e => h.2.nb j hj (HJb.out _ X Y row h.1 hg hr2 j e).1⟩
  case hIb =>
    intro s X Y row h hg hr j hj
    exact HJb.out _ X Y row h.1 hg (fun r e => ⟨by have := (hr r e).1; rw [HE.out] at this; omega, (hr r e).2⟩) j hj
  case hTx => exact fun cd s X Y row h hg hr => ⟨h.1, HTo.out () X Y row h.2 hg (fun r e => ⟨by have := (hr r e).1; rw [HE.out] at this; omega, (hr r e).2⟩)⟩
  case hround =>
    intro l2 pre x post hxs X hI K' hK'
    obtain ⟨hJ, hT⟩ := hI
    have HJX := hide hJ; have HT := hide hT; have HK' := hide hK'
    have hxr : fr - 1 ≤ x ∧ x ≤ till + 1 := by
      have hm : x ∈ daysF c (fr - 1) n := by rw [hxs]; simp
      have := daysF_iff.1 hm
      omega
    have HX2 : Hid (cutsI c Kc.cut fr till = cutsD c Kc.cut fr till pre ++ (cutsD c Kc.cut fr till [x] ++ cutsD c Kc.cut fr till post)) := hide (by
      rw [HYD.out, hxs, show pre ++ x :: post = pre ++ ([x] ++ post) by simp, cutsD_app, cutsD_app])
    clear hJ hT hK' hxs
    gi_wp2
    refine HK'.out _ _ (KeepsFrom.refl _ _) (Kpb.refl _ _) ⟨HJX.out, HT.out⟩ (fun X2 hB2 hI2 => ?_)
    have HJ2 := hide hI2.1; have HT2 := hide hI2.2
    clear hB2 hI2 HJX HT HK'
    obtain ⟨b5, o5, Kc', hp5, hK5, _, d0, d1, d2⟩ := HT2.out.iu.nn.cls_ hk
    obtain rfl : Kc = Kc' := by have h9 := HKc.out; rw [h9] at hK5; injection hK5
    have z5 := HT2.out.k5.cell (k := 0) rfl
    have z0 := HT2.out.iu.b0.cell (k := 0) rfl; have z1 := HT2.out.iu.b1.cell (k := 0) rfl; have zv := HT2.out.iu.pv.cell (k := 0) rfl
    have zn := HT2.out.iu.net.cell (k := 5) (v := .slice N.kp N.clss.length N.kc) rfl
    rw [hp5] at zn
    have q1 : (0 : Int) ≤ (k : Int) := by omega
    have q2 : (k : Int) < (N.clss.length : Int) := by omega
    clear hp5 hK5 d0 d2
    gi_wp2
    refine rnd_quiet_lit (by kernel_rfl) (by kernel_rfl) (by intro _ _ h; first | exact h | cases h | (obtain ⟨h, _⟩ := h; cases h)) (by kernel_rfl) ?_
    repeat (go_big_quiet_step (exact moment_c bc oc c x Kc.cut _ _ (HCW.out _ (HT2.out.iu.nn.next (below_drewN' (Below.refl _ _) _))) (calP_of Hc.out).zone (by omega) (by omega) hcut.1 hcut.2 ⟨rfl, _, rfl⟩))
    refine wpQuiet_nil ?_
    rintro X3 ⟨nq, rfl⟩
    have hbq : Below X2.heap.size X2 (X2.drewN nq) := below_drewN' (Below.refl _ _) _
    have HT3 := hide (HT2.out.keep (HJs.out.kp HJ2.out hbq) (by omega) (by omega) hA6 hA7)
    have HJ3 := hide (HJs.out _ _ _ HJ2.out hbq).1
    have HK3 : Hid (Kpb bad X2 (X2.drewN nq)) := hide (HJs.out.kp HJ2.out hbq)
    have HB3 : Hid (Below X2.heap.size X2 (X2.drewN nq)) := hide hbq
    clear z5 z0 z1 zv zn d1 hbq
    generalize X2.drewN nq = X3 at *
    have y6 := HT3.out.k6.cell (k := 0) (v := .int .i64 (1440 * fr)) rfl; have y7 := HT3.out.k7.cell (k := 0) (v := .int .i64 (1440 * till)) rfl; have y4 := HT3.out.k4.cell (k := 0) rfl
    have hone := cutsD_one c Kc.cut fr till x
    obtain ⟨t, ht⟩ : ∃ t, timeOf c x Kc.cut = t := ⟨_, rfl⟩
    rw [ht] at hone ⊢
    have Hone := hide hone
    clear hone ht
    by_cases hin : 1440 * fr ≤ t ∧ t < 1440 * till
    rotate_left
    · have HX3 : Hid (J (cutsD c Kc.cut fr till (pre ++ [x])) X3) := hide (by rw [cutsD_app, Hone.out, if_neg hin, List.append_nil]; exact HJ3.out)
      by_cases h1' : 1440 * fr ≤ t
      · have t1 : decide (1440 * fr ≤ t) = true := by simpa using h1'
        have t2 : decide (t < 1440 * till) = false := by simp; omega
        gi_wp2
        all_goals
          try refine ⟨(fun f e => by cases e), ?_⟩
          try apply_assumption
          try gi_wp2
        all_goals exact ⟨kfrom_below HB3.out, HK3.out, HX3.out, HT3.out⟩
      · have t1 : decide (1440 * fr ≤ t) = false := by simpa using h1'
        gi_wp2
        all_goals
          try refine ⟨(fun f e => by cases e), ?_⟩
          try apply_assumption
          try gi_wp2
        all_goals exact ⟨kfrom_below HB3.out, HK3.out, HX3.out, HT3.out⟩
    · have t1 : decide (1440 * fr ≤ t) = true := by simpa using hin.1
      have t2 : decide (t < 1440 * till) = true := by simpa using hin.2
      obtain ⟨fn, tmps, assign, body, hy, hRd⟩ := HY.out (cutsD c Kc.cut fr till pre) t (cutsD c Kc.cut fr till post) (by rw [HX2.out, Hone.out, if_pos hin]; rfl) X3 HJ3.out
      have HRd := hide hRd
      clear hRd
      gi_wp2
      refine (show RoundIn (Fence.wide.inRound l2) 5 _ _ _ _ _ _ _ _ from roundIn_any HRd.out).mono ?_
      rintro e X4 ⟨hkf, h4⟩
      have HKF : Hid (KeepsFrom W'.heap.size X2 X4) := hide ((kfrom_below HB3.out).trans (kfrom_mono (by have := HE.out; omega) hkf))
      cases e with
      | outgrown => exact h4.elim
      | panicked ch => exact ⟨rfl, HKF.out, h4⟩
      | returned v =>
        rcases h4 with ⟨rfl, hj, hkp⟩ | ⟨rfl, hT⟩
        · have HJ4 : Hid (J (cutsD c Kc.cut fr till (pre ++ [x])) X4) := hide (by rw [cutsD_app, Hone.out, if_pos hin]; exact hj)
          have HT4 := hide (HT3.out.keep hkp (by omega) (by omega) hA6 hA7)
          have HK4 : Hid (Kpb bad X2 X4) := hide (HK3.out.trans hkp)
          clear hj hkp hkf
          gi_wp2
          all_goals exact ⟨HKF.out, HK4.out, HJ4.out, HT4.out⟩
        · have HTT := hide hT
          clear hT hkf
          gi_wp2
          all_goals exact ⟨HKF.out, rfl, HTT.out⟩
  case hdone =>
    rintro D X hD ⟨hj, hJI⟩ hd
    have HjX := hide hj; have Hd := hide hd
    clear hj hJI hd
    have hDW : W.heap.size ≤ D := by have := HE.out; omega
    show LeavesInM _ _ _ _ _ _ [{ target := .collected D, args := #[] }] .returning X
    refine ⟨by simp, .inl ⟨_, _, rfl, run_takeDeferred Hd.out, ?_⟩⟩
    refine ⟨.tuple #[], by simp [results, Tryz.results155, go_sem], .inl ?_⟩
    rw [HYD.out]
    exact HJo.out _ _ _ (some D) HjX.out (grownBy_putObj' X D (.deferred none)) (fun r e => by cases e; exact ⟨hDW, _, Hd.out, rfl⟩)
  case hstop =>
    rintro D cd X hD ⟨rfl, hT⟩ hd
    have HT := hide hT; have Hd := hide hd
    clear hT hd
    have hDW : W.heap.size ≤ D := by have := HE.out; omega
    refine wpAt_of_wp (Go.wp_ret ?_)
    show LeavesInM _ _ _ _ _ _ [{ target := .collected D, args := #[] }] .returning X
    refine ⟨by simp, .inl ⟨_, _, rfl, run_takeDeferred Hd.out, ?_⟩⟩
    refine ⟨.tuple #[], by simp [results, Tryz.results155, go_sem], .inr ?_⟩
    exact HTo.out () _ _ (some D) HT.out (grownBy_putObj' X D (.deferred none)) (fun r e => by cases e; exact ⟨hDW, _, Hd.out, rfl⟩)
  case hpanic =>
    rintro D ch X hD hP hd
    have Hd := hide hd
    have hDW : W.heap.size ≤ D := by have := HE.out; omega
    show LeavesInM _ _ _ _ _ _ [{ target := .collected D, args := #[] }] (.panicking ch) X
    refine ⟨by simp, .inl ⟨_, _, rfl, run_takeDeferred Hd.out, ?_⟩⟩
    exact HPo.out ch _ _ (some D) hP (grownBy_putObj' X D (.deferred none)) (fun r e => by cases e; exact ⟨hDW, _, Hd.out, rfl⟩)
end Go.Proofs.YtgfhcmidnbahjaaGreatDoor
