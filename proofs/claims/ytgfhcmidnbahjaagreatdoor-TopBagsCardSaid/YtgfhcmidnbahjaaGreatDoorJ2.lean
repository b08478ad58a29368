/- A range over an iterator that lays a known list: rounds may go on, stop, or panic. -/
import Derived.RangeFuncNested
import Derived.RangeFuncBound
import Derived.RangeFuncCalls
import Derived.RangeFuncLeaves
import Derived.RangeFuncBox
import Derived.RangeFuncWrites
import Derived.OwnWalkIn
import Derived.TacticsInMore
import Derived.LoopNIn
import Derived.LoopIn
import Derived.StillTailTactics
import Derived.BigQuiet
import Derived.OrdersHeld
import Derived.Deep.RegionHeld3
import Derived.Recover
import Derived.RecoverIn
import Derived.Test.YtgfhcmidnbahjaaGreatDoorJ1
set_option linter.unusedVariables false
set_option linter.unusedSimpArgs false
namespace Go.Proofs.YtgfhcmidnbahjaaGreatDoor
open Go.RowKit
def Kpb (bad : World → Nat → Prop) (A B : World) : Prop := A.heap.size ≤ B.heap.size ∧ ∀ k, k < A.heap.size → ¬ bad A k → B.heap[k]? = A.heap[k]? ∧ ¬ bad B k
theorem Kpb.refl (bad : World → Nat → Prop) (A : World) : Kpb bad A A := ⟨Nat.le_refl _, fun _ _ h => ⟨rfl, h⟩⟩
theorem Kpb.trans {bad : World → Nat → Prop} {A B C : World} (h : Kpb bad A B) (k : Kpb bad B C) : Kpb bad A C :=
 ⟨Nat.le_trans h.1 k.1, fun j hj hb => by
  obtain ⟨h1, h2⟩ := h.2 j hj hb
  obtain ⟨k1, k2⟩ := k.2 j (Nat.lt_of_lt_of_le hj h.1) h2
  exact ⟨k1.trans h1, k2⟩⟩
theorem Kpb.more {bad : World → Nat → Prop} {A B : World} (l : Nat) (h : Kpb bad A B) : Kpb (fun W k => k = l ∨ bad W k) A B :=
 ⟨h.1, fun j hj hb => by
  obtain ⟨h1, h2⟩ := h.2 j hj (fun hh => hb (.inr hh))
  exact ⟨h1, fun hh => by rcases hh with hh | hh; exact hb (.inl hh); exact h2 hh⟩⟩
def OwnB {β : Type} (B : Nat) (I : β → World → Prop) : Prop :=
 ∀ s W W' row, I s W → W.grownBy W' row → (∀ r, row = some r → B ≤ r ∧ ∃ o : Obj, W.heap[r]? = some o ∧ o.isCells = false) → I s W'
def BadB {β : Type} (B : Nat) (I : β → World → Prop) (bad : World → Nat → Prop) : Prop :=
 ∀ s W W' row, I s W → W.grownBy W' row → (∀ r, row = some r → B ≤ r ∧ ∃ o : Obj, W.heap[r]? = some o ∧ o.isCells = false) → ∀ k, bad W' k → bad W k ∧ k < W.heap.size
theorem grown_of_below {A B : World} (h : Below A.heap.size A B) : A.grownBy B none := ⟨h.os, h.tape, h.output, h.size, fun k hk _ => h.block k hk⟩
def Bump (B : Nat) (W W' : World) : Prop := ∃ r o, B ≤ r ∧ W.heap[r]? = some o ∧ o.isCells = false ∧ W.grownBy W' (some r)
section words
variable {α : Type}
def YP (J : List α → World → Prop) (T : World → Prop) (Pn : List PanicEntry → World → Prop) (bad : World → Nat → Prop) (pre : List α) (x : α) (W : World) : Ending → World → Prop
 | .returned v, W' => (v = .bool true ∧ J (pre ++ [x]) W' ∧ Kpb bad W W') ∨ (v = .bool false ∧ T W')
 | .panicked ch, W' => Pn ch W'
 | .outgrown, _ => False
def IP (J : List α → World → Prop) (T : World → Prop) (Pn : List PanicEntry → World → Prop) (xs : List α) : Ending → World → Prop
 | .returned _, W' => J xs W' ∨ T W'
 | .panicked ch, W' => Pn ch W'
 | .outgrown, _ => False
def JSt (J : List α → World → Prop) (bad : World → Nat → Prop) : Prop := ∀ s A B, J s A → Below A.heap.size A B → J s B ∧ ∀ k, bad B k → bad A k ∧ k < A.heap.size
def IterAt (P : Program) (g : Nat) (lb : Array Value) (encs : α → Array Value) (xs : List α) (K : Nat → Prop) (w : World) : Prop :=
 ∀ (l : Nat) (J : List α → World → Prop) (T : World → Prop) (Pn : List PanicEntry → World → Prop) (bad : World → Nat → Prop) (W : World), Below w.heap.size w W →
  JSt J bad → (∀ k, K k → ¬ bad W k) →
  (∀ pre x post, xs = pre ++ x :: post → ∀ W1, J pre W1 → YieldAt Fence.wide 7 P l (encs x) W1 (YP J T Pn bad pre x W1)) →
  J [] W → Calls P g (#[.func (.yield l) #[] #[]] ++ lb) W (IP J T Pn xs)
theorem JSt.kp {J : List α → World → Prop} {bad : World → Nat → Prop} (h : JSt J bad) {s : List α} {A B : World} (hj : J s A) (hb : Below A.heap.size A B) : Kpb bad A B :=
 ⟨hb.size, fun k hk hn => ⟨hb.block k hk, fun e => hn ((h s A B hj hb).2 k e).1⟩⟩
def RP (B : Nat) (I : List α → World → Prop) (Tx : Code → World → Prop) (Pn : List PanicEntry → World → Prop) (bad : World → Nat → Prop) (pre : List α) (x : α) (W : World) : Exit → Act → World → Prop
 | .normal, _, W' => KeepsFrom B W W' ∧ Kpb bad W W' ∧ I (pre ++ [x]) W'
 | .ret, _, W' => KeepsFrom B W W' ∧ Tx .ret W'
 | .exit id, _, W' => KeepsFrom B W W' ∧ Tx (.exit id) W'
 | .goto t, _, W' => KeepsFrom B W W' ∧ Tx (.goto t) W'
 | .panic ch, a, W' => a.defers = [] ∧ KeepsFrom B W W' ∧ Pn ch W'
 | .outgrown, _, _ => False
end words
theorem roundIn_any {n m : Nat} {P : Program} {l : Nat} {f : FuncId} {tmps : Array Value} {as bd : Code} {w : World} {R : Ending → World → Prop} (h : RoundIn Fence.wide n P l f tmps as bd w R) : RoundIn Fence.wide m P l f tmps as bd w R :=
 ⟨trivial, fun c cs _ => h.2 c cs (room_wide _)⟩
theorem round_of {P : Program} {n l : Nat} {f : FuncId} {tmps : Array Value} {assign body : Code} {w : World} {R : Ending → World → Prop} (D : Prop) (hD : D → ∃ fn, P.funcs[f]? = some fn)
  (h : assign.wpIn (Fence.wide.inRound l) n P (Exit.then (fun a₁ w₁ => ∃ w₂, (Instr.beginRound l).run P w₁ = .ok () w₂ ∧ body.wpIn (Fence.wide.inRound l) n P (fun e a w' => match e with
    | .panic ch => D ∧ a.defers = [] ∧ R (.panicked ch) w'
    | e => roundPost P l R e a w') a₁ w₂) (fun _ _ _ => False)) { tmps := tmps, defers := [] } w) : RoundIn Fence.wide n P l f tmps assign body w R := by
 refine ⟨trivial, fun c cs _ => ?_⟩
 let b : Frame := { (default : Frame) with fn := f, kind := .normal, roundOf := some l }
 have hb0 : Frame.round l f tmps assign body .normal = b.atR { tmps := tmps, defers := [] } [.code assign, .beginRound, .code body] := by
  simp [Frame.round, Frame.atR, b]
 have hF : (Fence.wide.inRound l).fn b.fn := trivial
 have hr : (Fence.wide.inRound l).room ((c :: cs).length + 1 + n) := room_wide _
 obtain ⟨e, a₁, w₁, hq, harr⟩ := h b [.beginRound, .code body] (c :: cs) rfl hF hr
 rw [← hb0] at harr
 cases e with
 | normal =>
  obtain ⟨w₂, hbr, hbody⟩ := hq
  have s1 : StepsIn (Machine.fenced P (Fence.wide.inRound l)) P (lone (b.atR a₁ [.beginRound, .code body]) (c :: cs) w₁) (lone (b.atR a₁ [.code body]) (c :: cs) w₂) :=
   .one (fenced_calm (fr := b.atR a₁ [.beginRound, .code body]) hF hr rfl) (stepR_beginRound rfl hbr)
  obtain ⟨e₂, a₂, w₃, hq₂, harr₂⟩ := hbody b [] (c :: cs) rfl hF hr
  cases e₂ with
  | normal =>
   obtain ⟨v, w₄, hend, hR⟩ := hq₂
   exact ⟨.returned v, w₄, hR, (StepsIn.trans harr s1).trans (StepsIn.trans harr₂ (.one (fenced_calm (fr := b.atR a₂ []) hF hr rfl) (stepR_round_end rfl rfl hend)))⟩
  | ret =>
   obtain ⟨v, w₄, hend, hR⟩ := hq₂
   obtain ⟨k₁, hs⟩ := harr₂.2 rfl
   exact ⟨.returned v, w₄, hR, (StepsIn.trans harr s1).trans (StepsIn.trans hs (.one (fenced_calm (fr := b.atR a₂ (.code .ret :: k₁)) hF hr rfl) (stepR_round_ret rfl rfl hend)))⟩
  | exit id =>
   obtain ⟨v, w₄, hend, hR⟩ := hq₂
   obtain ⟨k₁, hk, hs⟩ := harr₂.2 rfl rfl
   exact ⟨.returned v, w₄, hR, (StepsIn.trans harr s1).trans (StepsIn.trans hs (.one (fenced_calm (fr := b.atR a₂ (.code (.exit id) :: k₁)) hF hr rfl) (stepR_round_exit rfl rfl hk hend)))⟩
  | goto t =>
   obtain ⟨v, w₄, hend, hR⟩ := hq₂
   obtain ⟨k₁, hk, hs⟩ := harr₂.2 rfl rfl
   exact ⟨.returned v, w₄, hR, (StepsIn.trans harr s1).trans (StepsIn.trans hs (.one (fenced_calm (fr := b.atR a₂ (.code (.goto t) :: k₁)) hF hr rfl) (stepR_round_goto rfl rfl hk hend)))⟩
  | panic chain =>
   obtain ⟨hd, hdf, hR⟩ := hq₂
   obtain ⟨todo, hs⟩ := harr₂
   obtain ⟨fn, hfn⟩ := hD hd
   have hl : ({ b.atR a₂ todo with mode := .panicking chain } : Frame).leaving P w₃ (.panicked chain) := ⟨rfl, hdf, fn, hfn⟩
   exact ⟨.panicked chain, w₃, hR, (StepsIn.trans harr s1).trans (StepsIn.trans hs (.one (fenced_wide P _) (step_leave_panicked hl)))⟩
  | outgrown => exact hq₂.elim
 | exit id => exact hq.elim
 | goto t => exact hq.elim
 | ret => exact hq.elim
 | panic chain => exact hq.elim
 | outgrown => exact hq.elim
def wpAt (f0 : FuncId) (P : Program) (c : Code) (Q : Exit → Act → World → Prop) (a : Act) (w : World) : Prop :=
 ∀ (b : Frame) (k : List Item) (cs : List Frame), b.roundOf = none → b.fn = f0 →
  ∃ e a' w', Q e a' w' ∧ ArrivesIn (Machine.fenced P Fence.wide) P (lone (b.atR a (.code c :: k)) cs w) b k cs e a' w'
section
variable {f0 : FuncId} {P : Program} {Q : Exit → Act → World → Prop} {a : Act} {w : World}
theorem wpAt_of_wp {c : Code} (h : c.wp P Q a w) : wpAt f0 P c Q a w := fun b k cs hro _ => (wpIn_wide (n := 0)).2 h b k cs hro trivial (room_wide _)
theorem wpAt_seq {x y : Code} (h : wpAt f0 P x (Exit.then (wpAt f0 P y Q) Q) a w) : wpAt f0 P (Code.seq x y) Q a w := by
 intro b k cs hro hb
 have h0 : (lone (b.atR a (.code (.seq x y) :: k)) cs w).fenced P Fence.wide := fenced_wide _ _
 obtain ⟨e, a₁, w₁, hq, harr⟩ := h b (.code y :: k) cs hro hb
 have go : e ≠ .normal → ∃ e a' w', Q e a' w' ∧ ArrivesIn (Machine.fenced P Fence.wide) P (lone (b.atR a (.code (.seq x y) :: k)) cs w) b k cs e a' w' := fun he => by
  refine ⟨e, a₁, w₁, ?_, .of_steps (.one h0 stepR_seq) (.pass (x := .code y) rfl (fun _ _ => .inl he) harr)⟩
  cases e <;> first | exact absurd rfl he | exact hq
 cases e with
 | normal =>
  obtain ⟨e₂, a₂, w₂, hq₂, harr₂⟩ := hq b k cs hro hb
  exact ⟨e₂, a₂, w₂, hq₂, .of_steps (.head h0 stepR_seq harr) harr₂⟩
 | _ => exact go (by simp)
theorem calls_of_wpAt {fn : Func} {c : Code} {args : Array Value} {R : Ending → World → Prop} (hf : P.funcs[f0]? = some fn) (hb : fn.body = some c)
  (h : wpAt f0 P c (bodyPostM Fence.wide 9 P fn R) { tmps := args ++ Array.replicate (fn.ntmps - args.size) undef, defers := [] } w) : Calls P f0 args w R := by
 refine (callsIn_wide (n := 9)).1 ⟨trivial, fun cs hr => ?_⟩
 let b : Frame := { (default : Frame) with fn := f0, kind := .normal, roundOf := none }
 have henter : Frame.enter P f0 args .normal = b.atR { tmps := args ++ Array.replicate (fn.ntmps - args.size) undef, defers := [] } [.code c] := by
  simp [Frame.enter, Frame.atR, hf, hb, b]
 obtain ⟨e, a', w', hq, harr⟩ := h b [] cs rfl rfl
 rw [← henter] at harr
 cases e with
 | normal =>
  obtain ⟨e', w'', fr', hR, hs, hfn, hl⟩ := leaves_stepsInM a'.defers .returning w' { b.atR a' [] with mode := .returning } cs rfl rfl rfl hf rfl trivial hr hq
  exact ⟨e', w'', fr', hR, ComesIn.of_steps (StepsIn.trans harr (.one (fenced_wide _ _) (stepR_end rfl))) hs, hfn, hl⟩
 | ret =>
  obtain ⟨todo, hs₀⟩ := harr.1 rfl
  obtain ⟨e', w'', fr', hR, hs, hfn, hl⟩ := leaves_stepsInM a'.defers .returning w' { b.atR a' todo with mode := .returning } cs rfl rfl rfl hf rfl trivial hr hq
  exact ⟨e', w'', fr', hR, ComesIn.of_steps hs₀ hs, hfn, hl⟩
 | panic chain =>
  obtain ⟨todo, hs₀⟩ := harr
  obtain ⟨e', w'', fr', hR, hs, hfn, hl⟩ := leaves_stepsInM a'.defers (.panicking chain) w' { b.atR a' todo with mode := .panicking chain } cs rfl rfl rfl hf rfl trivial hr hq
  exact ⟨e', w'', fr', hR, ComesIn.of_steps hs₀ hs, hfn, hl⟩
 | exit id => exact hq.elim
 | goto l => exact hq.elim
 | outgrown => exact ⟨.outgrown, w', b, hq, harr.resolve_left (by simp [b]), rfl, trivial⟩
def rangePostAt (f0 : FuncId) (P : Program) (l : Nat) (Q : Exit → Act → World → Prop) (a' : Act) : Ending → World → Prop
 | .returned _, w₃ => ∃ jump w₄, (Instr.endLoop l).run P w₃ = .ok jump w₄ ∧ (match jump with | none => Q .normal a' w₄ | some c => wpAt f0 P c Q a' w₄)
 | .panicked chain, w₃ => Q (.panic chain) a' w₃
 | .outgrown, _ => LetsOut Q
theorem wpAt_rangeFunc {g : Operand} {ps : Array Tmp} {assign body : Code}
  (h : ∃ (l : Nat) (mark : List Deferred) (w₁ : World) (d : Deferred) (w₁' : World) (f : FuncId) (args : Array Value) (w₂ : World),
   (Instr.enterLoop f0 a.tmps ps assign body none).run P w = .ok (l, mark) w₁ ∧ (resolve a.eval (rangeCall g l) 0).run P w₁ = .ok d w₁' ∧ (invoke d.target d.args).run P w₁' = .ok (.enter f args) w₂ ∧
   Calls P f args w₂ (rangePostAt f0 P l Q { a with defers := mark ++ a.defers })) :
  wpAt f0 P (Code.rangeFunc g ps assign body) Q a w := by
 intro b k cs hro hb
 subst hb
 obtain ⟨l, mark, w₁, d, w₁', f, args, w₂, he, hres, hinv, hcall⟩ := h
 rw [← hro] at he
 have henter := stepR_rangeFunc (P := P) (b := b) (a := a) (k := k) (cs := cs) (w := w) he hres hinv
 obtain ⟨e, w₃, fr, hR, hsteps, hfn, hleave⟩ := ((callsIn_wide (n := 0)).2 hcall).2 (b.atR { a with defers := mark ++ a.defers } (.inRangeFunc l :: k) :: cs) (room_wide _)
 cases e with
 | outgrown =>
  obtain ⟨a₀, w₀, hq⟩ := hR
  exact ⟨.outgrown, a₀, w₀, hq, .inr (Outgrown.of_steps (.one henter) hsteps)⟩
 | returned v =>
  obtain ⟨jump, w₄, hend, hj⟩ := hR
  have sback : StepsIn (Machine.fenced P Fence.wide) P (lone (b.atR a (.code (.rangeFunc g ps assign body) :: k)) cs w) (lone (b.atR { a with defers := mark ++ a.defers } ((jump.map Item.code).toList ++ k)) cs w₄) := by
   refine .head (fenced_wide _ _) henter (StepsIn.trans hsteps (.head (fenced_wide _ _) ?_ (.one (fenced_wide _ _) (stepR_endRangeFunc hend))))
   rw [← finish_atR_inRangeFunc l v]; exact step_leave_returned hleave
  cases jump with
  | none => exact ⟨.normal, _, w₄, hj, sback⟩
  | some c =>
   obtain ⟨e', a'', w₅, hq, harr⟩ := hj b k cs hro rfl
   exact ⟨e', a'', w₅, hq, .of_steps sback harr⟩
 | panicked chain =>
  refine ⟨.panic chain, _, w₃, hR, .inRangeFunc l :: k, .head (fenced_wide _ _) henter (StepsIn.trans hsteps (.one (fenced_wide _ _) ?_))⟩
  rw [← Frame.raise_atR]; exact step_leave_panicked hleave
end
theorem range_core {α : Type} {P : Program} {fn : FuncId} {g : Operand} {ps : Array Tmp} {assign body : Code} {a : Act} {w : World} {R : Ending → World → Prop}
  {gf : Nat} {lb : Array Value} (hg : a.eval g = .func (.func gf) #[] lb) (eg : ∀ args w, (callFunc gf args).run P w = .ok (.enter gf args) w)
  {encs : α → Array Value} {xs : List α} {K : Nat → Prop} (hit : IterAt P gf lb encs xs K w) (bad : World → Nat → Prop) (hK : ∀ k, K k → k < w.heap.size ∧ ¬ bad w k) (hps : ∀ x, (encs x).size = ps.size)
  (I : List α → World → Prop) (Tx : Code → World → Prop) (Pn : List PanicEntry → World → Prop) (hI : OwnB w.heap.size I) (hIb : BadB w.heap.size I bad) (hTx : ∀ c, OwnB w.heap.size (fun (_ : Unit) => Tx c))
  (hPn : ∀ ch W, Pn ch W → ∃ F, P.funcs[fn]? = some F) (h0 : I [] w)
  (hround : ∀ (l : Nat) (pre : List α) (x : α) (post : List α), xs = pre ++ x :: post → ∀ (W : World), I pre W → ∀ K' : Act → World → Prop,
   (∀ a1 W1, KeepsFrom w.heap.size W W1 → Kpb bad W W1 → I pre W1 → (∀ W2, Bump w.heap.size W1 W2 → I pre W2 → body.wpIn (Fence.wide.inRound l) 6 P (RP w.heap.size I Tx Pn bad pre x W2) a1 W2) → K' a1 W1) →
   assign.wpIn (Fence.wide.inRound l) 6 P (Exit.then K' (fun _ _ _ => False)) { tmps := (ps.zip (encs x)).foldl (fun t (p, v) => t.setIfInBounds p v) a.tmps, defers := [] } W)
  (hdone : ∀ (l D : Nat) (W : World), w.heap.size ≤ D → I xs W → W.heap[D]? = some (.deferred (some [])) → ∀ W', (Instr.endLoop l).run P W = .ok none W' → I xs W' → W'.heap[D]? = some (.deferred (some [])) → D = w.heap.size → l = w.heap.size + 1 → R (.returned undef) W)
  (hstop : ∀ (l D : Nat) (c : Code) (W : World), w.heap.size ≤ D → Tx c W → ∀ W', (Instr.endLoop l).run P W = .ok (some c) W' → Tx c W' → W'.heap[D]? = some (.deferred (some [])) → D = w.heap.size → l = w.heap.size + 1 → R (.returned undef) W)
  (hpanic : ∀ (ch : List PanicEntry) (W : World), Pn ch W → W.heap[w.heap.size]? = some (.deferred (some [])) → R (.panicked ch) W)
  (hR : ∀ v v' W, R (.returned v) W → R (.returned v') W) :
  ∃ w₁ w₂, (Instr.enterLoop fn a.tmps ps assign body none).run P w = .ok (w.heap.size + 1, [{ target := .collected w.heap.size, args := #[] }]) w₁ ∧
   (resolve a.eval (rangeCall g (w.heap.size + 1)) 0).run P w₁ = .ok { target := .fn (.func gf) lb, args := #[.func (.yield (w.heap.size + 1)) #[] #[]] } w₁ ∧
   (invoke (.fn (.func gf) lb) #[.func (.yield (w.heap.size + 1)) #[] #[]]).run P w₁ = .ok (.enter gf (#[.func (.yield (w.heap.size + 1)) #[] #[]] ++ lb)) w₂ ∧
   Calls P gf (#[.func (.yield (w.heap.size + 1)) #[] #[]] ++ lb) w₂ R := by
 let rc : LoopState → Option Code → Loop := fun st pe => { state := st, pending := pe, fn, tmps := a.tmps, params := ps, assign, body, defers := w.heap.size }
 obtain ⟨W1, hW1⟩ : ∃ W1, (w.alloc (.deferred (some []))).alloc (.loop (rc .ready none)) = W1 := ⟨_, rfl⟩
 have hL1 : W1.heap[w.heap.size + 1]? = some (.loop (rc .ready none)) := by
  rw [← hW1]; have := World.alloc_heap_new (w.alloc (.deferred (some []))) (.loop (rc .ready none)); rwa [World.size_alloc] at this
 have hD1 : W1.heap[w.heap.size]? = some (.deferred (some [])) := by
  rw [← hW1]; exact (Below.heap_alloc _ _ _ (by simp)).trans (World.alloc_heap_new w _)
 have hB1 : Below w.heap.size w W1 := by rw [← hW1]; exact ((Below.refl _ w).alloc (Nat.le_refl _) _).alloc (by simp) _
 have hg1 : w.grownBy W1 none := by rw [← hW1]; exact (World.grownBy_alloc _ _ none).trans (World.grownBy_alloc _ _ none)
 have step : ∀ {A A' : World} {k : Nat} {o : Obj}, A.grownBy A' none → A.heap[k]? = some o → A'.heap[k]? = some o := fun h ho =>
  (h.block _ (Array.getElem?_eq_some_iff.1 ho).1 (by simp)).trans ho
 have put : ∀ {β : Type} {J : β → World → Prop}, OwnB w.heap.size J → ∀ {s : β} {A : World} {o : Obj} (o' : Obj), J s A → A.heap[w.heap.size + 1]? = some o → o.isCells = false → J s (A.putObj (w.heap.size + 1) o') := fun hJ s A o o' hs ho hc =>
  hJ s A _ (some (w.heap.size + 1)) hs (grownBy_putObj' A _ o') (fun r e => by cases e; exact ⟨by omega, o, ho, hc⟩)
 have kput : ∀ (s : List α) (A : World) (o o' : Obj), I s A → A.heap[w.heap.size + 1]? = some o → o.isCells = false → Kpb (fun W k => k = w.heap.size + 1 ∨ bad W k) A (A.putObj (w.heap.size + 1) o') := fun s A o o' hs ho hc =>
  ⟨(grownBy_putObj' A (w.heap.size + 1) o').size, fun k hk hb => ⟨World.putObj_heap_other (fun e => hb (.inl e)), fun hh => by
    rcases hh with hh | hh
    ·exact hb (.inl hh)
    ·exact hb (.inr (hIb s A _ (some (w.heap.size + 1)) hs (grownBy_putObj' A _ o') (fun r e => by cases e; exact ⟨by omega, o, ho, hc⟩) k hh).1)⟩⟩
 refine ⟨W1, W1, ?_, ?_, ?_, ?_⟩
 ·rw [← hW1]; exact run_enterLoop_outer _ _ _ _ _
 ·simp only [resolve, hg]; simp [go_sem]
 ·simp [invoke, go_sem, eg]
 refine (hit (w.heap.size + 1)
  (fun pre W => I pre W ∧ W.heap[w.heap.size + 1]? = some (.loop (rc .ready none)) ∧ W.heap[w.heap.size]? = some (.deferred (some [])))
  (fun W => ∃ c, Tx c W ∧ W.heap[w.heap.size + 1]? = some (.loop (rc .done (some c))) ∧ W.heap[w.heap.size]? = some (.deferred (some [])))
  (fun ch W => Pn ch W ∧ W.heap[w.heap.size]? = some (.deferred (some [])))
  (fun W k => k = w.heap.size + 1 ∨ bad W k)
  W1 hB1 (fun s A A' hs hA => ⟨⟨hI s A A' _ hs.1 (grown_of_below hA) (fun r e => by cases e), step (grown_of_below hA) hs.2.1, step (grown_of_below hA) hs.2.2⟩, fun k hk => by
   rcases hk with rfl | hk
   ·exact ⟨.inl rfl, (Array.getElem?_eq_some_iff.1 hs.2.1).1⟩
   ·obtain ⟨h1, h2⟩ := hIb s A A' none hs.1 (grown_of_below hA) (fun r e => by cases e) k hk
    exact ⟨.inr h1, h2⟩⟩)
  (fun k hk => by
   obtain ⟨h1, h2⟩ := hK k hk
   rintro (hh | hh)
   ·omega
   ·exact h2 (hIb [] w W1 none h0 hg1 (fun r e => by cases e) k hh).1)
  ?_ ⟨hI [] w W1 none h0 hg1 (fun r e => by cases e), hL1, hD1⟩).mono ?_
 ·
  rintro pre x post hx W0 ⟨hi0, hl0, hk0⟩
  refine ⟨fn, _, assign, body, run_yield (P := P) (args := encs x) hl0 (hps x), roundIn_any (n := 6) (round_of (∃ F, P.funcs[fn]? = some F) id (hround _ pre x post hx W0 hi0 _ (fun a' W hKO hKK hi hbody => ?_)))⟩
  have hl := hKO.same _ _ (Nat.le_succ _) hl0 rfl
  have hk := hKO.same _ _ (Nat.le_refl _) hk0 rfl
  refine ⟨_, run_beginRound hl rfl, ?_⟩
  have hlt : w.heap.size + 1 < W.heap.size := (Array.getElem?_eq_some_iff.1 hl).1
  have hl2 : (W.putObj (w.heap.size + 1) (.loop { rc .ready none with state := .busy })).heap[w.heap.size + 1]? = some (.loop { rc .ready none with state := .busy }) := World.putObj_heap_same hlt
  have hk2 : (W.putObj (w.heap.size + 1) (.loop { rc .ready none with state := .busy })).heap[w.heap.size]? = some (.deferred (some [])) := (World.putObj_heap_other (by omega)).trans hk
  refine wpIn_mono (hbody _ ⟨w.heap.size + 1, _, by omega, hl, rfl, grownBy_putObj' W _ _⟩ (put hI _ hi hl rfl)) ?_
  have fin : ∀ (jump : Option Code) (W3 : World), KeepsFrom w.heap.size (W.putObj (w.heap.size + 1) (.loop { rc .ready none with state := .busy })) W3 →
    ∃ W4, (Instr.endRound (w.heap.size + 1) jump).run P W3 = .ok (.bool jump.isNone) W4 ∧ W4 = W3.putObj (w.heap.size + 1) (.loop (rc (if jump.isNone then .ready else .done) jump)) ∧
    W3.heap[w.heap.size + 1]? = some (.loop { rc .ready none with state := .busy }) ∧ W4.heap[w.heap.size + 1]? = some (.loop (rc (if jump.isNone then .ready else .done) jump)) ∧ W4.heap[w.heap.size]? = some (.deferred (some [])) := fun jump W3 h3 => by
   have hl3 := h3.same _ _ (Nat.le_succ _) hl2 rfl
   exact ⟨_, run_endRound (P := P) jump hl3, rfl, hl3, World.putObj_heap_same (Array.getElem?_eq_some_iff.1 hl3).1, (World.putObj_heap_other (by omega)).trans (h3.same _ _ (Nat.le_refl _) hk2 rfl)⟩
  rintro e a3 W3 hp
  cases e with
  | normal =>
   obtain ⟨hk3, hkp3, hi3⟩ := hp
   obtain ⟨W4, hr, rfl, hl3, hl4, hk4⟩ := fin none W3 hk3
   exact ⟨_, _, hr, .inl ⟨rfl, ⟨put hI _ hi3 hl3 rfl, hl4, hk4⟩, ((hKK.more _).trans (kput pre W _ _ hi hl rfl)).trans ((hkp3.more _).trans (kput _ W3 _ _ hi3 hl3 rfl))⟩⟩
  | ret =>
   obtain ⟨W4, hr, rfl, hl3, hl4, hk4⟩ := fin (some .ret) W3 hp.1
   exact ⟨_, _, hr, .inr ⟨rfl, .ret, put (hTx _) (s := ()) _ hp.2 hl3 rfl, hl4, hk4⟩⟩
  | exit id =>
   obtain ⟨W4, hr, rfl, hl3, hl4, hk4⟩ := fin (some (.exit id)) W3 hp.1
   exact ⟨_, _, hr, .inr ⟨rfl, .exit id, put (hTx _) (s := ()) _ hp.2 hl3 rfl, hl4, hk4⟩⟩
  | goto t =>
   obtain ⟨W4, hr, rfl, hl3, hl4, hk4⟩ := fin (some (.goto t)) W3 hp.1
   exact ⟨_, _, hr, .inr ⟨rfl, .goto t, put (hTx _) (s := ()) _ hp.2 hl3 rfl, hl4, hk4⟩⟩
  | panic ch => exact ⟨hPn ch W3 hp.2.2, hp.1, hp.2.2, hp.2.1.same _ _ (Nat.le_refl _) hk2 rfl⟩
  | outgrown => exact hp.elim
 ·
  rintro e W2 hh
  cases e with
  | outgrown => exact hh.elim
  | panicked ch => exact hpanic ch W2 hh.1 hh.2
  | returned v =>
   rcases hh with ⟨hi, hl, hk⟩ | ⟨c, hi, hl, hk⟩
   ·exact hR _ _ _ (hdone _ _ W2 (Nat.le_refl _) hi hk _ (run_endLoop (P := P) hl (by simp [rc])) (put hI _ hi hl rfl) ((World.putObj_heap_other (by omega)).trans hk) rfl rfl)
   ·exact hR _ _ _ (hstop _ _ c W2 (Nat.le_refl _) hi _ (run_endLoop (P := P) hl (by simp [rc])) (put (hTx c) (s := ()) _ hi hl rfl) ((World.putObj_heap_other (by omega)).trans hk) rfl rfl)
theorem rangeFunc_G {α : Type} {P : Program} {n : Nat} {g : Operand} {ps : Array Tmp} {assign body : Code} {Q : Exit → Act → World → Prop} {a : Act} {w : World}
  {gf : Nat} {lb : Array Value} (hg : a.eval g = .func (.func gf) #[] lb) (eg : ∀ args w, (callFunc gf args).run P w = .ok (.enter gf args) w)
  {encs : α → Array Value} {xs : List α} {K : Nat → Prop} (hit : IterAt P gf lb encs xs K w) (bad : World → Nat → Prop) (hK : ∀ k, K k → k < w.heap.size ∧ ¬ bad w k) (hps : ∀ x, (encs x).size = ps.size)
  (I : List α → World → Prop) (Tx : Code → World → Prop) (hI : OwnB w.heap.size I) (hIb : BadB w.heap.size I bad) (hTx : ∀ c, OwnB w.heap.size (fun (_ : Unit) => Tx c)) (h0 : I [] w)
  (hround : ∀ (l : Nat) (pre : List α) (x : α) (post : List α), xs = pre ++ x :: post → ∀ (W : World), I pre W → ∀ K' : Act → World → Prop,
   (∀ a1 W1, KeepsFrom w.heap.size W W1 → Kpb bad W W1 → I pre W1 → (∀ W2, Bump w.heap.size W1 W2 → I pre W2 → body.wpIn (Fence.wide.inRound l) 6 P (RP w.heap.size I Tx (fun _ _ => False) bad pre x W2) a1 W2) → K' a1 W1) →
   assign.wpIn (Fence.wide.inRound l) 6 P (Exit.then K' (fun _ _ _ => False)) { tmps := (ps.zip (encs x)).foldl (fun t (p, v) => t.setIfInBounds p v) a.tmps, defers := [] } W)
  (hdone : ∀ (D : Nat) (W : World), w.heap.size ≤ D → I xs W → W.heap[D]? = some (.deferred (some [])) → Q .normal { a with defers := { target := .collected D, args := #[] } :: a.defers } W)
  (hstop : ∀ (D : Nat) (c : Code) (W : World), w.heap.size ≤ D → Tx c W → W.heap[D]? = some (.deferred (some [])) → c.wpIn Fence.wide n P Q { a with defers := { target := .collected D, args := #[] } :: a.defers } W) :
  (Code.rangeFunc g ps assign body).wpIn Fence.wide n P Q a w := by
 refine wpIn_rangeFunc ?_
 intro fn hfn
 obtain ⟨w₁, w₂, h1, h2, h3, h4⟩ := range_core (fn := fn) (R := rangePost Fence.wide n P (w.heap.size + 1) Q { a with defers := { target := .collected w.heap.size, args := #[] } :: a.defers }) hg eg hit bad hK hps I Tx (fun _ _ => False) hI hIb hTx (fun _ _ h => h.elim) h0 hround
  (fun l D W hD hi hk W' he hi' hk' hDe hle => by subst hDe; subst hle; exact ⟨none, W', he, hdone _ W' hD hi' hk'⟩)
  (fun l D c W hD hi W' he hi' hk' hDe hle => by subst hDe; subst hle; exact ⟨some c, W', he, hstop _ c W' hD hi' hk'⟩)
  (fun _ _ h => h.elim) (fun v v' W h => h)
 exact ⟨_, _, w₁, _, w₁, gf, _, w₂, h1, h2, fun f' hf' => trivial, h3, (fun h => by simp [Fence.wide] at h), callsIn_wide.2 h4⟩
theorem rangeFunc_P {α : Type} {P : Program} {f0 : FuncId} {F0 : Func} (hf0 : P.funcs[f0]? = some F0) {g : Operand} {ps : Array Tmp} {assign body : Code} {Q : Exit → Act → World → Prop} {a : Act} {w : World}
  {gf : Nat} {lb : Array Value} (hg : a.eval g = .func (.func gf) #[] lb) (eg : ∀ args w, (callFunc gf args).run P w = .ok (.enter gf args) w)
  {encs : α → Array Value} {xs : List α} {K : Nat → Prop} (hit : IterAt P gf lb encs xs K w) (bad : World → Nat → Prop) (hK : ∀ k, K k → k < w.heap.size ∧ ¬ bad w k) (hps : ∀ x, (encs x).size = ps.size)
  (I : List α → World → Prop) (Tx : Code → World → Prop) (Pn : List PanicEntry → World → Prop) (hI : OwnB w.heap.size I) (hIb : BadB w.heap.size I bad) (hTx : ∀ c, OwnB w.heap.size (fun (_ : Unit) => Tx c)) (h0 : I [] w)
  (hround : ∀ (l : Nat) (pre : List α) (x : α) (post : List α), xs = pre ++ x :: post → ∀ (W : World), I pre W → ∀ K' : Act → World → Prop,
   (∀ a1 W1, KeepsFrom w.heap.size W W1 → Kpb bad W W1 → I pre W1 → (∀ W2, Bump w.heap.size W1 W2 → I pre W2 → body.wpIn (Fence.wide.inRound l) 6 P (RP w.heap.size I Tx Pn bad pre x W2) a1 W2) → K' a1 W1) →
   assign.wpIn (Fence.wide.inRound l) 6 P (Exit.then K' (fun _ _ _ => False)) { tmps := (ps.zip (encs x)).foldl (fun t (p, v) => t.setIfInBounds p v) a.tmps, defers := [] } W)
  (hdone : ∀ (D : Nat) (W : World), w.heap.size ≤ D → I xs W → W.heap[D]? = some (.deferred (some [])) → Q .normal { a with defers := { target := .collected D, args := #[] } :: a.defers } W)
  (hstop : ∀ (D : Nat) (c : Code) (W : World), w.heap.size ≤ D → Tx c W → W.heap[D]? = some (.deferred (some [])) → wpAt f0 P c Q { a with defers := { target := .collected D, args := #[] } :: a.defers } W)
  (hpanic : ∀ (D : Nat) (ch : List PanicEntry) (W : World), w.heap.size ≤ D → Pn ch W → W.heap[D]? = some (.deferred (some [])) → Q (.panic ch) { a with defers := { target := .collected D, args := #[] } :: a.defers } W) :
  wpAt f0 P (Code.rangeFunc g ps assign body) Q a w := by
 refine wpAt_rangeFunc ?_
 obtain ⟨w₁, w₂, h1, h2, h3, h4⟩ := range_core (fn := f0) (R := rangePostAt f0 P (w.heap.size + 1) Q { a with defers := { target := .collected w.heap.size, args := #[] } :: a.defers }) hg eg hit bad hK hps I Tx Pn hI hIb hTx (fun _ _ _ => ⟨_, hf0⟩) h0 hround
  (fun l D W hD hi hk W' he hi' hk' hDe hle => by subst hDe; subst hle; exact ⟨none, W', he, hdone _ W' hD hi' hk'⟩)
  (fun l D c W hD hi W' he hi' hk' hDe hle => by subst hDe; subst hle; exact ⟨some c, W', he, hstop _ c W' hD hi' hk'⟩)
  (fun ch W hp hk => hpanic _ ch W (Nat.le_refl _) hp hk) (fun v v' W h => h)
 exact ⟨_, _, w₁, _, w₁, gf, _, w₂, h1, h2, h3, h4⟩
end Go.Proofs.YtgfhcmidnbahjaaGreatDoor
