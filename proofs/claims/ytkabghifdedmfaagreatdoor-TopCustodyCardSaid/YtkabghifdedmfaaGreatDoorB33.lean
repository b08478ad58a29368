/- The calendar of the fixed network. A range over an iterator whose first round returns. A region that draws its order, in a round of a range over a function: out of the laws for a function's own regions. -/
import Derived.Test.YtkabghifdedmfaaGreatDoorB32
import Derived.Laws.CopyOwn
import Derived.StillTailTactics
import Derived.BigQuiet
import Derived.Test.YtkabghifdedmfaaGreatDoorB21
import Derived.OrdersHeld
import Derived.Deep.RegionHeld3
set_option linter.unusedVariables false
set_option linter.unusedSimpArgs false
namespace Go.Proofs.YtkabghifdedmfaaGreatDoor
open Go.RowKit Go.Sort Go.Shelf

theorem rem110_c (w : World) (R) (hR : R (.returned (.int .i64 110)) w) : Calls Tryz.prog 174 #[.int .i64 110, .int .i64 1440] w R := by
  have HR := hide hR
  clear hR
  go_enter Tryz.func174, Tryz.ntmps174
  go_wp2
  exact HR.out
theorem rem0_c (w : World) (R) (hR : R (.returned (.int .i64 0)) w) : Calls Tryz.prog 174 #[.int .i64 0, .int .i64 7] w R := by
  have HR := hide hR
  clear hR
  go_enter Tryz.func174, Tryz.ntmps174
  go_wp2
  exact HR.out
theorem inRange0_c (w : World) (R) (hR : R (.returned (.bool true)) w) : Calls Tryz.prog 177 #[.int .i64 0] w R := by
  have HR := hide hR
  clear hR
  go_enter Tryz.func177, Tryz.ntmps177
  go_wp2
  exact HR.out
set_option maxRecDepth 100000 in
set_option maxHeartbeats 2000000 in
theorem local_c (g7 : Nat) (w : World) (R) (hR : ∀ w', Below w.heap.size w w' → R (.returned (.tuple #[.int .i64 0, .int .i64 110])) w') : Calls Tryz.prog 157 #[.agg #[.int .i64 0, .slice (some ⟨g7, 0, none⟩) 7 7, .slice none 0 0], .int .i64 110] w R := by
  have HR := hide hR
  obtain ⟨w1, hw1⟩ : ∃ w1, w.alloc (.cells #[.int .i64 0, .slice (some ⟨g7, 0, none⟩) 7 7, .slice none 0 0] 104) = w1 := ⟨_, rfl⟩
  have hb1 : Below w.heap.size w w1 := hw1 ▸ balloc (Below.refl _ _) _
  have k1 : Blk w1 w.heap.size #[.int .i64 0, .slice (some ⟨g7, 0, none⟩) 7 7, .slice none 0 0] 104 := hw1 ▸ Blk.new _ _ _
  have HB1 := hide hb1; have HK1 := hide k1
  have x0 := k1.cell (k := 0) rfl; have x1 := k1.cell (k := 1) rfl; have x2 := k1.cell (k := 2) rfl
  clear hR hb1 k1
  go_enter Tryz.func157, Tryz.ntmps157
  go_wp2_with (go_at_call 110; refine Stop.out ?_)
  refine Stop.go (validCal_c g7 _ _ ?_)
  intro w2 hb
  have HB2 := hide (bseq HB1.out hb)
  have k2 := HK1.out.next hb
  have y0 := k2.cell (k := 0) rfl; have y1 := k2.cell (k := 1) rfl; have y2 := k2.cell (k := 2) rfl
  clear hb k2 hw1 x0 x1 x2
  go_wp2_with (go_at_call 174; refine Stop.out ?_)
  refine Stop.go (rem110_c _ _ ?_)
  have HF := hide (HR.out _ HB2.out)
  go_wp2
  exact HF.out
set_option maxRecDepth 100000 in
set_option maxHeartbeats 2000000 in
theorem time_c (g7 : Nat) (w : World) (R) (hR : ∀ w', Below w.heap.size w w' → R (.returned (.int .i64 480)) w') : Calls Tryz.prog 159 #[.agg #[.int .i64 0, .slice (some ⟨g7, 0, none⟩) 7 7, .slice none 0 0], .int .i64 0, .int .i64 480] w R := by
  have HR := hide hR
  obtain ⟨w1, hw1⟩ : ∃ w1, w.alloc (.cells #[.int .i64 0, .slice (some ⟨g7, 0, none⟩) 7 7, .slice none 0 0] 104) = w1 := ⟨_, rfl⟩
  have hb1 : Below w.heap.size w w1 := hw1 ▸ balloc (Below.refl _ _) _
  have k1 : Blk w1 w.heap.size #[.int .i64 0, .slice (some ⟨g7, 0, none⟩) 7 7, .slice none 0 0] 104 := hw1 ▸ Blk.new _ _ _
  have HB1 := hide hb1; have HK1 := hide k1
  have x0 := k1.cell (k := 0) rfl; have x1 := k1.cell (k := 1) rfl; have x2 := k1.cell (k := 2) rfl
  clear hR hb1 k1
  go_enter Tryz.func159, Tryz.ntmps159
  go_wp2_with (go_at_call 110; refine Stop.out ?_)
  refine Stop.go (validCal_c g7 _ _ ?_)
  intro w2 hb
  have HB2 := hide (bseq HB1.out hb)
  have k2 := HK1.out.next hb
  have y0 := k2.cell (k := 0) rfl; have y1 := k2.cell (k := 1) rfl; have y2 := k2.cell (k := 2) rfl
  clear hb k2 hw1 x0 x1 x2
  go_wp2_with (go_at_call 177; refine Stop.out ?_)
  refine Stop.go (inRange0_c _ _ ?_)
  have HF := hide (HR.out _ HB2.out)
  go_wp2
  exact HF.out
theorem und102 : Tryz.prog.underlying 102 = some (.slice 4) := by kernel_rfl
theorem infoB : (Tryz.prog.info? 4).map (·.size) = some 1 := by kernel_rfl
set_option maxRecDepth 100000 in
set_option maxHeartbeats 2000000 in
theorem worker_c (g7 : Nat) (w : World) (R) (hW : Blk w g7 #[.bool true, .bool true, .bool true, .bool true, .bool true, .bool false, .bool false] 4)
    (hR : ∀ w' g, Below w.heap.size w w' → Blk w' g #[.int .i64 0, .slice (some ⟨g7, 0, none⟩) 7 7, .slice none 0 0] 104 → Blk w' (g + 1) #[.bool true, .bool true, .bool true, .bool true, .bool true, .bool false, .bool false] 261 → R (.returned (.func (.func 193) #[] #[.pointer (some ⟨g + 1, 0, none⟩), .pointer (some ⟨g, 0, none⟩)])) w') :
    Calls Tryz.prog 187 #[.agg #[.int .i64 0, .slice (some ⟨g7, 0, none⟩) 7 7, .slice none 0 0]] w R := by
  have HR := hide hR
  obtain ⟨w1, hw1⟩ : ∃ w1, (w.alloc (.cells #[.int .i64 0, .slice (some ⟨g7, 0, none⟩) 7 7, .slice none 0 0] 104)).alloc (.cells #[.bool false, .bool false, .bool false, .bool false, .bool false, .bool false, .bool false] 261) = w1 := ⟨_, rfl⟩
  have hb1 : Below w.heap.size w w1 := hw1 ▸ balloc (balloc (Below.refl _ _) _) _
  have k1 : Blk w1 w.heap.size #[.int .i64 0, .slice (some ⟨g7, 0, none⟩) 7 7, .slice none 0 0] 104 := by rw [← hw1]; exact (Blk.new _ _ _).next (balloc (Below.refl _ _) _)
  have k2 : Blk w1 (w.heap.size + 1) #[.bool false, .bool false, .bool false, .bool false, .bool false, .bool false, .bool false] 261 := by rw [← hw1]; exact Blk.new_at (by simp)
  have HI := hide (show Blk w1.drew w.heap.size #[.int .i64 0, .slice (some ⟨g7, 0, none⟩) 7 7, .slice none 0 0] 104 ∧ Blk w1.drew (w.heap.size + 1) #[.bool false, .bool false, .bool false, .bool false, .bool false, .bool false, .bool false] 261 ∧ Blk w1.drew g7 #[.bool true, .bool true, .bool true, .bool true, .bool true, .bool false, .bool false] 4 ∧ Below w.heap.size w w1.drew from ⟨k1.next (Below.refl _ _).drew, k2.next (Below.refl _ _).drew, (hW.next hb1).next (Below.refl _ _).drew, hb1.drew⟩)
  have x1 := k1.cell (k := 1) rfl
  clear hR hW hb1 k1 k2
  go_enter Tryz.func187, Tryz.ntmps187
  go_wp2
  clear hw1
  go_still_tail 3, (by kernel_rfl)
  change wpList _ _ _ _ _ w1.drew
  have hcp : Sem.run Tryz.prog (Builtin.copy_ #[102, 102] 3 #[.slice (some ⟨w.heap.size + 1, 0, none⟩) 7 7, .slice (some ⟨g7, 0, none⟩) 7 7]) w1.drew = .ok (goInt 7) (w1.drew.setRow (w.heap.size + 1) #[.bool true, .bool true, .bool true, .bool true, .bool true, .bool false, .bool false]) :=
    run_copy_row Tryz.prog w1.drew 102 102 3 4 (w.heap.size + 1) 0 7 7 ⟨g7, 0, none⟩ 7 7 #[.bool false, .bool false, .bool false, .bool false, .bool false, .bool false, .bool false] 261 [.bool true, .bool true, .bool true, .bool true, .bool true, .bool false, .bool false] und102 infoB HI.out.2.1 rfl (fun j v hv => by have h := HI.out.2.2.1.cell (k := j) (v := v) (by rw [← hv, List.getElem?_toArray]); have e : (⟨g7, 0, none⟩ : Addr).add j = ⟨g7, j, none⟩ := (by simp [Addr.add]; intro e; exact e.symm); rw [e]; exact h) (by decide) (by decide)
  have hb := below_setRow (Below.refl (w.heap.size + 1) w1.drew) (Nat.le_refl _) #[.bool true, .bool true, .bool true, .bool true, .bool true, .bool false, .bool false]
  have HF := hide (HR.out _ w.heap.size (HI.out.2.2.2.trans (hb.mono (Nat.le_succ _))) (HI.out.1.same (hb.block _ (Nat.lt_succ_self _))) (setRow_heap w1.drew _ _ _ 261 (0, 0) HI.out.2.1))
  clear hb
  go_wp2
  exact HF.out
set_option maxRecDepth 100000 in
set_option maxHeartbeats 2000000 in
theorem search0_c (f : Value) (w : World) (R) (hR : R (.returned (.int .i64 0)) w) : Calls Tryz.prog 101 #[.int .i64 0, f] w R := by
  have HR := hide hR
  clear hR
  go_enter Tryz.func101, Tryz.ntmps101
  go_wp2
  go_loopw [5, 6] (fun si sj wr => si = .int .i64 0 ∧ sj = .int .i64 0 ∧ wr = w) (fun _ _ _ => 0)
  case atStart => exact ⟨rfl, rfl, rfl⟩
  case round =>
    obtain ⟨rfl, rfl, rfl⟩ := hrel
    go_wp2
    exact HR.out
set_option maxRecDepth 100000 in
set_option maxHeartbeats 2000000 in
theorem wk_c (g7 g : Nat) (w : World) (R) (h1 : Blk w g #[.int .i64 0, .slice (some ⟨g7, 0, none⟩) 7 7, .slice none 0 0] 104) (h2 : Blk w (g + 1) #[.bool true, .bool true, .bool true, .bool true, .bool true, .bool false, .bool false] 261)
    (hR : ∀ w', Below w.heap.size w w' → R (.returned (.bool true)) w') :
    Calls Tryz.prog 193 #[.int .i64 0, .pointer (some ⟨g + 1, 0, none⟩), .pointer (some ⟨g, 0, none⟩)] w R := by
  have HR := hide hR
  obtain ⟨w1, hw1⟩ : ∃ w1, w.alloc (.cells #[.int .i64 0] 3) = w1 := ⟨_, rfl⟩
  have hb1 : Below w.heap.size w w1 := hw1 ▸ balloc (Below.refl _ _) _
  have k1 : Blk w1 w.heap.size #[.int .i64 0] 3 := hw1 ▸ Blk.new _ _ _
  have HB1 := hide hb1
  have x0 := k1.cell (k := 0) rfl
  have y2 := (h1.next hb1).cell (k := 2) rfl
  have z0 := (h2.next hb1).cell (k := 0) rfl
  clear hR hb1 k1 h1 h2
  go_enter Tryz.func193, Tryz.ntmps193
  go_wp2_with (go_at_call 174; refine Stop.out ?_)
  refine Stop.go (rem0_c _ _ ?_)
  go_wp2_with (go_at_call 101; refine Stop.out ?_)
  refine Stop.go (search0_c _ _ _ ?_)
  clear hw1
  go_wp2
  go_quiet (fail)
  have HF := hide (fun n => HR.out _ (below_drewN' HB1.out n))
  go_wp2
  exact HF.out _
set_option maxRecDepth 100000 in
set_option maxHeartbeats 2000000 in
theorem work_c (g7 : Nat) (w : World) (R) (hW : Blk w g7 #[.bool true, .bool true, .bool true, .bool true, .bool true, .bool false, .bool false] 4) (hR : ∀ w', Below w.heap.size w w' → R (.returned (.bool true)) w') : Calls Tryz.prog 176 #[.agg #[.int .i64 0, .slice (some ⟨g7, 0, none⟩) 7 7, .slice none 0 0], .int .i64 0] w R := by
  have HR := hide hR
  obtain ⟨w1, hw1⟩ : ∃ w1, w.alloc (.cells #[.int .i64 0, .slice (some ⟨g7, 0, none⟩) 7 7, .slice none 0 0] 104) = w1 := ⟨_, rfl⟩
  have hb1 : Below w.heap.size w w1 := hw1 ▸ balloc (Below.refl _ _) _
  have k1 : Blk w1 w.heap.size #[.int .i64 0, .slice (some ⟨g7, 0, none⟩) 7 7, .slice none 0 0] 104 := hw1 ▸ Blk.new _ _ _
  have HB1 := hide hb1; have HK1 := hide k1; have HW1 := hide (hW.next hb1)
  have x0 := k1.cell (k := 0) rfl; have x1 := k1.cell (k := 1) rfl; have x2 := k1.cell (k := 2) rfl
  clear hR hb1 k1 hW
  go_enter Tryz.func176, Tryz.ntmps176
  go_wp2_with (go_at_call 110; refine Stop.out ?_)
  refine Stop.go (validCal_c g7 _ _ ?_)
  intro w2 hb
  have HB2 := hide (bseq HB1.out hb); have HW2 := hide (HW1.out.next hb)
  have k2 := HK1.out.next hb
  have y0 := k2.cell (k := 0) rfl; have y1 := k2.cell (k := 1) rfl; have y2 := k2.cell (k := 2) rfl
  clear hb k2 hw1 x0 x1 x2
  go_wp2_with (go_at_call 177; refine Stop.out ?_)
  refine Stop.go (inRange0_c _ _ ?_)
  go_wp2_with (go_at_call 187; refine Stop.out ?_)
  refine Stop.go (worker_c g7 _ _ HW2.out ?_)
  intro w3 g hb hg1 hg2
  have HB3 := hide (bseq HB2.out hb)
  have Hg1 := hide hg1; have Hg2 := hide hg2
  clear hb hg1 hg2 y0 y1 y2
  go_wp2_with (go_at_call 193; refine Stop.out ?_)
  refine Stop.go (wk_c g7 g _ _ Hg1.out Hg2.out ?_)
  intro w4 hb
  have HF := hide (HR.out _ (bseq HB3.out hb))
  clear hb
  go_wp2
  exact HF.out
end Go.Proofs.YtkabghifdedmfaaGreatDoor

namespace Go.Proofs.YtkabghifdedmfaaGreatDoor
open Go.RowKit

/-- An iterator that lays x at least once, and ends when it is told to stop. -/
def SeqR (F : Fence) (n : Nat) (P : Program) (g : Nat) (lb : Array Value) (x : Array Value) (w : World) : Prop :=
  ∀ (l : Nat) (J T : World → Prop) (W : World), Below w.heap.size w W →
    (∀ A B, J A → Below A.heap.size A B → J B) →
    (∀ W1, J W1 → YieldAt F (n - 1) P l x W1 fun e W' => e = .returned (.bool false) ∧ T W') →
    J W →
    CallsIn F n P g (#[.func (.yield l) #[] #[]] ++ lb) W fun e W' => (∃ v, e = .returned v) ∧ T W'

section
variable {F : Fence} {n : Nat} {P : Program}
theorem rangeFunc_R {g : Operand} {ps : Array Tmp} {assign body : Code} {Q : Exit → Act → World → Prop} {a : Act} {w : World}
    (hro : F.round = none) (h1 : 1 ≤ n) {gf : Nat} {lb : Array Value} (hg : a.eval g = .func (.func gf) #[] lb) (hFg : F.fn gf) (eg : ∀ args w, (callFunc gf args).run P w = .ok (.enter gf args) w)
    {x : Array Value} (hseq : SeqR F (n - 1) P gf lb x w) (hps : x.size = ps.size)
    (I Rb : World → Prop) (hI : OwnB w.heap.size (fun (_ : Unit) => I)) (hRb : OwnB w.heap.size (fun (_ : Unit) => Rb)) (h0 : I w)
    (hround : ∀ (l : Nat) (W : World) (K' : Act → World → Prop), I W → (∀ a1, (∀ W2, I W2 → body.wpIn (F.inRound l) (n - 1 - 1) P (fun e _ W' => e = .ret ∧ KeepsFrom w.heap.size W2 W' ∧ Rb W') a1 W2) → K' a1 W) →
      assign.wpIn (F.inRound l) (n - 1 - 1) P (Exit.then K' (fun _ _ _ => False)) { tmps := (ps.zip x).foldl (fun t (p, v) => t.setIfInBounds p v) a.tmps, defers := [] } W)
    (hstop : ∀ (D : Nat) (W : World), w.heap.size ≤ D → Rb W → W.heap[D]? = some (.deferred (some [])) → Code.ret.wpIn F n P Q { a with defers := { target := .collected D, args := #[] } :: a.defers } W) :
    (Code.rangeFunc g ps assign body).wpIn F n P Q a w := by
  refine wpIn_rangeFunc ?_
  intro fn hfn
  rw [hro]
  let rc : LoopState → Option Code → Loop := fun st pe => { state := st, pending := pe, fn, tmps := a.tmps, params := ps, assign, body, defers := w.heap.size }
  obtain ⟨W1, hW1⟩ : ∃ W1, (w.alloc (.deferred (some []))).alloc (.loop (rc .ready none)) = W1 := ⟨_, rfl⟩
  have hL1 : W1.heap[w.heap.size + 1]? = some (.loop (rc .ready none)) := by
    rw [← hW1]; have := World.alloc_heap_new (w.alloc (.deferred (some []))) (.loop (rc .ready none)); rwa [World.size_alloc] at this
  have hD1 : W1.heap[w.heap.size]? = some (.deferred (some [])) := by
    rw [← hW1]; exact (Below.heap_alloc _ _ _ (by simp)).trans (World.alloc_heap_new w _)
  have hB1 : Below w.heap.size w W1 := by rw [← hW1]; exact ((Below.refl _ w).alloc (Nat.le_refl _) _).alloc (by simp) _
  have hg1 : w.grownBy W1 none := by rw [← hW1]; exact (World.grownBy_alloc _ _ none).trans (World.grownBy_alloc _ _ none)
  have step : ∀ {A A' : World} {k : Nat} {o : Obj}, A.grownBy A' none → A.heap[k]? = some o → A'.heap[k]? = some o := fun h ho =>
    (h.block _ (Array.getElem?_eq_some_iff.1 ho).1 (by simp)).trans ho
  have put : ∀ {J : World → Prop}, OwnB w.heap.size (fun (_ : Unit) => J) → ∀ {A : World} {o : Obj} (o' : Obj), J A → A.heap[w.heap.size + 1]? = some o → o.isCells = false → J (A.putObj (w.heap.size + 1) o') := fun hJ A o o' hs ho hc =>
    hJ () A _ (some (w.heap.size + 1)) hs (grownBy_putObj' A _ o') (fun r e => by cases e; exact ⟨by omega, o, ho, hc⟩)
  refine ⟨w.heap.size + 1, [{ target := .collected w.heap.size, args := #[] }], W1, { target := .fn (.func gf) lb, args := #[.func (.yield (w.heap.size + 1)) #[] #[]] }, W1, gf, #[.func (.yield (w.heap.size + 1)) #[] #[]] ++ lb, W1, ?_, ?_, ?_, ?_, fun _ => h1, ?_⟩
  · rw [← hW1]; exact run_enterLoop_outer _ _ _ _ _
  · simp only [resolve, hg]; simp [go_sem]
  · intro f' hf'; simp [Target.leads] at hf'; subst hf'; exact hFg
  · simp [invoke, go_sem, eg]
  refine (hseq (w.heap.size + 1)
    (fun W => I W ∧ W.heap[w.heap.size + 1]? = some (.loop (rc .ready none)) ∧ W.heap[w.heap.size]? = some (.deferred (some [])))
    (fun W => Rb W ∧ W.heap[w.heap.size + 1]? = some (.loop (rc .done (some .ret))) ∧ W.heap[w.heap.size]? = some (.deferred (some [])))
    W1 hB1 (fun A A' hs hA => ⟨hI () A A' _ hs.1 (grown_of_below hA) (fun r e => by cases e), step (grown_of_below hA) hs.2.1, step (grown_of_below hA) hs.2.2⟩)
    ?_ ⟨hI () w W1 none h0 hg1 (fun r e => by cases e), hL1, hD1⟩).mono ?_
  · -- the round
    rintro W ⟨hi, hl, hk⟩
    refine ⟨fn, _, assign, body, run_yield (P := P) (args := x) hl hps, roundIn_of_wpIn hfn (hround _ W _ hi (fun a1 hbody => ?_))⟩
    refine ⟨_, run_beginRound hl rfl, ?_⟩
    have hlt : w.heap.size + 1 < W.heap.size := (Array.getElem?_eq_some_iff.1 hl).1
    have hl2 : (W.putObj (w.heap.size + 1) (.loop { rc .ready none with state := .busy })).heap[w.heap.size + 1]? = some (.loop { rc .ready none with state := .busy }) := World.putObj_heap_same hlt
    have hk2 : (W.putObj (w.heap.size + 1) (.loop { rc .ready none with state := .busy })).heap[w.heap.size]? = some (.deferred (some [])) := (World.putObj_heap_other (by omega)).trans hk
    refine wpIn_mono (hbody _ (put hI _ hi hl rfl)) ?_
    rintro e a3 W3 ⟨rfl, hk3, hr3⟩
    have hl3 := hk3.same _ _ (Nat.le_succ _) hl2 rfl
    have hd3 := hk3.same _ _ (Nat.le_refl _) hk2 rfl
    exact ⟨_, _, run_endRound (P := P) (some .ret) hl3, rfl, put hRb _ hr3 hl3 rfl, World.putObj_heap_same (Array.getElem?_eq_some_iff.1 hl3).1, (World.putObj_heap_other (by omega)).trans hd3⟩
  · -- behind the iterator
    rintro e W2 ⟨⟨v, rfl⟩, hr, hl, hk⟩
    exact ⟨some .ret, _, run_endLoop (P := P) hl (by simp [rc]), hstop _ _ (Nat.le_refl _) (put hRb _ hr hl rfl) ((World.putObj_heap_other (by omega)).trans hk)⟩
/-- An iterator that makes blocks alone, and reads what its caller has written: V tells what the caller's word says of it. -/
def SeqV {α : Type} (F : Fence) (n : Nat) (P : Program) (g : Nat) (lb : Array Value) (encs : α → Array Value) (V : List α → World → Prop) (Px : List α → α → World → Prop) (S : List α → Prop) (N : Nat) (w : World) : Prop :=
  ∀ (l : Nat) (J : List α → World → Prop) (W : World), Below w.heap.size w W →
    (∀ s A B, J s A → Below A.heap.size A B → J s B) → (∀ s A, J s A → V s A) →
    (∀ pre x W1, J pre W1 → Px pre x W1 → pre.length < N → YieldAt F (n - 1) P l (encs x) W1 fun e W' => e = .returned (.bool true) ∧ J (pre ++ [x]) W') →
    J [] W →
    CallsIn F n P g (#[.func (.yield l) #[] #[]] ++ lb) W fun e W' => (∃ v, e = .returned v) ∧ ∃ xs, S xs ∧ J xs W'
theorem rangeFunc_V {α : Type} {g : Operand} {ps : Array Tmp} {assign body : Code} {Q : Exit → Act → World → Prop} {a : Act} {w : World}
    (hro : F.round = none) (h1 : 1 ≤ n) {gf : Nat} {lb : Array Value} (hg : a.eval g = .func (.func gf) #[] lb) (hFg : F.fn gf) (eg : ∀ args w, (callFunc gf args).run P w = .ok (.enter gf args) w)
    {encs : α → Array Value} {V : List α → World → Prop} {Px : List α → α → World → Prop} {S : List α → Prop} {N : Nat} (hseq : SeqV F (n - 1) P gf lb encs V Px S N w) (hps : ∀ x, (encs x).size = ps.size)
    (I : List α → World → Prop) (hI : OwnB w.heap.size I) (hIV : ∀ s W, I s W → V s W) (h0 : I [] w)
    (hround : ∀ (l : Nat) (pre : List α) (x : α) (W : World) (K' : Act → World → Prop), I pre W → Px pre x W → pre.length < N → (∀ a1, (∀ W2, I pre W2 → body.wpIn (F.inRound l) (n - 1 - 1) P (fun e _ W' => e = .normal ∧ KeepsFrom w.heap.size W2 W' ∧ I (pre ++ [x]) W') a1 W2) → K' a1 W) →
      assign.wpIn (F.inRound l) (n - 1 - 1) P (Exit.then K' (fun _ _ _ => False)) { tmps := (ps.zip (encs x)).foldl (fun t (p, v) => t.setIfInBounds p v) a.tmps, defers := [] } W)
    (hdone : ∀ (D : Nat) (xs : List α) (W : World), w.heap.size ≤ D → S xs → I xs W → W.heap[D]? = some (.deferred (some [])) → Q .normal { a with defers := { target := .collected D, args := #[] } :: a.defers } W) :
    (Code.rangeFunc g ps assign body).wpIn F n P Q a w := by
  refine wpIn_rangeFunc ?_
  intro fn hfn
  rw [hro]
  let rc : LoopState → Option Code → Loop := fun st pe => { state := st, pending := pe, fn, tmps := a.tmps, params := ps, assign, body, defers := w.heap.size }
  obtain ⟨W1, hW1⟩ : ∃ W1, (w.alloc (.deferred (some []))).alloc (.loop (rc .ready none)) = W1 := ⟨_, rfl⟩
  have hL1 : W1.heap[w.heap.size + 1]? = some (.loop (rc .ready none)) := by
    rw [← hW1]; have := World.alloc_heap_new (w.alloc (.deferred (some []))) (.loop (rc .ready none)); rwa [World.size_alloc] at this
  have hD1 : W1.heap[w.heap.size]? = some (.deferred (some [])) := by
    rw [← hW1]; exact (Below.heap_alloc _ _ _ (by simp)).trans (World.alloc_heap_new w _)
  have hB1 : Below w.heap.size w W1 := by rw [← hW1]; exact ((Below.refl _ w).alloc (Nat.le_refl _) _).alloc (by simp) _
  have hg1 : w.grownBy W1 none := by rw [← hW1]; exact (World.grownBy_alloc _ _ none).trans (World.grownBy_alloc _ _ none)
  have step : ∀ {A A' : World} {k : Nat} {o : Obj}, A.grownBy A' none → A.heap[k]? = some o → A'.heap[k]? = some o := fun h ho =>
    (h.block _ (Array.getElem?_eq_some_iff.1 ho).1 (by simp)).trans ho
  have put : ∀ {J : List α → World → Prop}, OwnB w.heap.size J → ∀ {s : List α} {A : World} {o : Obj} (o' : Obj), J s A → A.heap[w.heap.size + 1]? = some o → o.isCells = false → J s (A.putObj (w.heap.size + 1) o') := fun hJ s A o o' hs ho hc =>
    hJ s A _ (some (w.heap.size + 1)) hs (grownBy_putObj' A _ o') (fun r e => by cases e; exact ⟨by omega, o, ho, hc⟩)
  refine ⟨w.heap.size + 1, [{ target := .collected w.heap.size, args := #[] }], W1, { target := .fn (.func gf) lb, args := #[.func (.yield (w.heap.size + 1)) #[] #[]] }, W1, gf, #[.func (.yield (w.heap.size + 1)) #[] #[]] ++ lb, W1, ?_, ?_, ?_, ?_, fun _ => h1, ?_⟩
  · rw [← hW1]; exact run_enterLoop_outer _ _ _ _ _
  · simp only [resolve, hg]; simp [go_sem]
  · intro f' hf'; simp [Target.leads] at hf'; subst hf'; exact hFg
  · simp [invoke, go_sem, eg]
  refine (hseq (w.heap.size + 1)
    (fun pre W => I pre W ∧ W.heap[w.heap.size + 1]? = some (.loop (rc .ready none)) ∧ W.heap[w.heap.size]? = some (.deferred (some [])))
    W1 hB1 (fun s A A' hs hA => ⟨hI s A A' _ hs.1 (grown_of_below hA) (fun r e => by cases e), step (grown_of_below hA) hs.2.1, step (grown_of_below hA) hs.2.2⟩)
    (fun s A hs => hIV s A hs.1)
    ?_ ⟨hI [] w W1 none h0 hg1 (fun r e => by cases e), hL1, hD1⟩).mono ?_
  · -- a round
    rintro pre x W ⟨hi, hl, hk⟩ hpx hlen
    refine ⟨fn, _, assign, body, run_yield (P := P) (args := encs x) hl (hps x), roundIn_of_wpIn hfn (hround _ pre x W _ hi hpx hlen (fun a1 hbody => ?_))⟩
    refine ⟨_, run_beginRound hl rfl, ?_⟩
    have hlt : w.heap.size + 1 < W.heap.size := (Array.getElem?_eq_some_iff.1 hl).1
    have hl2 : (W.putObj (w.heap.size + 1) (.loop { rc .ready none with state := .busy })).heap[w.heap.size + 1]? = some (.loop { rc .ready none with state := .busy }) := World.putObj_heap_same hlt
    have hk2 : (W.putObj (w.heap.size + 1) (.loop { rc .ready none with state := .busy })).heap[w.heap.size]? = some (.deferred (some [])) := (World.putObj_heap_other (by omega)).trans hk
    refine wpIn_mono (hbody _ (put hI _ hi hl rfl)) ?_
    rintro e a3 W3 ⟨rfl, hk3, hr3⟩
    have hl3 := hk3.same _ _ (Nat.le_succ _) hl2 rfl
    have hd3 := hk3.same _ _ (Nat.le_refl _) hk2 rfl
    exact ⟨_, _, run_endRound (P := P) none hl3, rfl, put hI _ hr3 hl3 rfl, World.putObj_heap_same (Array.getElem?_eq_some_iff.1 hl3).1, (World.putObj_heap_other (by omega)).trans hd3⟩
  · -- behind the iterator
    rintro e W2 ⟨⟨v, rfl⟩, xs, hS, hi, hl, hk⟩
    exact ⟨none, _, run_endLoop (P := P) hl (by simp [rc]), hdone _ xs _ (Nat.le_refl _) hS (put hI _ hi hl rfl) ((World.putObj_heap_other (by omega)).trans hk)⟩
end
end Go.Proofs.YtkabghifdedmfaaGreatDoor

namespace Go.Proofs.YtkabghifdedmfaaGreatDoor
open Go.RowKit

def noDefer (ops : Array Oper) : Bool := ops.all fun o => match o.op with | .defer _ => false | _ => true
theorem noDefer_spec {ops : Array Oper} (h : noDefer ops = true) {i : Nat} {o : Oper} (hi : ops[i]? = some o) : ∀ c, o.op ≠ .defer c := fun c e => by
  unfold noDefer at h
  rw [Array.all_eq_true_iff_forall_mem] at h
  have := h o (Array.mem_of_getElem? hi)
  rw [e] at this
  simp at this
theorem uponIn_of_upon {l n : Nat} {P : Program} {o : Oper} {a : Act} {K : Act → World → Prop} {Q : Exit → Act → World → Prop} {r : Result Next} (h : o.upon P a K Q r) : o.uponIn (Fence.wide.inRound l) n P a K Q r := by
  cases r with
  | ok x w' =>
    cases x with
    | value v => exact h
    | skip => exact h
    | defer d => exact h
    | enter f args => exact ⟨(fun hh => by cases hh), CallsIn.inRound l (callsIn_wide.2 h)⟩
    | row row args => exact ⟨(fun hh => by cases hh), fun c cs _ => let ⟨v, w', r, s⟩ := h c cs; ⟨v, w', r, stepsIn_wide.2 s⟩⟩
    | _ => exact h.elim
  | halt x w' =>
    cases x with
    | panic v => exact h
    | _ => exact h.elim
theorem wpAnyIn_of_wpAny {l n : Nat} {P : Program} {md : Region.Mode} {ops : Array Oper} {Q : Exit → Act → World → Prop} (hd : noDefer ops = true) (hno : ∀ a w, ¬ Q .outgrown a w) :
    ∀ (fuel : Nat) (listed : Array Bool) (a : Act) (w : World), wpAny P md ops Q fuel listed a w → wpAnyIn (Fence.wide.inRound l) n P md ops Q fuel listed a w
  | 0, _, _, _, h => h
  | fuel + 1, listed, a, w, h => ⟨h.1, fun i hi => by
    have h2 := h.2 i hi
    unfold wpOp at h2
    unfold wpOpIn
    cases ho : ops[i]? with
    | none => rw [ho] at h2; exact wpAnyIn_of_wpAny hd hno fuel _ _ _ h2
    | some o =>
      rw [ho] at h2
      simp only at h2 ⊢
      by_cases hw : Region.wanted o (yielded ops a.tmps) = true
      · rw [if_pos hw] at h2 ⊢
        refine Oper.wpIn_mono (fun a' w' h' => wpAnyIn_of_wpAny hd hno fuel _ a' w' h') ⟨fun _ _ => trivial, ?_⟩
        rw [Oper.semAt_plain _ _ _ (noDefer_spec hd ho)]
        rcases h2 with h2 | ⟨_, a0, w0, hq⟩
        · exact uponIn_of_upon h2
        · exact (hno a0 w0 hq).elim
      · rw [if_neg hw] at h2 ⊢
        exact ⟨fun _ _ => trivial, wpAnyIn_of_wpAny hd hno fuel _ _ _ h2⟩⟩
theorem rnd_any {l n : Nat} {P : Program} {ops : Array Oper} {Q : Exit → Act → World → Prop} {id : Nat} {a : Act} {w : World} (hm : P.follows .mixedOrders = true) (hd : noDefer ops = true) (hno : ∀ a w, ¬ Q .outgrown a w)
    (h : wpAny P .any ops Q ops.size (Array.replicate ops.size false) a w.drew) : (Code.region id ops true).wpIn (Fence.wide.inRound l) n P Q a w :=
  wpIn_region_any hm (wpAnyIn_of_wpAny hd hno _ _ _ _ h)
theorem rnd_still_tail {l' n' : Nat} {P : Program} {id : Nat} {Q : Exit → Act → World → Prop} {a : Act} {w : World} {l : List Oper} (n : Nat) (hm : P.follows .mixedOrders = true) (hd : noDefer l.toArray = true) (hno : ∀ a w, ¬ Q .outgrown a w) (hB : Region.lexTailB .any l.toArray n = true)
    (h : wpStill P l.toArray w.drew (fun a' => wpList P l.toArray Q (l.drop n) a' w.drew) (l.take n) a) : (Code.region id l.toArray true).wpIn (Fence.wide.inRound l') n' P Q a w := by
  simp only [Region.lexTailB, Bool.and_eq_true, decide_eq_true_eq] at hB
  obtain ⟨⟨⟨⟨hsel, hn⟩, hs⟩, hc⟩, hlex⟩ := hB
  have hn' : n < l.length := by simpa using hn
  have htl : (l.take n).length = n := by simp; omega
  have hdl : (l.drop n).length = l.toArray.size - n := by simp
  have inv0 : HeadInv .any l.toArray n (Array.replicate l.toArray.size false) :=
    ⟨by simp, fun j oj _ hl => (by rw [getD_replicate_false] at hl; cases hl), fun t _ ht => getD_in (by simpa using ht) (getD_replicate_false _ _)⟩
  have H := wpAnyL_lex (md := .any) (g := l.toArray.size - n) hsel hs hc hn (l.take n) 0 _ a (fun j hj => by
    have hj' : j < n := by rw [htl] at hj; exact hj
    simp [hj']) (by simpa using htl) inv0 (by rw [htl]; exact hlex) h
  refine rnd_any hm hd hno ?_
  have := wpAny_of_head (Q' := Q) (g := l.toArray.size - n) (fun listed a' hL => by
    have := wpAny_of_seq (md := .any) (Q' := Q) (l.drop n) n listed a' w.drew (fun j => by simp [List.getElem?_drop]) (by rw [hdl]; exact hL.1) hL.2
    rwa [hdl] at this) _ _ _ H
  rw [htl, show n + (l.toArray.size - n) = l.toArray.size by omega] at this
  exact this
theorem rnd_quiet_lit {l' n' : Nat} {P : Program} {id : Nat} {Q : Exit → Act → World → Prop} {a : Act} {w : World} {l : List Oper} (hm : P.follows .mixedOrders = true) (hd : noDefer l.toArray = true) (hno : ∀ a w, ¬ Q .outgrown a w) (hB : Region.lexB .any l.toArray = true)
    (h : wpQuiet P l.toArray (fun w' => ∃ n, w' = w.drewN n) (fun a' => ∀ w', (∃ n, w' = w.drewN n) → Q .normal a' w') l a) : (Code.region id l.toArray true).wpIn (Fence.wide.inRound l') n' P Q a w := by
  simp only [Region.lexB, Bool.and_eq_true] at hB
  refine rnd_any hm hd hno (wpAny_of_quiet (C := fun w' => ∃ n, w' = w.drewN n) (Q := fun a' => ∀ w', (∃ n, w' = w.drewN n) → Q .normal a' w') (fun _ w' hw' h => h w' hw') _ _ _ _ ⟨1, rfl⟩ ?_)
  have := wpAnyQ_lex (C := fun w' => ∃ n, w' = w.drewN n) (md := .any) hB.1 l 0 (Array.replicate l.toArray.size false) a (by simp) (by simpa using hB.2) h
  simpa using this
theorem rnd_held {l n : Nat} {P : Program} {ops : Array Oper} {Q : Exit → Act → World → Prop} {S : World → Prop} {id : Nat} {a : Act} {w : World} (hm : P.follows .mixedOrders = true) (hd : noDefer ops = true) (hno : ∀ a w, ¬ Q .outgrown a w)
    (h : wpAnyH P .any ops Q S ops.size (Array.replicate ops.size false) a w.drew) : (Code.region id ops true).wpIn (Fence.wide.inRound l) n P Q a w :=
  rnd_any hm hd hno (wpAny_of_held _ _ _ _ h)
end Go.Proofs.YtkabghifdedmfaaGreatDoor
