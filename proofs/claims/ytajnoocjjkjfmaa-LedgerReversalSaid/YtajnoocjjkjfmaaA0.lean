import Derived.Test.YtajnoocjjkjfmaaW2
import Derived.BigRegionIn
import Derived.RegionIn
import Derived.Shelf.RegionOpen
import Derived.Maps.AppendAt
set_option linter.unusedVariables false
set_option linter.unusedSimpArgs false
namespace Go.Proofs.Ytajnoocjjkjfmaa
open Go.RowKit Go.Shelf
attribute [local go_sem] Oper.semAt_some

def wrongA (x : Int) : Bool := !inB x (-1000000000) 1000000000
def adjShape (a b : List Int) (ref : ByteArray) : Bool := decide (a.length = b.length) && inB (a.length : Int) 1 100 && decide (ref.size ≤ 60)
def diffL (a b : List Int) : List Int := List.zipWith (fun x y => y - x) a b
def adjE (a b : List Int) (ref : ByteArray) : Int :=
  if adjShape a b ref = false then 1 else if (a.any wrongA || b.any wrongA) = true then 1 else if (diffL a b).sum ≠ 0 then 380 else if (settleL ref (diffL a b)).any (fun e => decide (1000000000 < e.am)) = true then 2 else 0
def adjL (a b : List Int) (ref : ByteArray) : List Ent := if adjE a b ref = 0 then settleL ref (diffL a b) else []

theorem permitted_c (x : Int) (w : World) (R) (hR : R (.returned (.bool (inB x (-1000000000) 1000000000))) w) : Calls Try.prog 30 #[.int .i64 x] w R := by
  go_enter Try.func30, Try.ntmps30
  go_wp2_with (go_at_call 24; refine within_c _ _ _ _ _ ?_)
  exact hR
theorem settlement_c (v : Value) (ref : ByteArray) (w : World) (R)
    (hR : R (.returned (.func (.func 36) #[] #[.pointer (some ⟨w.heap.size, 0, none⟩), .pointer (some ⟨w.heap.size + 1, 0, none⟩)])) ((w.alloc (.cells #[v] 23)).alloc (.cells #[.string ref] 9)))
    (hv : ∃ p n c, v = .slice p n c) : Calls Try.prog 31 #[v, .string ref] w R := by
  obtain ⟨p, n, c, rfl⟩ := hv
  go_enter Try.func31, Try.ntmps31
  go_wp2
  exact hR

theorem adj_results {tmps : Array Value} {w : World} {b6 b7 : Nat} {v : Value} {e : Int} (h6 : tmps.getD 6 undef = .pointer (some ⟨b6, 0, none⟩)) (h7 : tmps.getD 7 undef = .pointer (some ⟨b7, 0, none⟩)) (c6 : w.cell? ⟨b6, 0, none⟩ = some v) (c7 : w.cell? ⟨b7, 0, none⟩ = some (.int .i64 e)) :
    (results Try.f17 tmps).run Try.prog w = .ok (.tuple #[v, .int .i64 e]) w := by
  simp only [Array.getD_eq_getD_getElem?] at h6 h7
  simp [results, Try.f17, go_sem, h6, h7, c6, c7]

theorem any_wrong (l : List Int) : l.any wrongA = !l.all (fun s => inB s (-1000000000) 1000000000) := by
  induction l with
  | nil => rfl
  | cons x l ih => rw [List.any_cons, List.all_cons, ih]; unfold wrongA; cases inB x (-1000000000) 1000000000 <;> rfl
theorem diff_bd : ∀ (a b : List Int), a.all (fun s => inB s (-1000000000) 1000000000) = true → b.all (fun s => inB s (-1000000000) 1000000000) = true → Bd 2000000000 (diffL a b)
  | [], b, _, _ => fun x hx => by simp [diffL] at hx
  | _ :: _, [], _, _ => fun x hx => by simp [diffL] at hx
  | u :: a, v :: b, ha, hb => fun x hx => by
    rw [List.all_cons, Bool.and_eq_true] at ha hb
    have h1 := inB_true ha.1; have h2 := inB_true hb.1
    rcases List.mem_cons.1 (show x ∈ (v - u) :: diffL a b from hx) with rfl | h
    · omega
    · exact diff_bd a b ha.2 hb.2 x h
theorem diff_take (a b : List Int) (k : Nat) : (diffL a b).take k = diffL (a.take k) (b.take k) := by unfold diffL; exact List.take_zipWith
theorem diff_len {a b : List Int} (h : a.length = b.length) : (diffL a b).length = a.length := by unfold diffL; rw [List.length_zipWith]; omega
theorem diff_at {a b : List Int} {k : Nat} {x y : Int} (hx : a[k]? = some x) (hy : b[k]? = some y) : (diffL a b)[k]? = some (y - x) := by unfold diffL; rw [List.getElem?_zipWith, hx, hy]
def difK (d : List Int) (k : Nat) : List Int := (List.range d.length).map fun i => if i < k then d.getD i 0 else 0
theorem difK_set {d : List Int} {k : Nat} {z : Int} (hz : d[k]? = some z) : (difK d k).set k z = difK d (k + 1) := by
  unfold difK
  refine set_range _ _ _ _ _ fun i hi => ?_
  by_cases h : k = i
  · subst h; rw [if_pos (by omega), if_pos rfl, getD_of hz]
  · by_cases h2 : i < k
    · rw [if_pos (by omega), if_neg h, if_pos h2]
    · rw [if_neg (by omega), if_neg h, if_neg h2]
theorem difK_all {d : List Int} : difK d d.length = d := by
  unfold difK
  apply List.ext_getElem?
  intro i
  rcases Nat.lt_or_ge i d.length with h | h
  · rw [List.getElem?_map, List.getElem?_range h, List.getElem?_eq_getElem h]; simp [h]
  · rw [List.getElem?_eq_none (by simpa using h), List.getElem?_eq_none h]
/-- The loops of a body, the outer ones, in their order. -/
def loopsOf : Code → List Code
  | .seq a b => loopsOf a ++ loopsOf b
  | .block _ c => loopsOf c
  | .cond _ a b => loopsOf a ++ loopsOf b
  | .scope c => loopsOf c
  | .loop c => [.loop c]
  | _ => []
noncomputable def adjLoop : Code := (loopsOf (Try.f17.body.getD .skip)).headD .skip
/-- What follows the first statement that holds a loop. -/
def afterLoop : Code → Code
  | .seq a b => if (loopsOf a).isEmpty then afterLoop b else b
  | .scope c => afterLoop c
  | _ => .skip
noncomputable def adjTail : Code := afterLoop (Try.f17.body.getD .skip)
end Go.Proofs.Ytajnoocjjkjfmaa
