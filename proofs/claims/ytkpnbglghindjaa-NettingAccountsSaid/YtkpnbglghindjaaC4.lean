import Derived.Test.YtkpnbglghindjaaC2
import Derived.Test.YtkpnbglghindjaaC3
set_option linter.unusedVariables false
set_option linter.unusedSimpArgs false
namespace Go.Proofs.Ytkpnbglghindjaa
open Go.RowKit Math

def trCells (t : Tr) : List Value := [.int .i64 t.fr, .int .i64 t.to_, .int .i64 t.am]
/-- A slice of payments that the call owns. -/
abbrev OwnT (w : World) (base : Nat) (v : Value) (l : List Tr) : Prop := w.ownsRow base 36 3 v l.length (l.flatMap trCells)

theorem length_trCells (l : List Tr) : (l.flatMap trCells).length = l.length * 3 := by
  induction l with
  | nil => rfl
  | cons t l ih => simp [trCells, ih]; omega
theorem trCells_at (l : List Tr) (i : Nat) (t : Tr) (h : l[i]? = some t) : (l.flatMap trCells)[i * 3]? = some (.int .i64 t.fr) ∧ (l.flatMap trCells)[i * 3 + 1]? = some (.int .i64 t.to_) ∧ (l.flatMap trCells)[i * 3 + 2]? = some (.int .i64 t.am) := by
  induction l generalizing i with
  | nil => simp at h
  | cons a l ih =>
    cases i with
    | zero => simp at h; subst h; simp [trCells]
    | succ i =>
      have := ih i (by simpa using h)
      simp only [List.flatMap_cons, show (i + 1) * 3 = i * 3 + 3 by omega]
      simpa [trCells, List.getElem?_append_right, show i * 3 + 3 + 1 = (i * 3 + 1) + 3 by omega, show i * 3 + 3 + 2 = (i * 3 + 2) + 3 by omega] using this

theorem trCells_one (t : Tr) : ∀ u ∈ trCells t, u.oneCell' = true := by
  intro u hu
  simp only [trCells, List.mem_cons, List.not_mem_nil, or_false] at hu
  rcases hu with rfl | rfl | rfl <;> rfl
theorem trCells_src {w : World} {b : Nat} {t : Tr} (h0 : w.cell? ⟨b, 0, none⟩ = some (.int .i64 t.fr)) (h1 : w.cell? ⟨b, 1, none⟩ = some (.int .i64 t.to_)) (h2 : w.cell? ⟨b, 2, none⟩ = some (.int .i64 t.am)) : Src w (some ⟨b, 0, none⟩) 1 3 (trCells t) :=
  ⟨rfl, fun _ => ⟨_, rfl, fun j u hu => by
    rw [Addr.add_lit, Nat.zero_add]
    match j, hu with
    | 0, hu => simp [trCells] at hu; subst hu; exact h0
    | 1, hu => simp [trCells] at hu; subst hu; exact h1
    | 2, hu => simp [trCells] at hu; subst hu; exact h2⟩⟩

theorem TrsAt.of_own {w : World} {base : Nat} {p : Option Addr} {n cap : Nat} {l : List Tr} (h : w.ownsRow base 36 3 (.slice p n cap) n (l.flatMap trCells)) : TrsAt w p l := fun hl => by
  have hn : l.length = n := by have := h.1; rw [length_trCells] at this; omega
  rcases h.2 with ⟨hv, h0⟩ | ⟨g, cap', cur, hv, _, hh, _, _, _, _⟩
  · omega
  · injection hv with h1 h2 h3
    subst h1
    refine ⟨g, 0, rfl, fun i x hx => ?_⟩
    obtain ⟨a1, a2, a3⟩ := trCells_at l i x hx
    have b1 := h.cells (g := g) rfl _ _ a1
    have b2 := h.cells (g := g) rfl _ _ a2
    have b3 := h.cells (g := g) rfl _ _ a3
    rw [Addr.add_lit] at b1 b2 b3
    exact ⟨b1, b2, b3⟩

theorem TrsAt.one {w : World} {b : Nat} {t : Tr} (h0 : w.cell? ⟨b, 0, none⟩ = some (.int .i64 t.fr)) (h1 : w.cell? ⟨b, 1, none⟩ = some (.int .i64 t.to_)) (h2 : w.cell? ⟨b, 2, none⟩ = some (.int .i64 t.am)) : TrsAt w (some ⟨b, 0, none⟩) [t] := fun _ => by
  refine ⟨b, 0, rfl, fun i x hx => ?_⟩
  match i, hx with
  | 0, hx => simp at hx; subst hx; exact ⟨h0, h1, h2⟩

/-- Rows of different element types lie in different blocks. -/
theorem own_ne {w : World} {base base' e e' size size' n n' : Nat} {v v' : Value} {xs xs' : List Value} (h : w.ownsRow base e size v n xs) (h' : w.ownsRow base' e' size' v' n' xs') (hne : e ≠ e') {k : Nat} (hk : v.ownBlock = some k) : v'.ownBlock ≠ some k := by
  intro hk'
  rcases h.2 with ⟨rfl, _⟩ | ⟨g, cap, cur, rfl, _, hh, _⟩
  · simp [Value.ownBlock] at hk
  · rcases h'.2 with ⟨rfl, _⟩ | ⟨g', cap', cur', rfl, _, hh', _⟩
    · simp [Value.ownBlock] at hk'
    · simp [Value.ownBlock] at hk hk'
      subst hk; subst hk'
      rw [hh] at hh'
      injection hh' with hh'
      injection hh' with _ ht
      exact hne ht

theorem cell_new {w : World} {cs : Array Value} {t : TypeId} {i : Nat} : (w.alloc (.cells cs t)).cell? ⟨w.heap.size, i, none⟩ = cs[i]? := by simp

theorem own_form {w : World} {base e size n : Nat} {v : Value} {xs : List Value} (h : w.ownsRow base e size v n xs) (h0 : 0 < n) : ∃ g cap, v = .slice (some ⟨g, 0, none⟩) n cap ∧ base ≤ g ∧ g < w.heap.size := by
  rcases h.2 with ⟨_, hn⟩ | ⟨g, cap, cur, hv, hb, hh, _⟩
  · omega
  · exact ⟨g, cap, hv, hb, (Array.getElem?_eq_some_iff.1 hh).1⟩

theorem wrongB_any_false {l : List Int} (h : l.any (wrongB maxB) = false) : Bd 1000000000000 l := fun x hx => by
  rw [List.any_eq_false] at h
  have := h x hx
  have e1 : ¬ (x < -1000000000000) := fun hx => this (by unfold wrongB maxB; rw [decide_eq_true hx]; rfl)
  have e2 : ¬ (1000000000000 < x) := fun hx => this (by unfold wrongB maxB; rw [decide_eq_true hx, Bool.or_true])
  omega

theorem sum_take_bd {l : List Int} (h : Bd 1000000000000 l) (k : Nat) : -(1000000000000 * (k : Int)) ≤ (l.take k).sum ∧ (l.take k).sum ≤ 1000000000000 * (k : Int) := by
  induction k with
  | zero => simp
  | succ k ih =>
    rw [List.take_add_one, List.sum_append_int]
    cases hx : l[k]? with
    | none => simp; omega
    | some x => have := h x (List.mem_of_getElem? hx); simp; omega

end Go.Proofs.Ytkpnbglghindjaa
