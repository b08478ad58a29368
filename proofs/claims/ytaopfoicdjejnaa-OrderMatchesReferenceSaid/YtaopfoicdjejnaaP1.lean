/- Plain: which units have to be before others, pair by pair. -/
import Derived.Test.YtaopfoicdjejnaaO11
import Derived.Test.YtaopfoicdjejnaaB1
set_option linter.unusedVariables false
set_option linter.unusedSimpArgs false
namespace Go.Proofs.Ytaopfoicdjejnaa

/-- Has the pair been looked at: all of those below j, and those of j below i. -/
def pairB (j i u w : Nat) : Bool := decide (max u w < j) || (decide (max u w = j) && decide (min u w < i))
structure FsP (D : Nat → Nat → Int) (us : Nat → Un) (n j i : Nat) (fs : List Nat) : Prop where
  len : fs.length = n
  bits : ∀ (u x : Nat), fs[u]? = some x → x < 65536 ∧ ∀ w, x.testBit w = (u != w && pairB j i u w && !fitsF D us u w)
section
variable {D : Nat → Nat → Int} {us : Nat → Un} {n j i : Nat} {fs : List Nat}
theorem FsP.start : FsP D us n 0 0 (List.replicate n 0) := ⟨by simp, fun u x h => by
  have := List.getElem?_replicate (a := 0) (n := n) (i := u)
  rw [this] at h
  split at h
  · injection h with h; subst h
    refine ⟨by omega, fun w => ?_⟩
    have : pairB 0 0 u w = false := by unfold pairB; simp
    rw [this]; simp
  · cases h⟩
theorem pair_row {u w : Nat} (h : u ≠ w) : pairB (j + 1) 0 u w = pairB j j u w := by
  unfold pairB
  rw [Bool.eq_iff_iff]
  simp only [Bool.or_eq_true, Bool.and_eq_true, decide_eq_true_eq]
  omega
theorem FsP.row (h : FsP D us n j j fs) : FsP D us n (j + 1) 0 fs := ⟨h.len, fun u x hx => by
  obtain ⟨h1, h2⟩ := h.bits u x hx
  refine ⟨h1, fun w => ?_⟩
  rw [h2 w]
  by_cases e : u = w
  · simp [e]
  · rw [pair_row e]⟩
theorem pair_next {u w : Nat} (h : i < j) (hne : u ≠ w) : pairB j (i + 1) u w = (pairB j i u w || (u == i && w == j) || (u == j && w == i)) := by
  unfold pairB
  rw [Bool.eq_iff_iff]
  simp only [Bool.or_eq_true, Bool.and_eq_true, decide_eq_true_eq, beq_iff_eq]
  omega
theorem FsP.keep (h : FsP D us n j i fs) (hij : i < j) (h1 : fitsF D us i j = true) (h2 : fitsF D us j i = true) : FsP D us n j (i + 1) fs := ⟨h.len, fun u x hx => by
  obtain ⟨k1, k2⟩ := h.bits u x hx
  refine ⟨k1, fun w => ?_⟩
  rw [k2 w]
  by_cases e : u = w
  · simp [e]
  · rw [pair_next hij e]
    by_cases e1 : u = i ∧ w = j
    · obtain ⟨rfl, rfl⟩ := e1; rw [h1]; simp
    · by_cases e2 : u = j ∧ w = i
      · obtain ⟨rfl, rfl⟩ := e2; rw [h2]; simp
      · have q1 : (u == i && w == j) = false := by rw [Bool.and_eq_false_iff]; simp only [beq_eq_false_iff_ne]; omega
        have q2 : (u == j && w == i) = false := by rw [Bool.and_eq_false_iff]; simp only [beq_eq_false_iff_ne]; omega
        rw [q1, q2]; simp⟩
/-- One bit more: a has to wait for b. -/
theorem FsP.put (h : FsP D us n j i fs) (hij : i < j) (hj : j < n) (hn : n ≤ 16) {a b : Nat} (hab : (a = i ∧ b = j) ∨ (a = j ∧ b = i)) (h1 : fitsF D us a b = false) (h2 : fitsF D us b a = true) {x : Nat} (hx : fs[a]? = some x) :
    FsP D us n j (i + 1) (fs.set a (x ||| 2 ^ b)) := ⟨by rw [List.length_set]; exact h.len, fun u y hy => by
  rw [List.getElem?_set] at hy
  have ha : a < fs.length := (List.getElem?_eq_some_iff.1 hx).1
  have hb16 : b < 16 := by omega
  split at hy
  · rename_i e; subst e
    injection hy with hy; subst hy
    obtain ⟨k1, k2⟩ := h.bits a x hx
    refine ⟨or_lt k1 hb16, fun w => ?_⟩
    rw [Nat.testBit_or, k2 w, Nat.testBit_two_pow]
    by_cases e : a = w
    · subst e
      have : decide (b = a) = false := by rw [decide_eq_false_iff_not]; omega
      rw [this]; simp
    · rw [pair_next hij e]
      by_cases eb : b = w
      · subst eb
        rw [h1]
        have q : (a == i && b == j || a == j && b == i) = true := by
          rcases hab with ⟨rfl, rfl⟩ | ⟨rfl, rfl⟩ <;> simp
        have q3 : (a != b) = true := by simpa using e
        rw [Bool.or_assoc, q, q3]
        simp
      · have q1 : (a == i && w == j) = false := by rw [Bool.and_eq_false_iff]; simp only [beq_eq_false_iff_ne]; omega
        have q2 : (a == j && w == i) = false := by rw [Bool.and_eq_false_iff]; simp only [beq_eq_false_iff_ne]; omega
        rw [q1, q2, decide_eq_false eb]; simp
  · rename_i e
    obtain ⟨k1, k2⟩ := h.bits u y hy
    refine ⟨k1, fun w => ?_⟩
    rw [k2 w]
    by_cases e' : u = w
    · simp [e']
    · rw [pair_next hij e']
      by_cases e2 : u = b ∧ w = a
      · obtain ⟨rfl, rfl⟩ := e2; rw [h2]; simp
      · have q1 : (u == i && w == j) = false := by rw [Bool.and_eq_false_iff]; simp only [beq_eq_false_iff_ne]; omega
        have q2 : (u == j && w == i) = false := by rw [Bool.and_eq_false_iff]; simp only [beq_eq_false_iff_ne]; omega
        rw [q1, q2]; simp⟩
/-- What the units have to wait for: all pairs have been looked at. -/
structure FsOk (D : Nat → Nat → Int) (us : Nat → Un) (n : Nat) (fs : List Nat) : Prop where
  len : fs.length = n
  bits : ∀ (u x : Nat), fs[u]? = some x → x < 65536 ∧ ∀ w, x.testBit w = (u != w && decide (w < n) && !fitsF D us u w)
theorem FsP.all (h : FsP D us n n 0 fs) : FsOk D us n fs := ⟨h.len, fun u x hx => by
  obtain ⟨h1, h2⟩ := h.bits u x hx
  refine ⟨h1, fun w => ?_⟩
  rw [h2 w]
  have hu : u < n := by rw [← h.len]; exact (List.getElem?_eq_some_iff.1 hx).1
  have : pairB n 0 u w = decide (w < n) := by
    unfold pairB
    rw [Bool.eq_iff_iff]
    simp only [Bool.or_eq_true, Bool.and_eq_true, decide_eq_true_eq]
    omega
  rw [this]⟩
theorem FsOk.ready (h : FsOk D us n fs) {done u x : Nat} (hx : fs[u]? = some x) : (lessF x done = 0) ↔ readyF D us n done u = true := by
  obtain ⟨h1, h2⟩ := h.bits u x hx
  rw [lessF_zero]
  unfold readyF
  rw [List.all_eq_true]
  constructor
  · intro hk w hw
    have hw' : w < n := by simpa using hw
    have := hk w
    rw [h2 w, decide_eq_true hw'] at this
    by_cases e : w = u
    · simp [e]
    · have e' : (u != w) = true := by simp; omega
      rw [e'] at this
      cases hf : fitsF D us u w with
      | true => simp
      | false => rw [hf] at this; have := this rfl; simp [this]
  · intro hk w hw
    rw [h2 w] at hw
    simp only [Bool.and_eq_true, decide_eq_true_eq, bne_iff_ne, ne_eq, Bool.not_eq_true'] at hw
    have := hk w (by simpa using hw.1.2)
    simp only [Bool.or_eq_true, beq_iff_eq] at this
    rcases this with (e | e) | e
    · exact absurd e.symm hw.1.1
    · rw [hw.2] at e; cases e
    · exact e
end
end Go.Proofs.Ytaopfoicdjejnaa
