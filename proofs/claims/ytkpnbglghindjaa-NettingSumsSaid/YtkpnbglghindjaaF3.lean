/- Slices of payments that came in, with their capacity. -/
import Derived.Test.YtkpnbglghindjaaF2
set_option linter.unusedVariables false
set_option linter.unusedSimpArgs false
namespace Go.Proofs.Ytkpnbglghindjaa
open Go.ChangeShapes Go.WideShapes Go.ChangeAt Go.RowKit Go.Deep Math

theorem open_trs2 {H : Type} {enc : TypeId × Value → H} {w : World} {r' : Reach} {b0 : Nat} {v : Value} {d : DataW H} {p : List MemPlace}
    (hv : Value.okWide Try.prog w r' b0 23 v) (h : DataW.Trod enc Try.prog w 0 (fun _ => true) true 23 v d p) :
    ∃ a n cap l, v = .slice a n cap ∧ l.length = n ∧ n ≤ maxLen ∧ TrsAt w a l ∧ (a = none → n = 0) ∧ (n ≤ cap ∧ cap ≤ maxLen) := by
  obtain ⟨a, n, cap, rfl⟩ := okWide_slice Try.underlying23 hv
  obtain ⟨fuel, hf⟩ := h
  obtain ⟨l, q, c, hcs, h1, h2, h3⟩ := opens_trs.2 enc w fuel _ _ hf
  simp [Value.cells] at hcs
  obtain ⟨rfl, rfl, rfl⟩ := hcs
  refine ⟨_, _, _, _, rfl, List.length_map .., Nat.le_trans h1 h2, trsAt_els h3, fun h => ?_, h1, h2⟩
  subst h
  rcases Nat.eq_zero_or_pos l.length with h0 | h0
  · exact h0
  · obtain ⟨b, o, hp, _⟩ := h3 h0; cases hp

theorem run_slice_to {P : Program} (w : World) (t e : TypeId) (ht : P.underlying t = some (.slice e)) (i : TypeInfo) (hi : P.info? e = some i) (a : Option Addr) (len cap k : Nat) (hk : k ≤ cap) :
    (Instr.slice t (.slice a len cap) none (some (.int .i64 (k : Int))) none).run P w = .ok (.slice a k cap) w := by
  have h1 := run_sliceBound (P := P) (w := w) .i64 (k : Int) cap .sliceAcap (by omega) (by omega)
  simp [Instr.slice, run_underlying ht, Instr.sliceBounds, h1, sizeOf, typeInfo, hi]
  cases a <;> simp [Addr.add]
theorem run_slice_from {P : Program} (w : World) (t e : TypeId) (ht : P.underlying t = some (.slice e)) (i : TypeInfo) (hi : P.info? e = some i) (sz : Nat) (hs : i.size = sz) (a : Option Addr) (len cap k : Nat) (hk : k ≤ len) :
    (Instr.slice t (.slice a len cap) (some (.int .i64 (k : Int))) none none).run P w = .ok (.slice (if cap = k then a else a.map (·.add (k * sz))) (len - k) (cap - k)) w := by
  have h1 := run_sliceBound (P := P) (w := w) .i64 (k : Int) len .sliceB (by omega) (by omega)
  subst hs
  simp [Instr.slice, run_underlying ht, Instr.sliceBounds, h1, sizeOf, typeInfo, hi]

/-- A part of a slice of payments. -/
theorem TrsAt.take {w : World} {p : Option Addr} {l : List Tr} (h : TrsAt w p l) (k : Nat) : TrsAt w p (l.take k) := fun h0 => by
  obtain ⟨b, o, hp, hc⟩ := h (by rw [List.length_take] at h0; omega)
  refine ⟨b, o, hp, fun i x hx => hc i x ?_⟩
  rw [List.getElem?_take] at hx
  split at hx
  · exact hx
  · cases hx
theorem TrsAt.drop {w : World} {p : Option Addr} {l : List Tr} (h : TrsAt w p l) {k cap : Nat} (hc : l.length ≤ cap) : TrsAt w (if cap = k then p else p.map (·.add (k * 3))) (l.drop k) := fun h0 => by
  rw [List.length_drop] at h0
  obtain ⟨b, o, rfl, hcell⟩ := h (by omega)
  rw [if_neg (by omega)]
  refine ⟨b, o + k * 3, by simp [Addr.add_lit], fun i x hx => ?_⟩
  rw [List.getElem?_drop] at hx
  have := hcell (k + i) x hx
  rw [show o + (k + i) * 3 = o + k * 3 + i * 3 by omega] at this
  exact this
end Go.Proofs.Ytkpnbglghindjaa
