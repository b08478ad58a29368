/- Slices of payments that came in. -/
import Derived.Test.YtkpnbglghindjaaF1
import Derived.Test.YtkpnbglghindjaaOp
set_option linter.unusedVariables false
set_option linter.unusedSimpArgs false
namespace Go.Proofs.Ytkpnbglghindjaa
open Go.ChangeShapes Go.WideShapes Go.ChangeAt Go.RowKit Go.Deep Math

theorem opens_i : Opens Try.prog 3 (Rep.int .i64) := opens_int Try.underlying3 (by kernel_rfl)
def repTr : Rep (Int × Int × Int × Unit) := (Rep.int .i64).pair ((Rep.int .i64).pair ((Rep.int .i64).pair Rep.unit))
theorem opens_tr : Opens Try.prog 36 repTr := opens_struct Try.underlying36 (by kernel_rfl) (opensF_cons rfl opens_i (opensF_cons rfl opens_i (opensF_cons rfl opens_i opensF_nil)))
theorem opens_trs : Opens Try.prog 23 (Rep.slice repTr) := opens_slice Try.underlying23 (by kernel_rfl) opens_tr (by decide)
theorem trsAt_els {w : World} {p : Option Addr} {l : List (Int × Int × Int × Unit)} (h : repTr.els w p l) : TrsAt w p (l.map fun x => ⟨x.1, x.2.1, x.2.2.1⟩) := fun h0 => by
  rw [List.length_map] at h0
  obtain ⟨b, o, hp, hc⟩ := h h0
  refine ⟨b, o, hp, fun i x hx => ?_⟩
  rw [List.getElem?_map] at hx
  obtain ⟨y, hy, rfl⟩ := Option.map_eq_some_iff.1 hx
  obtain ⟨cs, ⟨c1, d1, rfl, ⟨rfl, _⟩, c2, d2, rfl, ⟨rfl, _⟩, c3, d3, rfl, ⟨rfl, _⟩, rfl⟩, hcell⟩ := hc i y hy
  exact ⟨hcell 0 _ rfl, hcell 1 _ rfl, hcell 2 _ rfl⟩
theorem open_trs {H : Type} {enc : TypeId × Value → H} {w : World} {r' : Reach} {b0 : Nat} {v : Value} {d : DataW H} {p : List MemPlace}
    (hv : Value.okWide Try.prog w r' b0 23 v) (h : DataW.Trod enc Try.prog w 0 (fun _ => true) true 23 v d p) :
    ∃ a n cap l, v = .slice a n cap ∧ l.length = n ∧ n ≤ maxLen ∧ TrsAt w a l ∧ (a = none → n = 0) ∧ True := by
  obtain ⟨a, n, cap, l, hv, hl, hn, he, hz⟩ := open_slc Try.underlying23 opens_trs hv h
  exact ⟨a, n, cap, _, hv, by rw [List.length_map]; exact hl, hn, trsAt_els he, hz, trivial⟩
end Go.Proofs.Ytkpnbglghindjaa
