/- Entries that came in. -/
import Derived.Test.YtajnoocjjkjfmaaFr
import Derived.Test.YtajnoocjjkjfmaaOp
import Derived.Test.YtajnoocjjkjfmaaC5
import Derived.ChangeMaps5
set_option linter.unusedVariables false
set_option linter.unusedSimpArgs false
namespace Go.Proofs.Ytajnoocjjkjfmaa
open Go.ChangeShapes Go.WideShapes Go.ChangeAt Go.RowKit Go.Deep

theorem opens_string {P : Program} {t : TypeId} (ht : P.underlying t = some .string) (hc : P.cellsOf t = 1) : Opens P t Rep.str :=
  ⟨hc, fun enc w fuel cs x h => by
    obtain ⟨s, rfl, _, hs⟩ := DataW.trod_string ht h
    exact ⟨s, rfl, hs⟩⟩
/-- A struct that came in by value. -/
theorem open_stc {α : Type} {H : Type} {enc : TypeId × Value → H} {P : Program} {w : World} {r' : Reach} {b0 : Nat} {t : TypeId} {fs : Array Field} {r : Rep α} {v : Value} {d : DataW H} {p : List MemPlace} (ht : P.underlying t = some (.struct fs)) (ho : Opens P t r)
    (hv : Value.okWide P w r' b0 t v) (h : DataW.Trod enc P w 0 (fun _ => true) true t v d p) : ∃ cs a, v = .agg cs ∧ r.rd w cs.toList a := by
  obtain ⟨cs, rfl, _⟩ := okWide_struct ht hv
  obtain ⟨fuel, hf⟩ := h
  obtain ⟨a, ha⟩ := ho.2 enc w fuel _ _ hf
  exact ⟨cs, a, rfl, by simpa [Value.cells] using ha⟩
theorem opens_i : Opens Try.prog 3 (Rep.int .i64) := opens_int Try.underlying3 (by kernel_rfl)
theorem opens_s : Opens Try.prog 9 Rep.str := opens_string Try.underlying9 (by kernel_rfl)
def repEnt : Rep (Int × Int × Int × ByteArray × Unit) := (Rep.int .i64).pair ((Rep.int .i64).pair ((Rep.int .i64).pair (Rep.str.pair Rep.unit)))
theorem opens_ent : Opens Try.prog 34 repEnt := opens_struct Try.underlying34 (by kernel_rfl) (opensF_cons rfl opens_i (opensF_cons rfl opens_i (opensF_cons rfl opens_i (opensF_cons rfl opens_s opensF_nil))))
theorem opens_ents : Opens Try.prog 22 (Rep.slice repEnt) := opens_slice Try.underlying22 (by kernel_rfl) opens_ent (by decide)
def toEnt (x : Int × Int × Int × ByteArray × Unit) : Ent := ⟨x.1, x.2.1, x.2.2.1, x.2.2.2.1⟩
theorem ent_rd {w : World} {cs : List Value} {x : Int × Int × Int × ByteArray × Unit} (h : repEnt.rd w cs x) : cs = entCells (toEnt x) ∧ EWf [toEnt x] := by
  obtain ⟨c1, d1, rfl, ⟨rfl, h1⟩, c2, d2, rfl, ⟨rfl, h2⟩, c3, d3, rfl, ⟨rfl, h3⟩, c4, d4, rfl, ⟨rfl, h4⟩, rfl⟩ := h
  refine ⟨rfl, fun e he => ?_⟩
  obtain rfl := List.mem_singleton.1 he
  exact ⟨h1, h2, h3, h4⟩
theorem entsAt_els {w : World} {p : Option Addr} {l : List (Int × Int × Int × ByteArray × Unit)} (h : repEnt.els w p l) : EntsAt w p (l.map toEnt) ∧ EWf (l.map toEnt) := by
  constructor
  · intro h0
    rw [List.length_map] at h0
    obtain ⟨b, o, hp, hc⟩ := h h0
    refine ⟨b, o, hp, fun i x hx => ?_⟩
    rw [List.getElem?_map] at hx
    obtain ⟨y, hy, rfl⟩ := Option.map_eq_some_iff.1 hx
    obtain ⟨cs, hrd, hcell⟩ := hc i y hy
    obtain ⟨rfl, _⟩ := ent_rd hrd
    exact ⟨hcell 0 _ rfl, hcell 1 _ rfl, hcell 2 _ rfl, hcell 3 _ rfl⟩
  · intro e he
    obtain ⟨y, hy, rfl⟩ := List.mem_map.1 he
    obtain ⟨b, o, hp, hc⟩ := h (List.length_pos_of_mem hy)
    obtain ⟨i, hi⟩ := List.getElem?_of_mem hy
    obtain ⟨cs, hrd, _⟩ := hc i y hi
    exact (ent_rd hrd).2 _ (by simp)
theorem open_ents {H : Type} {enc : TypeId × Value → H} {w : World} {r' : Reach} {b0 : Nat} {v : Value} {d : DataW H} {p : List MemPlace}
    (hv : Value.okWide Try.prog w r' b0 22 v) (h : DataW.Trod enc Try.prog w 0 (fun _ => true) true 22 v d p) :
    ∃ a n cap l, v = .slice a n cap ∧ l.length = n ∧ n ≤ maxLen ∧ EntsAt w a l ∧ (a = none → n = 0) ∧ EWf l := by
  obtain ⟨a, n, cap, l, hv, hl, hn, he, hz⟩ := open_slc Try.underlying22 opens_ents hv h
  obtain ⟨h1, h2⟩ := entsAt_els he
  exact ⟨a, n, cap, _, hv, by rw [List.length_map]; exact hl, hn, h1, hz, h2⟩
theorem open_ent {H : Type} {enc : TypeId × Value → H} {w : World} {r' : Reach} {b0 : Nat} {v : Value} {d : DataW H} {p : List MemPlace}
    (hv : Value.okWide Try.prog w r' b0 34 v) (h : DataW.Trod enc Try.prog w 0 (fun _ => true) true 34 v d p) :
    ∃ e : Ent, v = .agg #[.int .i64 e.fr, .int .i64 e.to_, .int .i64 e.am, .string e.ref] ∧ EWf [e] := by
  obtain ⟨cs, x, rfl, hrd⟩ := open_stc Try.underlying34 opens_ent hv h
  obtain ⟨h1, h2⟩ := ent_rd hrd
  refine ⟨toEnt x, ?_, h2⟩
  obtain ⟨cs⟩ := cs
  simp at h1
  rw [h1]; rfl
end Go.Proofs.Ytajnoocjjkjfmaa
