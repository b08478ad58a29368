/- Arguments opened by their types: what the form reads as data reads as plain Lean values. -/
import Derived.Test.YtihdpkeclmpehaaBase
import Derived.ProofKit
import Derived.OpenShut
import Derived.ShutString
import Derived.ChangeOld
import Derived.Deep.Slices
import Derived.Deep.Fields
set_option linter.unusedVariables false
set_option linter.unusedSimpArgs false
namespace Go.Proofs.Ytihdpkeclmpehaa
open Go.ChangeShapes Go.WideShapes Go.ChangeAt Go.RowKit Go.Deep

theorem addr_plain' {w : World} {a : Addr} {v : Value} (h : w.cell? a = some v) : a = ⟨a.block, a.off, none⟩ := by
  obtain ⟨b, o, s⟩ := a
  cases s with
  | none => rfl
  | some s => exfalso; unfold World.cell? at h; split at h <;> simp at h

/-- What the form reads at type t reads as r says. -/
def Opens {α : Type} (P : Program) (t : TypeId) (r : Rep α) : Prop :=
  P.cellsOf t = r.size ∧ ∀ {H : Type} (enc : TypeId × Value → H) (w : World) (fuel : Nat) (cs : List Value) (x : DataW H × List MemPlace),
    DataW.trod enc P w 0 (fun _ => true) true fuel t cs = some x → ∃ a, r.rd w cs a

theorem opens_int {P : Program} {t : TypeId} {k : IntKind} (ht : P.underlying t = some (.int k)) (hc : P.cellsOf t = 1) : Opens P t (Rep.int k) :=
  ⟨hc, fun enc w fuel cs x h => by
    obtain ⟨n, rfl, _, hw⟩ := DataW.trod_int ht h
    exact ⟨n, rfl, hw⟩⟩
theorem opens_bool {P : Program} {t : TypeId} (ht : P.underlying t = some .bool) (hc : P.cellsOf t = 1) : Opens P t Rep.bool :=
  ⟨hc, fun enc w fuel cs x h => by
    obtain ⟨n, rfl, _⟩ := DataW.trod_bool ht h
    exact ⟨n, rfl⟩⟩

theorem opens_slice {α : Type} {P : Program} {t e : TypeId} {r : Rep α} (ht : P.underlying t = some (.slice e)) (hc : P.cellsOf t = 1) (hr : Opens P e r) (h1 : 0 < r.size) : Opens P t (Rep.slice r) :=
  ⟨hc, fun {H} enc w fuel cs x h => by
    rcases open_slice ht h with ⟨rfl, _⟩ | ⟨a, len, cap, m, n, D, Pl, rfl, _, hl, hm, hmm, _, hi⟩
    · exact ⟨[], none, 0, rfl, Nat.le_refl _, by decide, fun h => absurd h (by simp)⟩
    · rw [if_pos rfl] at hmm
      have each : ∀ i, i < len → ∃ y cs', r.rd w cs' y ∧ cs'.length = r.size ∧ ∀ j u, cs'[j]? = some u → w.cell? (a.add (i * r.size + j)) = some u := by
        intro i hil
        obtain ⟨cs', hcs', ht'⟩ := hi i (by omega)
        rw [hr.1] at hcs'
        obtain ⟨_, hlen, hat⟩ := World.cells?_some hcs'
        obtain ⟨y, hy⟩ := hr.2 enc w n cs' _ ht'
        refine ⟨y, cs', hy, hlen, fun j u hu => ?_⟩
        have hj : j < r.size := by have := (List.getElem?_eq_some_iff.1 hu).1; omega
        have := hat j hj
        rw [Go.Deep.add_add] at this
        rw [this, hu]
      have build : ∀ k, k ≤ len → ∃ l : List α, l.length = k ∧ ∀ i (y : α), l[i]? = some y → ∃ cs', r.rd w cs' y ∧ ∀ j u, cs'[j]? = some u → w.cell? (a.add (i * r.size + j)) = some u := by
        intro k
        induction k with
        | zero => intro _; exact ⟨[], rfl, fun i y hy => by simp at hy⟩
        | succ k ih =>
          intro hk
          obtain ⟨l, hl', hall⟩ := ih (by omega)
          obtain ⟨y, cs', h2, _, h3⟩ := each k (by omega)
          refine ⟨l ++ [y], by simp [hl'], fun i z hz => ?_⟩
          rw [List.getElem?_append] at hz
          split at hz
          · exact hall i z hz
          · have hik : i = k := by have := (List.getElem?_eq_some_iff.1 hz).1; simp at this; omega
            subst hik
            rw [show i - l.length = 0 by omega] at hz
            simp at hz
            subst hz
            exact ⟨cs', h2, h3⟩
      obtain ⟨l, hll, hall⟩ := build len (Nat.le_refl _)
      refine ⟨l, some a, cap, by rw [hll], by omega, hm, fun h0 => ?_⟩
      obtain ⟨cs', hcs', hcl, hc3⟩ : ∃ cs' : List Value, r.rd w cs' (l[0]'(by omega)) ∧ cs'.length = r.size ∧ ∀ j u, cs'[j]? = some u → w.cell? (a.add (0 * r.size + j)) = some u := by
        obtain ⟨cs', h2, h3⟩ := hall 0 _ (List.getElem?_eq_getElem h0)
        exact ⟨cs', h2, r.len h2, h3⟩
      have h00 := hc3 0 (cs'[0]'(by omega)) (List.getElem?_eq_getElem (by omega))
      rw [Nat.zero_mul, Nat.add_zero, Addr.add_zero'] at h00
      have hx := addr_plain' h00
      refine ⟨a.block, a.off, by rw [← hx], fun i y hy => ?_⟩
      obtain ⟨cs', h2, h3⟩ := hall i y hy
      refine ⟨cs', h2, fun j u hu => ?_⟩
      have := h3 j u hu
      rw [hx, Addr.add_lit] at this
      simpa [Nat.add_assoc] using this⟩

/-- No field. -/
def Rep.unit : Rep Unit where
  size := 0
  rd := fun _ cs _ => cs = []
  len := by rintro w cs a rfl; rfl
  keep := by rintro w w' cs a _ h; exact h

/-- The fields of a struct from some offset on. -/
structure OpensF {α : Type} (P : Program) (fs : List Field) (off : Nat) (r : Rep α) : Prop where
  run : ∀ {H : Type} (enc : TypeId × Value → H) (w : World) (n : Nat) (cs : List Value) (xs : List (DataW H × List MemPlace)), cs.length = off + r.size → xs.length = fs.length →
    (∀ (i : Nat) (f : Field), fs[i]? = some f → DataW.trod enc P w 0 (fun _ => true) true n f.type ((cs.drop f.offset).take (P.cellsOf f.type)) = xs[i]?) → ∃ a, r.rd w (cs.drop off) a
theorem opensF_nil {P : Program} {off : Nat} : OpensF P [] off Rep.unit := ⟨fun enc w n cs xs hl _ _ => ⟨(), by
  show cs.drop off = []
  rw [List.drop_eq_nil_iff]
  have : Rep.unit.size = 0 := rfl
  omega⟩⟩
theorem opensF_cons {α β : Type} {P : Program} {f : Field} {fs : List Field} {off : Nat} {r : Rep α} {s : Rep β} (hf : f.offset = off) (hr : Opens P f.type r) (hs : OpensF P fs (off + r.size) s) :
    OpensF P (f :: fs) off (r.pair s) := ⟨fun {H} enc w n cs xs hl hx h => by
  have hsz : (r.pair s).size = r.size + s.size := rfl
  obtain ⟨y, xs', rfl⟩ : ∃ y xs', xs = y :: xs' := by
    cases xs with
    | nil => simp at hx
    | cons y xs' => exact ⟨y, xs', rfl⟩
  have h0 := h 0 f rfl
  rw [hf, hr.1] at h0
  obtain ⟨a, ha⟩ := hr.2 enc w n _ y h0
  obtain ⟨b, hb⟩ := hs.run enc w n cs xs' (by omega) (by simpa using hx) (fun i g hg => by
    have := h (i + 1) g (by simpa using hg)
    simpa using this)
  refine ⟨(a, b), (cs.drop off).take r.size, cs.drop (off + r.size), ?_, ha, hb⟩
  rw [← List.drop_drop, List.take_append_drop]⟩
theorem opens_struct {α : Type} {P : Program} {t : TypeId} {fs : Array Field} {r : Rep α} (ht : P.underlying t = some (.struct fs)) (hc : P.cellsOf t = r.size) (hf : OpensF P fs.toList 0 r) : Opens P t r :=
  ⟨hc, fun enc w fuel cs x h => by
    obtain ⟨xs, n, _, _, hl, hxl, hall⟩ := DataW.trod_struct ht h
    have := hf.run enc w n cs xs (by rw [hl, hc, Nat.zero_add]) (by simpa using hxl) (fun i f hif => hall i f (by simpa using hif))
    simpa using this⟩

/-- A slice that came in. -/
theorem open_slc {α : Type} {H : Type} {enc : TypeId × Value → H} {P : Program} {w : World} {r' : Reach} {b0 : Nat} {t e : TypeId} {r : Rep α} {v : Value} {d : DataW H} {p : List MemPlace} (ht : P.underlying t = some (.slice e)) (ho : Opens P t (Rep.slice r))
    (hv : Value.okWide P w r' b0 t v) (h : DataW.Trod enc P w 0 (fun _ => true) true t v d p) :
    ∃ a n cap l, v = .slice a n cap ∧ l.length = n ∧ n ≤ maxLen ∧ r.els w a l ∧ (a = none → n = 0) := by
  obtain ⟨a, n, cap, rfl⟩ := okWide_slice ht hv
  obtain ⟨fuel, hf⟩ := h
  obtain ⟨l, q, c, hcs, h1, h2, h3⟩ := ho.2 enc w fuel _ _ hf
  simp [Value.cells] at hcs
  obtain ⟨rfl, rfl, rfl⟩ := hcs
  refine ⟨_, _, _, l, rfl, rfl, Nat.le_trans h1 h2, h3, fun h => ?_⟩
  subst h
  rcases Nat.eq_zero_or_pos l.length with h0 | h0
  · exact h0
  · obtain ⟨b, o, hp, _⟩ := h3 h0; cases hp
end Go.Proofs.Ytihdpkeclmpehaa
