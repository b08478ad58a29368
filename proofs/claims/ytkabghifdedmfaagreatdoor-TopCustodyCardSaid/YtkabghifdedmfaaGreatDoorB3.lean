/- Arguments opened by their types: what the form reads as data reads as plain Lean values. Scanners, tracks and records as plain values, and what the layer's functions say of them. Scanners, stops, tracks, records and slips as they lie in memory. Well-formed scanners. -/
import Derived.Test.YtkabghifdedmfaaGreatDoorB2
import Derived.ProofKit
import Derived.OpenShut
import Derived.ShutString
import Derived.ChangeOld
import Derived.Deep.Slices
import Derived.Deep.Fields
import Derived.RowKit
import Derived.Test.YtkabghifdedmfaaGreatDoorChecked
import Derived.IntWalk
import Derived.BigRegion
set_option linter.unusedVariables false
set_option linter.unusedSimpArgs false
namespace Go.Proofs.YtkabghifdedmfaaGreatDoor
open Go.ChangeShapes Go.WideShapes Go.ChangeAt Go.RowKit Go.Deep

theorem addr_plain' {w : World} {a : Addr} {v : Value} (h : w.cell? a = some v) : a = ⟨a.block, a.off, none⟩ := by
  obtain ⟨b, o, s⟩ := a
  cases s with
  | none => rfl
  | some s => exfalso; unfold World.cell? at h; split at h <;> simp at h

/-- What the form reads at type t reads as r says. -/
def Opens {α : Type} (P : Program) (t : TypeId) (r : Rep α) : Prop :=
  P.cellsOf t = r.size ∧ ∀ {H : Type} (enc : TypeId × Value → H) (w : World) (fuel : Nat) (cs : List Value) (x : DataW H × List MemPlace),
    DataW.trod enc P w 0 (fun _ => true) true fuel t cs = some x → ∃ a, r.rd w cs a

theorem opens_int {P : Program} {t : TypeId} {k : IntKind} (ht : P.underlying t = some (.int k)) (hc : P.cellsOf t = 1) : Opens P t (Rep.int k) :=
  ⟨hc, fun enc w fuel cs x h => by
    obtain ⟨n, rfl, _, hw⟩ := DataW.trod_int ht h
    exact ⟨n, rfl, hw⟩⟩
theorem opens_bool {P : Program} {t : TypeId} (ht : P.underlying t = some .bool) (hc : P.cellsOf t = 1) : Opens P t Rep.bool :=
  ⟨hc, fun enc w fuel cs x h => by
    obtain ⟨n, rfl, _⟩ := DataW.trod_bool ht h
    exact ⟨n, rfl⟩⟩

theorem opens_slice {α : Type} {P : Program} {t e : TypeId} {r : Rep α} (ht : P.underlying t = some (.slice e)) (hc : P.cellsOf t = 1) (hr : Opens P e r) (h1 : 0 < r.size) : Opens P t (Rep.slice r) :=
  ⟨hc, fun {H} enc w fuel cs x h => by
    rcases open_slice ht h with ⟨rfl, _⟩ | ⟨a, len, cap, m, n, D, Pl, rfl, _, hl, hm, hmm, _, hi⟩
    · exact ⟨[], none, 0, rfl, Nat.le_refl _, by decide, fun h => absurd h (by simp)⟩
    · rw [if_pos rfl] at hmm
      have each : ∀ i, i < len → ∃ y cs', r.rd w cs' y ∧ cs'.length = r.size ∧ ∀ j u, cs'[j]? = some u → w.cell? (a.add (i * r.size + j)) = some u := by
        intro i hil
        obtain ⟨cs', hcs', ht'⟩ := hi i (by omega)
        rw [hr.1] at hcs'
        obtain ⟨_, hlen, hat⟩ := World.cells?_some hcs'
        obtain ⟨y, hy⟩ := hr.2 enc w n cs' _ ht'
        refine ⟨y, cs', hy, hlen, fun j u hu => ?_⟩
        have hj : j < r.size := by have := (List.getElem?_eq_some_iff.1 hu).1; omega
        have := hat j hj
        rw [Go.Deep.add_add] at this
        rw [this, hu]
      have build : ∀ k, k ≤ len → ∃ l : List α, l.length = k ∧ ∀ i (y : α), l[i]? = some y → ∃ cs', r.rd w cs' y ∧ ∀ j u, cs'[j]? = some u → w.cell? (a.add (i * r.size + j)) = some u := by
        intro k
        induction k with
        | zero => intro _; exact ⟨[], rfl, fun i y hy => by simp at hy⟩
        | succ k ih =>
          intro hk
          obtain ⟨l, hl', hall⟩ := ih (by omega)
          obtain ⟨y, cs', h2, _, h3⟩ := each k (by omega)
          refine ⟨l ++ [y], by simp [hl'], fun i z hz => ?_⟩
          rw [List.getElem?_append] at hz
          split at hz
          · exact hall i z hz
          · have hik : i = k := by have := (List.getElem?_eq_some_iff.1 hz).1; simp at this; omega
            subst hik
            rw [show i - l.length = 0 by omega] at hz
            simp at hz
            subst hz
            exact ⟨cs', h2, h3⟩
      obtain ⟨l, hll, hall⟩ := build len (Nat.le_refl _)
      refine ⟨l, some a, cap, by rw [hll], by omega, hm, fun h0 => ?_⟩
      obtain ⟨cs', hcs', hcl, hc3⟩ : ∃ cs' : List Value, r.rd w cs' (l[0]'(by omega)) ∧ cs'.length = r.size ∧ ∀ j u, cs'[j]? = some u → w.cell? (a.add (0 * r.size + j)) = some u := by
        obtain ⟨cs', h2, h3⟩ := hall 0 _ (List.getElem?_eq_getElem h0)
        exact ⟨cs', h2, r.len h2, h3⟩
      have h00 := hc3 0 (cs'[0]'(by omega)) (List.getElem?_eq_getElem (by omega))
      rw [Nat.zero_mul, Nat.add_zero, Addr.add_zero'] at h00
      have hx := addr_plain' h00
      refine ⟨a.block, a.off, by rw [← hx], fun i y hy => ?_⟩
      obtain ⟨cs', h2, h3⟩ := hall i y hy
      refine ⟨cs', h2, fun j u hu => ?_⟩
      have := h3 j u hu
      rw [hx, Addr.add_lit] at this
      simpa [Nat.add_assoc] using this⟩

/-- No field. -/
def Rep.unit : Rep Unit where
  size := 0
  rd := fun _ cs _ => cs = []
  len := by rintro w cs a rfl; rfl
  keep := by rintro w w' cs a _ h; exact h

/-- The fields of a struct from some offset on. -/
structure OpensF {α : Type} (P : Program) (fs : List Field) (off : Nat) (r : Rep α) : Prop where
  run : ∀ {H : Type} (enc : TypeId × Value → H) (w : World) (n : Nat) (cs : List Value) (xs : List (DataW H × List MemPlace)), cs.length = off + r.size → xs.length = fs.length →
    (∀ (i : Nat) (f : Field), fs[i]? = some f → DataW.trod enc P w 0 (fun _ => true) true n f.type ((cs.drop f.offset).take (P.cellsOf f.type)) = xs[i]?) → ∃ a, r.rd w (cs.drop off) a
theorem opensF_nil {P : Program} {off : Nat} : OpensF P [] off Rep.unit := ⟨fun enc w n cs xs hl _ _ => ⟨(), by
  show cs.drop off = []
  rw [List.drop_eq_nil_iff]
  have : Rep.unit.size = 0 := rfl
  omega⟩⟩
theorem opensF_cons {α β : Type} {P : Program} {f : Field} {fs : List Field} {off : Nat} {r : Rep α} {s : Rep β} (hf : f.offset = off) (hr : Opens P f.type r) (hs : OpensF P fs (off + r.size) s) :
    OpensF P (f :: fs) off (r.pair s) := ⟨fun {H} enc w n cs xs hl hx h => by
  have hsz : (r.pair s).size = r.size + s.size := rfl
  obtain ⟨y, xs', rfl⟩ : ∃ y xs', xs = y :: xs' := by
    cases xs with
    | nil => simp at hx
    | cons y xs' => exact ⟨y, xs', rfl⟩
  have h0 := h 0 f rfl
  rw [hf, hr.1] at h0
  obtain ⟨a, ha⟩ := hr.2 enc w n _ y h0
  obtain ⟨b, hb⟩ := hs.run enc w n cs xs' (by omega) (by simpa using hx) (fun i g hg => by
    have := h (i + 1) g (by simpa using hg)
    simpa using this)
  refine ⟨(a, b), (cs.drop off).take r.size, cs.drop (off + r.size), ?_, ha, hb⟩
  rw [← List.drop_drop, List.take_append_drop]⟩
theorem opens_struct {α : Type} {P : Program} {t : TypeId} {fs : Array Field} {r : Rep α} (ht : P.underlying t = some (.struct fs)) (hc : P.cellsOf t = r.size) (hf : OpensF P fs.toList 0 r) : Opens P t r :=
  ⟨hc, fun enc w fuel cs x h => by
    obtain ⟨xs, n, _, _, hl, hxl, hall⟩ := DataW.trod_struct ht h
    have := hf.run enc w n cs xs (by rw [hl, hc, Nat.zero_add]) (by simpa using hxl) (fun i f hif => hall i f (by simpa using hif))
    simpa using this⟩

/-- A slice that came in. -/
theorem open_slc {α : Type} {H : Type} {enc : TypeId × Value → H} {P : Program} {w : World} {r' : Reach} {b0 : Nat} {t e : TypeId} {r : Rep α} {v : Value} {d : DataW H} {p : List MemPlace} (ht : P.underlying t = some (.slice e)) (ho : Opens P t (Rep.slice r))
    (hv : Value.okWide P w r' b0 t v) (h : DataW.Trod enc P w 0 (fun _ => true) true t v d p) :
    ∃ a n cap l, v = .slice a n cap ∧ l.length = n ∧ n ≤ maxLen ∧ r.els w a l ∧ (a = none → n = 0) := by
  obtain ⟨a, n, cap, rfl⟩ := okWide_slice ht hv
  obtain ⟨fuel, hf⟩ := h
  obtain ⟨l, q, c, hcs, h1, h2, h3⟩ := ho.2 enc w fuel _ _ hf
  simp [Value.cells] at hcs
  obtain ⟨rfl, rfl, rfl⟩ := hcs
  refine ⟨_, _, _, l, rfl, rfl, Nat.le_trans h1 h2, h3, fun h => ?_⟩
  subst h
  rcases Nat.eq_zero_or_pos l.length with h0 | h0
  · exact h0
  · obtain ⟨b, o, hp, _⟩ := h3 h0; cases hp
end Go.Proofs.YtkabghifdedmfaaGreatDoor

namespace Go.Proofs.YtkabghifdedmfaaGreatDoor

structure Scn where
  operator : Int
  office : Int
  error : Int
structure Stp where
  office : Int
  arrive : Int
  depart : Int
  line : Int
/-- A track: its stops, its labels and the seals of its departures. -/
structure Tk where
  stops : List Stp
  since : List Int
  label : List ByteArray
  seals : List ByteArray
/-- A record. -/
structure RP where
  scanner : Int
  number : Int
  kind : Int
  time : Int
  label : ByteArray
  contents : List ByteArray
instance : DecidableEq RP := fun x y => match x, y with
  | ⟨a, b, c, d, e, f⟩, ⟨a', b', c', d', e', f'⟩ => if h : a = a' ∧ b = b' ∧ c = c' ∧ d = d' ∧ e = e' ∧ f = f' then isTrue (by obtain ⟨rfl, rfl, rfl, rfl, rfl, rfl⟩ := h; rfl) else isFalse (fun e => by injection e with h1 h2 h3 h4 h5 h6; exact h ⟨h1, h2, h3, h4, h5, h6⟩)
/-- Times do not decrease. -/
def AscI (l : List Int) : Prop := ∀ (m : Nat) (x y : Int), l[m]? = some x → l[m + 1]? = some y → x ≤ y
/-- A stop of a well-formed track. -/
structure StpOk (n i : Nat) (s : Stp) (nx : Option Stp) : Prop where
  office : 0 ≤ s.office
  arrive : 0 ≤ s.arrive ∧ s.arrive ≤ 1000000000
  last : i + 1 = n → s.depart = -1 ∧ s.line = -1
  mid : i + 1 < n → s.arrive ≤ s.depart ∧ s.depart ≤ 1000000000 ∧ 0 ≤ s.line
  next : i + 1 < n → ∀ t, nx = some t → s.depart ≤ t.arrive
/-- A well-formed track. -/
structure TkOk (t : Tk) : Prop where
  stops : 0 < t.stops.length
  seals : t.seals.length + 1 = t.stops.length
  labels : t.since.length = t.label.length
  since : 0 < t.since.length
  first : ∀ x s, t.since[0]? = some x → t.stops[0]? = some s → x ≤ s.arrive
  asc : AscI t.since
  each : ∀ (i : Nat) (s : Stp), t.stops[i]? = some s → StpOk t.stops.length i s t.stops[i + 1]?
  few : t.stops.length ≤ 20 ∧ t.since.length ≤ 10
def TksOk (l : List Tk) : Prop := l.length ≤ 8 ∧ ∀ t ∈ l, TkOk t
/-- Scanners as they have to be. -/
def scnOk (x : Scn) : Bool := !(decide (x.operator < 0) || decide (x.office < 0) || decide (x.error < 0) || decide (10000 < x.error))
theorem scnOk_iff {x : Scn} : scnOk x = true ↔ 0 ≤ x.operator ∧ 0 ≤ x.office ∧ 0 ≤ x.error ∧ x.error ≤ 10000 := by
  unfold scnOk; simp; omega
def ScnsOk (l : List Scn) : Prop := l.length ≤ 24 ∧ ∀ x ∈ l, scnOk x = true
/-- How many times are not later. -/
def cutN (l : List Int) (time : Int) : Nat := (l.takeWhile (fun x => decide (x ≤ time))).length
/-- The label at a time. -/
def labelP (t : Tk) (time : Int) : ByteArray := match cutN t.since time with
  | 0 => ⟨#[]⟩
  | c + 1 => (t.label[c]?).getD ⟨#[]⟩
/-- The first departure with a seal. -/
def firstP : List Tk → ByteArray → Option (Nat × Nat)
  | [], _ => none
  | t :: l, s => match t.seals.findIdx? (fun x => decide (x = s)) with
    | some j => some (0, j)
    | none => (firstP l s).map fun p => (p.1 + 1, p.2)
/-- The tracks that have a departure with a seal. -/
def insideP (l : List Tk) (s : ByteArray) : List Nat := (List.range l.length).filter fun i => match l[i]? with | some t => t.seals.any (fun x => decide (x = s)) | none => false
/-- The contents of a container that leaves at a time. -/
def contentsP (l : List Tk) (s : ByteArray) (time : Int) : List ByteArray := (insideP l s).map fun i => match l[i]? with | some t => labelP t time | none => ⟨#[]⟩
/-- An observation: the office and the record, without scanner and number. -/
structure Ob where
  office : Int
  kind : Int
  time : Int
  label : ByteArray
  contents : List ByteArray
/-- The observations of a track's stop. -/
def obsStop (l : List Tk) (i : Nat) (t : Tk) (j : Nat) (s : Stp) : List Ob :=
  ⟨s.office, 1, s.arrive, labelP t s.arrive, []⟩ :: (match t.seals[j]? with
    | none => []
    | some e => match t.stops[j + 1]? with
      | none => []
      | some n => if firstP l e = some (i, j) then [⟨s.office, 2, s.depart, e, contentsP l e s.depart⟩, ⟨n.office, 1, n.arrive, e, []⟩] else [])
def obsTrack (l : List Tk) (i : Nat) (t : Tk) : List Ob := (List.range t.stops.length).flatMap fun j => match t.stops[j]? with | some s => obsStop l i t j s | none => []
def obsP (l : List Tk) : List Ob := (List.range l.length).flatMap fun i => match l[i]? with | some t => obsTrack l i t | none => []
/-- The scanner of an office. -/
def scanP (l : List Scn) (office : Int) : Option Nat := l.findIdx? fun x => decide (x.office = office)
/-- An observation as a record without a number, if it counts. -/
def noteP (l : List Scn) (o : Ob) : Option RP := match scanP l o.office with
  | none => none
  | some i => if 1000000 < o.time then none else some ⟨i, 0, o.kind, o.time, o.label, o.contents⟩
/-- A stable sort. -/
def insK {α : Type} (key : α → Int) (x : α) : List α → List α
  | [] => [x]
  | y :: l => if key x ≤ key y then x :: y :: l else y :: insK key x l
def sortK {α : Type} (key : α → Int) : List α → List α
  | [] => []
  | x :: l => insK key x (sortK key l)
/-- The records get their numbers. -/
def numberP : List RP → List RP → List RP
  | _, [] => []
  | seen, r :: l => { r with number := ((seen.filter fun x => decide (x.scanner = r.scanner)).length : Nat) } :: numberP (seen ++ [r]) l
def recordsP (l : List Scn) (ts : List Tk) : List RP := numberP [] (sortK RP.time ((obsP ts).filterMap (noteP l)))
/-- An item is seen with a label at an office between two times. -/
def SeesP (office low high : Int) (t : Tk) (label : ByteArray) : Prop := ∃ (j : Nat) (s : Stp) (m : Int), t.stops[j]? = some s ∧ s.office = office ∧ s.arrive ≤ m ∧ low ≤ m ∧ m ≤ high ∧ (s.depart = -1 ∨ m ≤ s.depart) ∧ labelP t m = label
def HasP (o lo hi office time : Int) : Prop := office = o ∧ lo ≤ time ∧ time ≤ hi
/-- The container with a seal, if there is one: the stop that it leaves, and the one to which it comes. -/
def ContP (ts : List Tk) (s : ByteArray) (a b : Stp) : Prop := ∃ i j t, firstP ts s = some (i, j) ∧ ts[i]? = some t ∧ t.stops[j]? = some a ∧ t.stops[j + 1]? = some b
/-- A record is true. -/
def TrueP (l : List Scn) (ts : List Tk) (r : RP) : Prop := 0 ≤ r.scanner ∧ -2000000000 ≤ r.time ∧ r.time ≤ 2000000000 ∧ ∃ c, l[r.scanner.toNat]? = some c ∧
  ((r.kind = 1 ∧ r.contents = [] ∧ ((∃ t ∈ ts, SeesP c.office (r.time - c.error) (r.time + c.error) t r.label) ∨
      ∃ a b, ContP ts r.label a b ∧ (HasP c.office (r.time - c.error) (r.time + c.error) a.office a.depart ∨ HasP c.office (r.time - c.error) (r.time + c.error) b.office b.arrive))) ∨
   (r.kind = 2 ∧ ∃ a b, ContP ts r.label a b ∧ HasP c.office (r.time - c.error) (r.time + c.error) a.office a.depart ∧ r.contents = contentsP ts r.label a.depart))
end Go.Proofs.YtkabghifdedmfaaGreatDoor

namespace Go.Proofs.YtkabghifdedmfaaGreatDoor
open Go.RowKit

/-- Elements of some cells each, one behind the other. -/
def EncAt {α : Type} (k : Nat) (enc : α → List Value) (w : World) (p : Option Addr) (l : List α) : Prop :=
  0 < l.length → ∃ b o, p = some ⟨b, o, none⟩ ∧ ∀ (i : Nat) (x : α), l[i]? = some x → ∀ c v, (enc x)[c]? = some v → w.cell? ⟨b, o + i * k + c, none⟩ = some v
section
variable {α : Type} {k : Nat} {enc : α → List Value} {w w' : World} {p : Option Addr} {l : List α}
theorem EncAt.keep (hk : Keeps w w') (h : EncAt k enc w p l) : EncAt k enc w' p l := fun hl => by
  obtain ⟨b, o, hp, hc⟩ := h hl
  exact ⟨b, o, hp, fun i x hx c v hv => hk _ _ (hc i x hx c v hv)⟩
theorem EncAt.nil : EncAt k enc w p [] := fun h => absurd h (by simp)
theorem EncAt.at_ (h : EncAt k enc w p l) {i : Nat} (hi : i < l.length) : ∃ b o x, p = some ⟨b, o, none⟩ ∧ l[i]? = some x ∧ ∀ c v, (enc x)[c]? = some v → w.cell? ⟨b, o + i * k + c, none⟩ = some v := by
  obtain ⟨b, o, hp, hc⟩ := h (by omega)
  have hx : l[i]? = some l[i] := List.getElem?_eq_getElem hi
  exact ⟨b, o, l[i], hp, hx, hc i _ hx⟩
theorem flatMap_at {α : Type} {enc : α → List Value} {k : Nat} (hk : ∀ x, (enc x).length = k) : ∀ (l : List α) (i c : Nat) (x : α), l[i]? = some x → c < k → (l.flatMap enc)[i * k + c]? = (enc x)[c]?
  | [], i, c, x, h, _ => by simp at h
  | y :: l, 0, c, x, h, hc => by
    simp at h; subst h
    rw [List.flatMap_cons, List.getElem?_append_left (by rw [hk]; omega)]
    congr 1; omega
  | y :: l, i + 1, c, x, h, hc => by
    have := flatMap_at hk l i c x (by simpa using h) hc
    rw [List.flatMap_cons, List.getElem?_append_right (by rw [hk, Nat.add_mul]; omega), hk, ← this]
    congr 1; rw [Nat.add_mul]; omega
theorem flatMap_len {α : Type} {enc : α → List Value} {k : Nat} (hk : ∀ x, (enc x).length = k) : ∀ l : List α, (l.flatMap enc).length = l.length * k
  | [] => by simp
  | y :: l => by rw [List.flatMap_cons, List.length_append, hk, flatMap_len hk l, List.length_cons, Nat.add_mul]; omega
theorem EncAt.of_flat (hk : ∀ x, (enc x).length = k) {g : Nat} (h : ∀ j u, (l.flatMap enc)[j]? = some u → w.cell? ⟨g, j, none⟩ = some u) : EncAt k enc w (some ⟨g, 0, none⟩) l := fun _ =>
  ⟨g, 0, rfl, fun i x hx c v hv => by
    have hc : c < k := by rw [← hk x]; exact (List.getElem?_eq_some_iff.1 hv).1
    have := h _ _ ((flatMap_at hk l i c x hx hc).trans hv)
    simpa using this⟩
theorem EncAt.lit (hk : ∀ x, (enc x).length = k) {t : TypeId} (l : List α) : EncAt k enc (w.alloc (.cells (l.flatMap enc).toArray t)) (some ⟨w.heap.size, 0, none⟩) l :=
  EncAt.of_flat hk fun j u hu => by rw [cell_new]; simpa using hu
theorem EncAt.of_own (hk : ∀ x, (enc x).length = k) (h0 : 0 < k) {base : Nat} {e : TypeId} {n cap : Nat} (h : w.ownsRow base e k (.slice p n cap) n (l.flatMap enc)) : EncAt k enc w p l := fun hl => by
  have hn : l.length * k = n * k := by have h1 := h.1; rwa [flatMap_len hk] at h1
  have hn' : l.length = n := Nat.eq_of_mul_eq_mul_right h0 hn
  rcases h.2 with ⟨hv, h0⟩ | ⟨g, cap', cur, hv, _, hh, _⟩
  · omega
  · injection hv with h1 h2 h3
    subst h1
    refine EncAt.of_flat hk (fun j u hu => ?_) hl
    have := h.cells (g := g) rfl j u hu
    rw [Addr.add_lit] at this
    simpa using this
end

/-- Strings, one behind the other. -/
def StrsAt (w : World) (p : Option Addr) (l : List ByteArray) : Prop := EncAt 1 (fun s => [Value.string s]) w p l ∧ ∀ s ∈ l, s.size ≤ maxLen
theorem StrsAt.keep {w w' : World} {p : Option Addr} {l : List ByteArray} (hk : Keeps w w') (h : StrsAt w p l) : StrsAt w' p l := ⟨h.1.keep hk, h.2⟩
theorem StrsAt.nil {w : World} {p : Option Addr} : StrsAt w p [] := ⟨EncAt.nil, by simp⟩
theorem StrsAt.at_ {w : World} {p : Option Addr} {l : List ByteArray} (h : StrsAt w p l) {i : Nat} (hi : i < l.length) : ∃ b o s, p = some ⟨b, o, none⟩ ∧ l[i]? = some s ∧ w.cell? ⟨b, o + i, none⟩ = some (.string s) ∧ s.size ≤ maxLen := by
  obtain ⟨b, o, s, hp, hs, hc⟩ := h.1.at_ hi
  have := hc 0 _ rfl
  simp only [Nat.mul_one, Nat.add_zero] at this
  exact ⟨b, o, s, hp, hs, this, h.2 s (List.mem_of_getElem? hs)⟩
def Scn.cells (x : Scn) : List Value := [.int .i64 x.operator, .int .i64 x.office, .int .i64 x.error]
abbrev ScnsAt := EncAt 3 Scn.cells
theorem EncAt.scn {w : World} {p : Option Addr} {l : List Scn} (h : ScnsAt w p l) {i : Nat} (hi : i < l.length) : ∃ b o x, p = some ⟨b, o, none⟩ ∧ l[i]? = some x ∧
    w.cell? ⟨b, o + i * 3, none⟩ = some (.int .i64 x.operator) ∧ w.cell? ⟨b, o + i * 3 + 1, none⟩ = some (.int .i64 x.office) ∧ w.cell? ⟨b, o + i * 3 + 2, none⟩ = some (.int .i64 x.error) := by
  obtain ⟨b, o, x, hp, hx, hc⟩ := h.at_ hi
  exact ⟨b, o, x, hp, hx, hc 0 _ rfl, hc 1 _ rfl, hc 2 _ rfl⟩
def Stp.cells (x : Stp) : List Value := [.int .i64 x.office, .int .i64 x.arrive, .int .i64 x.depart, .int .i64 x.line]
abbrev StpsAt := EncAt 4 Stp.cells
theorem EncAt.stp {w : World} {p : Option Addr} {l : List Stp} (h : StpsAt w p l) {i : Nat} (hi : i < l.length) : ∃ b o x, p = some ⟨b, o, none⟩ ∧ l[i]? = some x ∧
    w.cell? ⟨b, o + i * 4, none⟩ = some (.int .i64 x.office) ∧ w.cell? ⟨b, o + i * 4 + 1, none⟩ = some (.int .i64 x.arrive) ∧ w.cell? ⟨b, o + i * 4 + 2, none⟩ = some (.int .i64 x.depart) ∧ w.cell? ⟨b, o + i * 4 + 3, none⟩ = some (.int .i64 x.line) := by
  obtain ⟨b, o, x, hp, hx, hc⟩ := h.at_ hi
  exact ⟨b, o, x, hp, hx, hc 0 _ rfl, hc 1 _ rfl, hc 2 _ rfl, hc 3 _ rfl⟩
/-- A track with the places of its lists. -/
structure Trk where
  label0 : ByteArray
  from0 : Int
  to0 : Int
  class0 : Int
  accept : Int
  sp : Option Addr
  stops : List Stp
  sc : Nat
  lost : Bool
  np : Option Addr
  since : List Int
  nc : Nat
  lp : Option Addr
  label : List ByteArray
  lc : Nat
  ep : Option Addr
  seals : List ByteArray
  ec : Nat
def Trk.tk (t : Trk) : Tk := ⟨t.stops, t.since, t.label, t.seals⟩
def Trk.cells (t : Trk) : List Value := [.string t.label0, .int .i64 t.from0, .int .i64 t.to0, .int .i64 t.class0, .int .i64 t.accept, .slice t.sp t.stops.length t.sc, .bool t.lost, .slice t.np t.since.length t.nc, .slice t.lp t.label.length t.lc, .slice t.ep t.seals.length t.ec]
/-- What a track's lists read as. -/
structure TrkAt (w : World) (t : Trk) : Prop where
  stops : StpsAt w t.sp t.stops
  since : IntsAt .i64 w t.np t.since
  label : StrsAt w t.lp t.label
  seals : StrsAt w t.ep t.seals
  few : t.stops.length ≤ maxLen ∧ t.since.length ≤ maxLen ∧ t.label.length ≤ maxLen ∧ t.seals.length ≤ maxLen
theorem TrkAt.keep {w w' : World} {t : Trk} (hk : Keeps w w') (h : TrkAt w t) : TrkAt w' t := ⟨h.stops.keep hk, h.since.keep hk, h.label.keep hk, h.seals.keep hk, h.few⟩
def TrksAt (w : World) (p : Option Addr) (l : List Trk) : Prop := EncAt 10 Trk.cells w p l ∧ ∀ t ∈ l, TrkAt w t
theorem TrksAt.keep {w w' : World} {p : Option Addr} {l : List Trk} (hk : Keeps w w') (h : TrksAt w p l) : TrksAt w' p l := ⟨h.1.keep hk, fun t ht => (h.2 t ht).keep hk⟩
/-- A record, with the place of its contents. -/
structure Rec where
  scanner : Int
  number : Int
  kind : Int
  time : Int
  label : ByteArray
  cp : Option Addr
  contents : List ByteArray
  cc : Nat
def Rec.rp (r : Rec) : RP := ⟨r.scanner, r.number, r.kind, r.time, r.label, r.contents⟩
def Rec.cells (r : Rec) : List Value := [.int .i64 r.scanner, .int .i64 r.number, .int .i64 r.kind, .int .i64 r.time, .string r.label, .slice r.cp r.contents.length r.cc]
def RecsAt (w : World) (p : Option Addr) (l : List Rec) : Prop := EncAt 6 Rec.cells w p l ∧ ∀ r ∈ l, StrsAt w r.cp r.contents
theorem RecsAt.keep {w w' : World} {p : Option Addr} {l : List Rec} (hk : Keeps w w') (h : RecsAt w p l) : RecsAt w' p l := ⟨h.1.keep hk, fun t ht => (h.2 t ht).keep hk⟩
def scnsB (l : List Scn) : Bool := decide (l.length ≤ 24) && l.all scnOk
end Go.Proofs.YtkabghifdedmfaaGreatDoor

namespace Go.Proofs.YtkabghifdedmfaaGreatDoor
open Go.RowKit

set_option maxHeartbeats 1000000 in
theorem bad1_c (x : Scn) (w : World) (R) (hR : ∀ w', Below w.heap.size w w' → R (.returned (.bool (!scnOk x))) w') : Calls Tryz.prog 43 #[.agg #[.int .i64 x.operator, .int .i64 x.office, .int .i64 x.error]] w R := by
  obtain ⟨a, b, c⟩ := x
  simp only at hR ⊢
  have HB := hide (balloc (Below.refl w.heap.size w) (.cells #[.int .i64 a, .int .i64 b, .int .i64 c] 72))
  by_cases h : 0 ≤ a ∧ 0 ≤ b ∧ 0 ≤ c ∧ c ≤ 10000
  · rw [show scnOk ⟨a, b, c⟩ = true from scnOk_iff.2 h] at hR
    have HR := hide hR
    clear hR
    obtain ⟨h1, h2, h3, h4⟩ := h
    have d1 : decide (a < 0) = false := by simp; omega
    have d2 : decide (b < 0) = false := by simp; omega
    have d3 : decide (c < 0) = false := by simp; omega
    have d4 : decide ((10000 : Int) < c) = false := by simp; omega
    clear h1 h2 h3 h4
    go_enter Tryz.func43, Tryz.ntmps43
    go_wp2
    have := HR.out _ HB.out
    simpa [d1, d2, d3, d4] using this
  · rw [show scnOk ⟨a, b, c⟩ = false by cases hh : scnOk ⟨a, b, c⟩ with | false => rfl | true => exact absurd (scnOk_iff.1 hh) h] at hR
    have HR := hide hR
    clear hR
    by_cases h1 : a < 0
    · clear h
      go_enter Tryz.func43, Tryz.ntmps43
      go_wp2
      exact HR.out _ HB.out
    by_cases h2 : b < 0
    · clear h
      go_enter Tryz.func43, Tryz.ntmps43
      go_wp2
      exact HR.out _ HB.out
    by_cases h3 : c < 0
    · clear h
      go_enter Tryz.func43, Tryz.ntmps43
      go_wp2
      exact HR.out _ HB.out
    have h4 : 10000 < c := by omega
    clear h
    go_enter Tryz.func43, Tryz.ntmps43
    go_wp2
    exact HR.out _ HB.out
/-- IndexFunc finds a bad scanner exactly if there is one. -/
theorem idxScn_c (p : Option Addr) (c : Nat) (l : List Scn) (w : World) (R) (hl : l.length ≤ 1000) (h : ScnsAt w p l) (hR : ∀ r w', Below w.heap.size w w' → (0 ≤ r ↔ l.all scnOk = false) → R (.returned (.int .i64 r)) w') : Calls Tryz.prog 83 #[.slice p l.length c, .func (.func 43) #[] #[]] w R := by
  have HR := hide hR; have H := hide h
  clear hR h
  go_enter Tryz.func83, Tryz.ntmps83
  go_wp2
  go_loopw [8] (fun si wr => ∃ k : Nat, k ≤ l.length ∧ si = .int .i64 k ∧ Hid ((l.take k).all scnOk = true) ∧ Hid (Below w.heap.size w wr)) (fun si _ => l.length - (intOf si).toNat)
  case atStart => exact ⟨0, Nat.zero_le _, rfl, hide (by simp), hide (Below.refl _ _)⟩
  case round =>
    obtain ⟨k, hk, rfl, HA, HB⟩ := hrel
    by_cases hlt : k < l.length
    · obtain ⟨b, o, x, rfl, hx, x0, x1, x2⟩ := (H.out.keep (Keeps.of_below HB.out)).scn hlt
      have Hx := hide hx
      clear hx
      cases hok : scnOk x with
      | true =>
        have HA2 := hide (show (l.take (k + 1)).all scnOk = true by rw [all_take_succ _ _ _ _ Hx.out, HA.out, hok]; rfl)
        have Hok := hide hok
        clear hok
        go_wp2_with (go_at_call 43; refine Stop.out ?_)
        refine Stop.go (bad1_c x _ _ ?_)
        intro w2 hb
        rw [Hok.out]
        have HB2 := hide (bseq HB.out hb)
        clear hb
        go_wp2
        go_roundw
        case rel => exact ⟨k + 1, by omega, by go_num, HA2, HB2⟩
        case measure => simp [intOf]; omega
      | false =>
        have HF := hide (all_false_of _ _ _ _ Hx.out hok)
        have Hok := hide hok
        clear hok
        go_wp2_with (go_at_call 43; refine Stop.out ?_)
        refine Stop.go (bad1_c x _ _ ?_)
        intro w2 hb
        rw [Hok.out]
        have HB2 := hide (bseq HB.out hb)
        clear hb
        go_wp2
        exact HR.out _ _ HB2.out ⟨fun _ => HF.out, fun _ => by omega⟩
    · obtain rfl : k = l.length := by omega
      have HT := hide (show l.all scnOk = true by have := HA.out; rwa [List.take_length] at this)
      go_wp2
      exact HR.out _ _ HB.out ⟨fun h => absurd h (by omega), fun h => by rw [HT.out] at h; cases h⟩
theorem scanners_c (p : Option Addr) (c : Nat) (l : List Scn) (w : World) (R) (hl : l.length ≤ 1000) (h : ScnsAt w p l) (hR : ∀ w', Below w.heap.size w w' → R (.returned (.bool (scnsB l))) w') : Calls Tryz.prog 18 #[.slice p l.length c] w R := by
  by_cases h24 : l.length ≤ 24
  rotate_left
  · rw [show scnsB l = false by unfold scnsB; rw [decide_eq_false h24]; rfl] at hR
    have HR := hide hR
    have h24' : (24 : Int) < (l.length : Int) := by omega
    clear hR h24
    go_enter Tryz.func18, Tryz.ntmps18
    go_wp2
    exact HR.out _ (Below.refl _ _)
  have h24' : ¬ (24 : Int) < (l.length : Int) := by omega
  have H := hide h
  have hR2 : ∀ w', Below w.heap.size w w' → R (.returned (.bool (l.all scnOk))) w' := fun w' hb => by
    have := hR w' hb
    rwa [show scnsB l = l.all scnOk by unfold scnsB; rw [decide_eq_true h24]; rfl] at this
  have HR := hide hR2
  clear hR hR2 h
  go_enter Tryz.func18, Tryz.ntmps18
  go_wp2_with (go_at_call 42; refine Stop.out ?_)
  refine Stop.go ?_
  go_enter Tryz.func42, Tryz.ntmps42
  go_wp2_with (go_at_call 83; refine Stop.out ?_)
  refine Stop.go (idxScn_c p c l _ _ hl H.out ?_)
  intro r w2 hb hr
  have HB := hide hb
  have Hr := hide hr
  clear hb hr
  cases ha : l.all scnOk with
  | true =>
    have h1 : ¬ 0 ≤ r := fun h => by have := Hr.out.1 h; rw [ha] at this; cases this
    have d1 : decide (0 ≤ r) = false := by simpa using h1
    have HR1 := hide (HR.out w2 HB.out)
    rw [ha] at HR1
    clear ha
    go_wp2
    exact HR1.out
  | false =>
    have h1 : 0 ≤ r := Hr.out.2 ha
    have HR1 := hide (HR.out w2 HB.out)
    rw [ha] at HR1
    clear ha
    go_wp2
    exact HR1.out
end Go.Proofs.YtkabghifdedmfaaGreatDoor
