/- Scanners, tracks and records as plain values, and what the layer's functions say of them. Scanners, stops, tracks, records and slips as they lie in memory. Well-formed scanners. The reference's tests of few, scanners and tracks. Is a list of numbers sorted? The index of a label: the search by a closure. The search for a label's index. The index of a track's label at a time. Plain: a label's place, and what is seen between two times. A track's label at a time. Well-formed tracks pass. Well-formed tracks pass: the list. -/
import Derived.RowKit
import Derived.Test.YtihdpkeclmpehaaChecked
import Derived.Test.YtihdpkeclmpehaaOp
import Derived.IntWalk
import Derived.BigRegion
set_option linter.unusedVariables false
set_option linter.unusedSimpArgs false
namespace Go.Proofs.Ytihdpkeclmpehaa

structure Scn where
  operator : Int
  office : Int
  error : Int
structure Stp where
  office : Int
  arrive : Int
  depart : Int
  line : Int
/-- A track: its stops, its labels and the seals of its departures. -/
structure Tk where
  stops : List Stp
  since : List Int
  label : List ByteArray
  seals : List ByteArray
/-- A record. -/
structure RP where
  scanner : Int
  number : Int
  kind : Int
  time : Int
  label : ByteArray
  contents : List ByteArray
instance : DecidableEq RP := fun x y => match x, y with
  | ⟨a, b, c, d, e, f⟩, ⟨a', b', c', d', e', f'⟩ => if h : a = a' ∧ b = b' ∧ c = c' ∧ d = d' ∧ e = e' ∧ f = f' then isTrue (by obtain ⟨rfl, rfl, rfl, rfl, rfl, rfl⟩ := h; rfl) else isFalse (fun e => by injection e with h1 h2 h3 h4 h5 h6; exact h ⟨h1, h2, h3, h4, h5, h6⟩)
/-- Times do not decrease. -/
def AscI (l : List Int) : Prop := ∀ (m : Nat) (x y : Int), l[m]? = some x → l[m + 1]? = some y → x ≤ y
/-- A stop of a well-formed track. -/
structure StpOk (n i : Nat) (s : Stp) (nx : Option Stp) : Prop where
  office : 0 ≤ s.office
  arrive : 0 ≤ s.arrive ∧ s.arrive ≤ 1000000000
  last : i + 1 = n → s.depart = -1 ∧ s.line = -1
  mid : i + 1 < n → s.arrive ≤ s.depart ∧ s.depart ≤ 1000000000 ∧ 0 ≤ s.line
  next : i + 1 < n → ∀ t, nx = some t → s.depart ≤ t.arrive
/-- A well-formed track. -/
structure TkOk (t : Tk) : Prop where
  stops : 0 < t.stops.length
  seals : t.seals.length + 1 = t.stops.length
  labels : t.since.length = t.label.length
  since : 0 < t.since.length
  first : ∀ x s, t.since[0]? = some x → t.stops[0]? = some s → x ≤ s.arrive
  asc : AscI t.since
  each : ∀ (i : Nat) (s : Stp), t.stops[i]? = some s → StpOk t.stops.length i s t.stops[i + 1]?
  few : t.stops.length ≤ 20 ∧ t.since.length ≤ 10
def TksOk (l : List Tk) : Prop := l.length ≤ 8 ∧ ∀ t ∈ l, TkOk t
/-- Scanners as they have to be. -/
def scnOk (x : Scn) : Bool := !(decide (x.operator < 0) || decide (x.office < 0) || decide (x.error < 0) || decide (10000 < x.error))
theorem scnOk_iff {x : Scn} : scnOk x = true ↔ 0 ≤ x.operator ∧ 0 ≤ x.office ∧ 0 ≤ x.error ∧ x.error ≤ 10000 := by
  unfold scnOk; simp; omega
def ScnsOk (l : List Scn) : Prop := l.length ≤ 24 ∧ ∀ x ∈ l, scnOk x = true
/-- How many times are not later. -/
def cutN (l : List Int) (time : Int) : Nat := (l.takeWhile (fun x => decide (x ≤ time))).length
/-- The label at a time. -/
def labelP (t : Tk) (time : Int) : ByteArray := match cutN t.since time with
  | 0 => ⟨#[]⟩
  | c + 1 => (t.label[c]?).getD ⟨#[]⟩
/-- The first departure with a seal. -/
def firstP : List Tk → ByteArray → Option (Nat × Nat)
  | [], _ => none
  | t :: l, s => match t.seals.findIdx? (fun x => decide (x = s)) with
    | some j => some (0, j)
    | none => (firstP l s).map fun p => (p.1 + 1, p.2)
/-- The tracks that have a departure with a seal. -/
def insideP (l : List Tk) (s : ByteArray) : List Nat := (List.range l.length).filter fun i => match l[i]? with | some t => t.seals.any (fun x => decide (x = s)) | none => false
/-- The contents of a container that leaves at a time. -/
def contentsP (l : List Tk) (s : ByteArray) (time : Int) : List ByteArray := (insideP l s).map fun i => match l[i]? with | some t => labelP t time | none => ⟨#[]⟩
/-- An observation: the office and the record, without scanner and number. -/
structure Ob where
  office : Int
  kind : Int
  time : Int
  label : ByteArray
  contents : List ByteArray
/-- The observations of a track's stop. -/
def obsStop (l : List Tk) (i : Nat) (t : Tk) (j : Nat) (s : Stp) : List Ob :=
  ⟨s.office, 1, s.arrive, labelP t s.arrive, []⟩ :: (match t.seals[j]? with
    | none => []
    | some e => match t.stops[j + 1]? with
      | none => []
      | some n => if firstP l e = some (i, j) then [⟨s.office, 2, s.depart, e, contentsP l e s.depart⟩, ⟨n.office, 1, n.arrive, e, []⟩] else [])
def obsTrack (l : List Tk) (i : Nat) (t : Tk) : List Ob := (List.range t.stops.length).flatMap fun j => match t.stops[j]? with | some s => obsStop l i t j s | none => []
def obsP (l : List Tk) : List Ob := (List.range l.length).flatMap fun i => match l[i]? with | some t => obsTrack l i t | none => []
/-- The scanner of an office. -/
def scanP (l : List Scn) (office : Int) : Option Nat := l.findIdx? fun x => decide (x.office = office)
/-- An observation as a record without a number, if it counts. -/
def noteP (l : List Scn) (o : Ob) : Option RP := match scanP l o.office with
  | none => none
  | some i => if 1000000 < o.time then none else some ⟨i, 0, o.kind, o.time, o.label, o.contents⟩
/-- A stable sort. -/
def insK {α : Type} (key : α → Int) (x : α) : List α → List α
  | [] => [x]
  | y :: l => if key x ≤ key y then x :: y :: l else y :: insK key x l
def sortK {α : Type} (key : α → Int) : List α → List α
  | [] => []
  | x :: l => insK key x (sortK key l)
/-- The records get their numbers. -/
def numberP : List RP → List RP → List RP
  | _, [] => []
  | seen, r :: l => { r with number := ((seen.filter fun x => decide (x.scanner = r.scanner)).length : Nat) } :: numberP (seen ++ [r]) l
def recordsP (l : List Scn) (ts : List Tk) : List RP := numberP [] (sortK RP.time ((obsP ts).filterMap (noteP l)))
/-- An item is seen with a label at an office between two times. -/
def SeesP (office low high : Int) (t : Tk) (label : ByteArray) : Prop := ∃ (j : Nat) (s : Stp) (m : Int), t.stops[j]? = some s ∧ s.office = office ∧ s.arrive ≤ m ∧ low ≤ m ∧ m ≤ high ∧ (s.depart = -1 ∨ m ≤ s.depart) ∧ labelP t m = label
def HasP (o lo hi office time : Int) : Prop := office = o ∧ lo ≤ time ∧ time ≤ hi
/-- The container with a seal, if there is one: the stop that it leaves, and the one to which it comes. -/
def ContP (ts : List Tk) (s : ByteArray) (a b : Stp) : Prop := ∃ i j t, firstP ts s = some (i, j) ∧ ts[i]? = some t ∧ t.stops[j]? = some a ∧ t.stops[j + 1]? = some b
/-- A record is true. -/
def TrueP (l : List Scn) (ts : List Tk) (r : RP) : Prop := 0 ≤ r.scanner ∧ -2000000000 ≤ r.time ∧ r.time ≤ 2000000000 ∧ ∃ c, l[r.scanner.toNat]? = some c ∧
  ((r.kind = 1 ∧ r.contents = [] ∧ ((∃ t ∈ ts, SeesP c.office (r.time - c.error) (r.time + c.error) t r.label) ∨
      ∃ a b, ContP ts r.label a b ∧ (HasP c.office (r.time - c.error) (r.time + c.error) a.office a.depart ∨ HasP c.office (r.time - c.error) (r.time + c.error) b.office b.arrive))) ∨
   (r.kind = 2 ∧ ∃ a b, ContP ts r.label a b ∧ HasP c.office (r.time - c.error) (r.time + c.error) a.office a.depart ∧ r.contents = contentsP ts r.label a.depart))
end Go.Proofs.Ytihdpkeclmpehaa

namespace Go.Proofs.Ytihdpkeclmpehaa
open Go.RowKit

/-- Elements of some cells each, one behind the other. -/
def EncAt {α : Type} (k : Nat) (enc : α → List Value) (w : World) (p : Option Addr) (l : List α) : Prop :=
  0 < l.length → ∃ b o, p = some ⟨b, o, none⟩ ∧ ∀ (i : Nat) (x : α), l[i]? = some x → ∀ c v, (enc x)[c]? = some v → w.cell? ⟨b, o + i * k + c, none⟩ = some v
section
variable {α : Type} {k : Nat} {enc : α → List Value} {w w' : World} {p : Option Addr} {l : List α}
theorem EncAt.keep (hk : Keeps w w') (h : EncAt k enc w p l) : EncAt k enc w' p l := fun hl => by
  obtain ⟨b, o, hp, hc⟩ := h hl
  exact ⟨b, o, hp, fun i x hx c v hv => hk _ _ (hc i x hx c v hv)⟩
theorem EncAt.nil : EncAt k enc w p [] := fun h => absurd h (by simp)
theorem EncAt.at_ (h : EncAt k enc w p l) {i : Nat} (hi : i < l.length) : ∃ b o x, p = some ⟨b, o, none⟩ ∧ l[i]? = some x ∧ ∀ c v, (enc x)[c]? = some v → w.cell? ⟨b, o + i * k + c, none⟩ = some v := by
  obtain ⟨b, o, hp, hc⟩ := h (by omega)
  have hx : l[i]? = some l[i] := List.getElem?_eq_getElem hi
  exact ⟨b, o, l[i], hp, hx, hc i _ hx⟩
theorem flatMap_at {α : Type} {enc : α → List Value} {k : Nat} (hk : ∀ x, (enc x).length = k) : ∀ (l : List α) (i c : Nat) (x : α), l[i]? = some x → c < k → (l.flatMap enc)[i * k + c]? = (enc x)[c]?
  | [], i, c, x, h, _ => by simp at h
  | y :: l, 0, c, x, h, hc => by
    simp at h; subst h
    rw [List.flatMap_cons, List.getElem?_append_left (by rw [hk]; omega)]
    congr 1; omega
  | y :: l, i + 1, c, x, h, hc => by
    have := flatMap_at hk l i c x (by simpa using h) hc
    rw [List.flatMap_cons, List.getElem?_append_right (by rw [hk, Nat.add_mul]; omega), hk, ← this]
    congr 1; rw [Nat.add_mul]; omega
theorem flatMap_len {α : Type} {enc : α → List Value} {k : Nat} (hk : ∀ x, (enc x).length = k) : ∀ l : List α, (l.flatMap enc).length = l.length * k
  | [] => by simp
  | y :: l => by rw [List.flatMap_cons, List.length_append, hk, flatMap_len hk l, List.length_cons, Nat.add_mul]; omega
theorem EncAt.of_flat (hk : ∀ x, (enc x).length = k) {g : Nat} (h : ∀ j u, (l.flatMap enc)[j]? = some u → w.cell? ⟨g, j, none⟩ = some u) : EncAt k enc w (some ⟨g, 0, none⟩) l := fun _ =>
  ⟨g, 0, rfl, fun i x hx c v hv => by
    have hc : c < k := by rw [← hk x]; exact (List.getElem?_eq_some_iff.1 hv).1
    have := h _ _ ((flatMap_at hk l i c x hx hc).trans hv)
    simpa using this⟩
theorem EncAt.lit (hk : ∀ x, (enc x).length = k) {t : TypeId} (l : List α) : EncAt k enc (w.alloc (.cells (l.flatMap enc).toArray t)) (some ⟨w.heap.size, 0, none⟩) l :=
  EncAt.of_flat hk fun j u hu => by rw [cell_new]; simpa using hu
theorem EncAt.of_own (hk : ∀ x, (enc x).length = k) (h0 : 0 < k) {base : Nat} {e : TypeId} {n cap : Nat} (h : w.ownsRow base e k (.slice p n cap) n (l.flatMap enc)) : EncAt k enc w p l := fun hl => by
  have hn : l.length * k = n * k := by have h1 := h.1; rwa [flatMap_len hk] at h1
  have hn' : l.length = n := Nat.eq_of_mul_eq_mul_right h0 hn
  rcases h.2 with ⟨hv, h0⟩ | ⟨g, cap', cur, hv, _, hh, _⟩
  · omega
  · injection hv with h1 h2 h3
    subst h1
    refine EncAt.of_flat hk (fun j u hu => ?_) hl
    have := h.cells (g := g) rfl j u hu
    rw [Addr.add_lit] at this
    simpa using this
end

/-- Strings, one behind the other. -/
def StrsAt (w : World) (p : Option Addr) (l : List ByteArray) : Prop := EncAt 1 (fun s => [Value.string s]) w p l ∧ ∀ s ∈ l, s.size ≤ maxLen
theorem StrsAt.keep {w w' : World} {p : Option Addr} {l : List ByteArray} (hk : Keeps w w') (h : StrsAt w p l) : StrsAt w' p l := ⟨h.1.keep hk, h.2⟩
theorem StrsAt.nil {w : World} {p : Option Addr} : StrsAt w p [] := ⟨EncAt.nil, by simp⟩
theorem StrsAt.at_ {w : World} {p : Option Addr} {l : List ByteArray} (h : StrsAt w p l) {i : Nat} (hi : i < l.length) : ∃ b o s, p = some ⟨b, o, none⟩ ∧ l[i]? = some s ∧ w.cell? ⟨b, o + i, none⟩ = some (.string s) ∧ s.size ≤ maxLen := by
  obtain ⟨b, o, s, hp, hs, hc⟩ := h.1.at_ hi
  have := hc 0 _ rfl
  simp only [Nat.mul_one, Nat.add_zero] at this
  exact ⟨b, o, s, hp, hs, this, h.2 s (List.mem_of_getElem? hs)⟩
def Scn.cells (x : Scn) : List Value := [.int .i64 x.operator, .int .i64 x.office, .int .i64 x.error]
abbrev ScnsAt := EncAt 3 Scn.cells
theorem EncAt.scn {w : World} {p : Option Addr} {l : List Scn} (h : ScnsAt w p l) {i : Nat} (hi : i < l.length) : ∃ b o x, p = some ⟨b, o, none⟩ ∧ l[i]? = some x ∧
    w.cell? ⟨b, o + i * 3, none⟩ = some (.int .i64 x.operator) ∧ w.cell? ⟨b, o + i * 3 + 1, none⟩ = some (.int .i64 x.office) ∧ w.cell? ⟨b, o + i * 3 + 2, none⟩ = some (.int .i64 x.error) := by
  obtain ⟨b, o, x, hp, hx, hc⟩ := h.at_ hi
  exact ⟨b, o, x, hp, hx, hc 0 _ rfl, hc 1 _ rfl, hc 2 _ rfl⟩
def Stp.cells (x : Stp) : List Value := [.int .i64 x.office, .int .i64 x.arrive, .int .i64 x.depart, .int .i64 x.line]
abbrev StpsAt := EncAt 4 Stp.cells
theorem EncAt.stp {w : World} {p : Option Addr} {l : List Stp} (h : StpsAt w p l) {i : Nat} (hi : i < l.length) : ∃ b o x, p = some ⟨b, o, none⟩ ∧ l[i]? = some x ∧
    w.cell? ⟨b, o + i * 4, none⟩ = some (.int .i64 x.office) ∧ w.cell? ⟨b, o + i * 4 + 1, none⟩ = some (.int .i64 x.arrive) ∧ w.cell? ⟨b, o + i * 4 + 2, none⟩ = some (.int .i64 x.depart) ∧ w.cell? ⟨b, o + i * 4 + 3, none⟩ = some (.int .i64 x.line) := by
  obtain ⟨b, o, x, hp, hx, hc⟩ := h.at_ hi
  exact ⟨b, o, x, hp, hx, hc 0 _ rfl, hc 1 _ rfl, hc 2 _ rfl, hc 3 _ rfl⟩
/-- A track with the places of its lists. -/
structure Trk where
  label0 : ByteArray
  from0 : Int
  to0 : Int
  class0 : Int
  accept : Int
  sp : Option Addr
  stops : List Stp
  sc : Nat
  lost : Bool
  np : Option Addr
  since : List Int
  nc : Nat
  lp : Option Addr
  label : List ByteArray
  lc : Nat
  ep : Option Addr
  seals : List ByteArray
  ec : Nat
def Trk.tk (t : Trk) : Tk := ⟨t.stops, t.since, t.label, t.seals⟩
def Trk.cells (t : Trk) : List Value := [.string t.label0, .int .i64 t.from0, .int .i64 t.to0, .int .i64 t.class0, .int .i64 t.accept, .slice t.sp t.stops.length t.sc, .bool t.lost, .slice t.np t.since.length t.nc, .slice t.lp t.label.length t.lc, .slice t.ep t.seals.length t.ec]
/-- What a track's lists read as. -/
structure TrkAt (w : World) (t : Trk) : Prop where
  stops : StpsAt w t.sp t.stops
  since : IntsAt .i64 w t.np t.since
  label : StrsAt w t.lp t.label
  seals : StrsAt w t.ep t.seals
  few : t.stops.length ≤ maxLen ∧ t.since.length ≤ maxLen ∧ t.label.length ≤ maxLen ∧ t.seals.length ≤ maxLen
theorem TrkAt.keep {w w' : World} {t : Trk} (hk : Keeps w w') (h : TrkAt w t) : TrkAt w' t := ⟨h.stops.keep hk, h.since.keep hk, h.label.keep hk, h.seals.keep hk, h.few⟩
def TrksAt (w : World) (p : Option Addr) (l : List Trk) : Prop := EncAt 10 Trk.cells w p l ∧ ∀ t ∈ l, TrkAt w t
theorem TrksAt.keep {w w' : World} {p : Option Addr} {l : List Trk} (hk : Keeps w w') (h : TrksAt w p l) : TrksAt w' p l := ⟨h.1.keep hk, fun t ht => (h.2 t ht).keep hk⟩
/-- A record, with the place of its contents. -/
structure Rec where
  scanner : Int
  number : Int
  kind : Int
  time : Int
  label : ByteArray
  cp : Option Addr
  contents : List ByteArray
  cc : Nat
def Rec.rp (r : Rec) : RP := ⟨r.scanner, r.number, r.kind, r.time, r.label, r.contents⟩
def Rec.cells (r : Rec) : List Value := [.int .i64 r.scanner, .int .i64 r.number, .int .i64 r.kind, .int .i64 r.time, .string r.label, .slice r.cp r.contents.length r.cc]
def RecsAt (w : World) (p : Option Addr) (l : List Rec) : Prop := EncAt 6 Rec.cells w p l ∧ ∀ r ∈ l, StrsAt w r.cp r.contents
theorem RecsAt.keep {w w' : World} {p : Option Addr} {l : List Rec} (hk : Keeps w w') (h : RecsAt w p l) : RecsAt w' p l := ⟨h.1.keep hk, fun t ht => (h.2 t ht).keep hk⟩
def scnsB (l : List Scn) : Bool := decide (l.length ≤ 24) && l.all scnOk
end Go.Proofs.Ytihdpkeclmpehaa

namespace Go.Proofs.Ytihdpkeclmpehaa
open Go.RowKit

set_option maxHeartbeats 1000000 in
theorem bad1_c (x : Scn) (w : World) (R) (hR : ∀ w', Below w.heap.size w w' → R (.returned (.bool (!scnOk x))) w') : Calls Try.prog 46 #[.agg #[.int .i64 x.operator, .int .i64 x.office, .int .i64 x.error]] w R := by
  obtain ⟨a, b, c⟩ := x
  simp only at hR ⊢
  have HB := hide (balloc (Below.refl w.heap.size w) (.cells #[.int .i64 a, .int .i64 b, .int .i64 c] 35))
  by_cases h : 0 ≤ a ∧ 0 ≤ b ∧ 0 ≤ c ∧ c ≤ 10000
  · rw [show scnOk ⟨a, b, c⟩ = true from scnOk_iff.2 h] at hR
    have HR := hide hR
    clear hR
    obtain ⟨h1, h2, h3, h4⟩ := h
    have d1 : decide (a < 0) = false := by simp; omega
    have d2 : decide (b < 0) = false := by simp; omega
    have d3 : decide (c < 0) = false := by simp; omega
    have d4 : decide ((10000 : Int) < c) = false := by simp; omega
    clear h1 h2 h3 h4
    go_enter Try.func46, Try.ntmps46
    go_wp2
    have := HR.out _ HB.out
    simpa [d1, d2, d3, d4] using this
  · rw [show scnOk ⟨a, b, c⟩ = false by cases hh : scnOk ⟨a, b, c⟩ with | false => rfl | true => exact absurd (scnOk_iff.1 hh) h] at hR
    have HR := hide hR
    clear hR
    by_cases h1 : a < 0
    · clear h
      go_enter Try.func46, Try.ntmps46
      go_wp2
      exact HR.out _ HB.out
    by_cases h2 : b < 0
    · clear h
      go_enter Try.func46, Try.ntmps46
      go_wp2
      exact HR.out _ HB.out
    by_cases h3 : c < 0
    · clear h
      go_enter Try.func46, Try.ntmps46
      go_wp2
      exact HR.out _ HB.out
    have h4 : 10000 < c := by omega
    clear h
    go_enter Try.func46, Try.ntmps46
    go_wp2
    exact HR.out _ HB.out
/-- IndexFunc finds a bad scanner exactly if there is one. -/
theorem idxScn_c (p : Option Addr) (c : Nat) (l : List Scn) (w : World) (R) (hl : l.length ≤ 1000) (h : ScnsAt w p l) (hR : ∀ r w', Below w.heap.size w w' → (0 ≤ r ↔ l.all scnOk = false) → R (.returned (.int .i64 r)) w') : Calls Try.prog 70 #[.slice p l.length c, .func (.func 46) #[] #[]] w R := by
  have HR := hide hR; have H := hide h
  clear hR h
  go_enter Try.func70, Try.ntmps70
  go_wp2
  go_loopw [8] (fun si wr => ∃ k : Nat, k ≤ l.length ∧ si = .int .i64 k ∧ Hid ((l.take k).all scnOk = true) ∧ Hid (Below w.heap.size w wr)) (fun si _ => l.length - (intOf si).toNat)
  case atStart => exact ⟨0, Nat.zero_le _, rfl, hide (by simp), hide (Below.refl _ _)⟩
  case round =>
    obtain ⟨k, hk, rfl, HA, HB⟩ := hrel
    by_cases hlt : k < l.length
    · obtain ⟨b, o, x, rfl, hx, x0, x1, x2⟩ := (H.out.keep (Keeps.of_below HB.out)).scn hlt
      have Hx := hide hx
      clear hx
      cases hok : scnOk x with
      | true =>
        have HA2 := hide (show (l.take (k + 1)).all scnOk = true by rw [all_take_succ _ _ _ _ Hx.out, HA.out, hok]; rfl)
        have Hok := hide hok
        clear hok
        go_wp2_with (go_at_call 46; refine Stop.out ?_)
        refine Stop.go (bad1_c x _ _ ?_)
        intro w2 hb
        rw [Hok.out]
        have HB2 := hide (bseq HB.out hb)
        clear hb
        go_wp2
        go_roundw
        case rel => exact ⟨k + 1, by omega, by go_num, HA2, HB2⟩
        case measure => simp [intOf]; omega
      | false =>
        have HF := hide (all_false_of _ _ _ _ Hx.out hok)
        have Hok := hide hok
        clear hok
        go_wp2_with (go_at_call 46; refine Stop.out ?_)
        refine Stop.go (bad1_c x _ _ ?_)
        intro w2 hb
        rw [Hok.out]
        have HB2 := hide (bseq HB.out hb)
        clear hb
        go_wp2
        exact HR.out _ _ HB2.out ⟨fun _ => HF.out, fun _ => by omega⟩
    · obtain rfl : k = l.length := by omega
      have HT := hide (show l.all scnOk = true by have := HA.out; rwa [List.take_length] at this)
      go_wp2
      exact HR.out _ _ HB.out ⟨fun h => absurd h (by omega), fun h => by rw [HT.out] at h; cases h⟩
theorem scanners_c (p : Option Addr) (c : Nat) (l : List Scn) (w : World) (R) (hl : l.length ≤ 1000) (h : ScnsAt w p l) (hR : ∀ w', Below w.heap.size w w' → R (.returned (.bool (scnsB l))) w') : Calls Try.prog 25 #[.slice p l.length c] w R := by
  by_cases h24 : l.length ≤ 24
  rotate_left
  · rw [show scnsB l = false by unfold scnsB; rw [decide_eq_false h24]; rfl] at hR
    have HR := hide hR
    have h24' : (24 : Int) < (l.length : Int) := by omega
    clear hR h24
    go_enter Try.func25, Try.ntmps25
    go_wp2
    exact HR.out _ (Below.refl _ _)
  have h24' : ¬ (24 : Int) < (l.length : Int) := by omega
  have H := hide h
  have hR2 : ∀ w', Below w.heap.size w w' → R (.returned (.bool (l.all scnOk))) w' := fun w' hb => by
    have := hR w' hb
    rwa [show scnsB l = l.all scnOk by unfold scnsB; rw [decide_eq_true h24]; rfl] at this
  have HR := hide hR2
  clear hR hR2 h
  go_enter Try.func25, Try.ntmps25
  go_wp2_with (go_at_call 45; refine Stop.out ?_)
  refine Stop.go ?_
  go_enter Try.func45, Try.ntmps45
  go_wp2_with (go_at_call 70; refine Stop.out ?_)
  refine Stop.go (idxScn_c p c l _ _ hl H.out ?_)
  intro r w2 hb hr
  have HB := hide hb
  have Hr := hide hr
  clear hb hr
  cases ha : l.all scnOk with
  | true =>
    have h1 : ¬ 0 ≤ r := fun h => by have := Hr.out.1 h; rw [ha] at this; cases this
    have d1 : decide (0 ≤ r) = false := by simpa using h1
    have HR1 := hide (HR.out w2 HB.out)
    rw [ha] at HR1
    clear ha
    go_wp2
    exact HR1.out
  | false =>
    have h1 : 0 ≤ r := Hr.out.2 ha
    have HR1 := hide (HR.out w2 HB.out)
    rw [ha] at HR1
    clear ha
    go_wp2
    exact HR1.out
end Go.Proofs.Ytihdpkeclmpehaa

namespace Go.Proofs.Ytihdpkeclmpehaa
open Go.RowKit

def TrkFew (t : Trk) : Prop := t.stops.length ≤ 20 ∧ t.since.length ≤ 10 ∧ t.label.length ≤ 10 ∧ t.seals.length ≤ 20
theorem take_all {α : Type} {P : α → Prop} {l : List α} {i : Nat} {x : α} (h : ∀ y ∈ l.take i, P y) (hx : l[i]? = some x) (hp : P x) : ∀ y ∈ l.take (i + 1), P y := by
  intro y hy
  rw [List.take_add_one, hx] at hy
  rcases List.mem_append.1 hy with hy | hy
  · exact h y hy
  · simp at hy; subst hy; exact hp
theorem trk_at {w : World} {p : Option Addr} {l : List Trk} (h : TrksAt w p l) {i : Nat} (hi : i < l.length) : ∃ b o t, p = some ⟨b, o, none⟩ ∧ l[i]? = some t ∧ TrkAt w t ∧ 
    w.cell? ⟨b, o + i * 10 + 5, none⟩ = some (.slice t.sp t.stops.length t.sc) ∧ w.cell? ⟨b, o + i * 10 + 7, none⟩ = some (.slice t.np t.since.length t.nc) ∧ w.cell? ⟨b, o + i * 10 + 8, none⟩ = some (.slice t.lp t.label.length t.lc) ∧ w.cell? ⟨b, o + i * 10 + 9, none⟩ = some (.slice t.ep t.seals.length t.ec) := by
  obtain ⟨b, o, x, hp, hx, hc⟩ := h.1.at_ hi
  exact ⟨b, o, x, hp, hx, h.2 x (List.mem_of_getElem? hx), hc 5 _ rfl, hc 7 _ rfl, hc 8 _ rfl, hc 9 _ rfl⟩
set_option maxHeartbeats 1000000 in
theorem few_c (sp p q : Option Addr) (n cap m cap2 k cap3 : Nat) (ts : List Trk) (w : World) (R) (hn : n ≤ maxLen) (hm : m ≤ maxLen) (hk : k ≤ maxLen) (hl : ts.length = m) (h : TrksAt w p ts)
    (hR : ∀ b, (b = true → n ≤ 30 ∧ m ≤ 8 ∧ k ≤ 20 ∧ ∀ t ∈ ts, TrkFew t) → R (.returned (.bool b)) w) : Calls Try.prog 22 #[.slice sp n cap, .slice p m cap2, .slice q k cap3] w R := by
  have HR := hide hR; have H := hide h; have HL := hide hl
  clear hR h hl
  unfold maxLen at hn hm hk
  go_enter Try.func22, Try.ntmps22
  go_wp2
  go_loopw [7] (fun si wr => ∃ i : Nat, i ≤ m ∧ si = .int .i64 i ∧ Hid (∀ t ∈ ts.take i, TrkFew t) ∧ wr = w) (fun si _ => m - (intOf si).toNat)
  case atStart => exact ⟨0, Nat.zero_le _, rfl, hide (by simp), rfl⟩
  case round =>
    obtain ⟨i, hi, rfl, HA, rfl⟩ := hrel
    by_cases hlt : i < m
    · obtain ⟨b, o, t, rfl, hx, ht, x5, x7, x8, x9⟩ := trk_at H.out (i := i) (by rw [HL.out]; exact hlt)
      have Hx := hide hx
      clear hx ht
      obtain ⟨a1, ha1⟩ : ∃ a, t.stops.length = a := ⟨_, rfl⟩
      obtain ⟨a2, ha2⟩ : ∃ a, t.since.length = a := ⟨_, rfl⟩
      obtain ⟨a3, ha3⟩ : ∃ a, t.label.length = a := ⟨_, rfl⟩
      obtain ⟨a4, ha4⟩ : ∃ a, t.seals.length = a := ⟨_, rfl⟩
      have HF := hide (show ∀ hfew : a1 ≤ 20 ∧ a2 ≤ 10 ∧ a3 ≤ 10 ∧ a4 ≤ 20, ∀ t ∈ ts.take (i + 1), TrkFew t from fun hf => take_all HA.out Hx.out ⟨by omega, by omega, by omega, by omega⟩)
      rw [ha1] at x5; rw [ha2] at x7; rw [ha3] at x8; rw [ha4] at x9
      clear ha1 ha2 ha3 ha4
      by_cases h1 : a1 ≤ 20
      rotate_left
      · go_wp2
        exact HR.out _ (by simp)
      by_cases h2 : a2 ≤ 10
      rotate_left
      · go_wp2
        exact HR.out _ (by simp)
      by_cases h3 : a3 ≤ 10
      rotate_left
      · go_wp2
        exact HR.out _ (by simp)
      by_cases h4 : a4 ≤ 20
      rotate_left
      · go_wp2
        exact HR.out _ (by simp)
      have HF2 := hide (HF.out ⟨h1, h2, h3, h4⟩)
      go_wp2
      go_roundw
      case rel => exact ⟨i + 1, by omega, by go_num, HF2, trivial⟩
      case measure => simp [intOf]; omega
    · obtain rfl : i = m := by omega
      have HT := hide (show ∀ t ∈ ts, TrkFew t by have := HA.out; rwa [List.take_of_length_le (by rw [HL.out]; exact Nat.le_refl _)] at this)
      by_cases h1 : n ≤ 30
      rotate_left
      · go_wp2
        exact HR.out _ (by simp)
      by_cases h2 : i ≤ 8
      rotate_left
      · go_wp2
        exact HR.out _ (by simp)
      go_wp2
      exact HR.out _ (fun hb => ⟨by omega, by omega, by have := of_decide_eq_true hb; omega, HT.out⟩)
set_option maxHeartbeats 1000000 in
theorem between_c (x lo hi : Int) (w : World) (R) (hR : R (.returned (.bool (decide (lo ≤ x) && decide (x ≤ hi)))) w) : Calls Try.prog 43 #[.int .i64 x, .int .i64 lo, .int .i64 hi] w R := by
  have HR := hide hR
  clear hR
  by_cases h1 : lo ≤ x
  · have h1' : x ≥ lo := h1
    go_enter Try.func43, Try.ntmps43
    go_wp2
    have := HR.out
    simp only [decide_eq_true h1, Bool.true_and] at this
    exact this
  · have h1' : ¬ x ≥ lo := h1
    go_enter Try.func43, Try.ntmps43
    go_wp2
    have := HR.out
    simp only [decide_eq_false (show ¬ lo ≤ x by omega), Bool.false_and] at this
    exact this
set_option maxHeartbeats 1000000 in
theorem refScn_c (sp : Option Addr) (n cap : Nat) (sl : List Scn) (w : World) (R) (hn : n ≤ maxLen) (hl : sl.length = n) (h : ScnsAt w sp sl)
    (hR : ∀ b, (b = true → ScnsOk sl) → R (.returned (.bool b)) w) : Calls Try.prog 23 #[.slice sp n cap] w R := by
  have HR := hide hR; have H := hide h; have HL := hide hl
  clear hR h hl
  unfold maxLen at hn
  go_enter Try.func23, Try.ntmps23
  go_wp2
  go_loopw [3] (fun si wr => ∃ i : Nat, i ≤ n ∧ si = .int .i64 i ∧ Hid (∀ t ∈ sl.take i, scnOk t = true) ∧ wr = w) (fun si _ => n - (intOf si).toNat)
  case atStart => exact ⟨0, Nat.zero_le _, rfl, hide (by simp), rfl⟩
  case round =>
    obtain ⟨i, hi, rfl, HA, rfl⟩ := hrel
    by_cases hlt : i < n
    · obtain ⟨b, o, x, rfl, hx, x0, x1, x2⟩ := H.out.scn (i := i) (by rw [HL.out]; exact hlt)
      have Hx := hide hx
      clear hx
      by_cases h1 : x.operator < 0
      · go_wp2
        exact HR.out _ (by simp)
      by_cases h2 : x.office < 0
      · go_wp2
        exact HR.out _ (by simp)
      by_cases h3 : 0 ≤ x.error ∧ x.error ≤ 10000
      · have HA2 := hide (take_all HA.out Hx.out (scnOk_iff.2 ⟨by omega, by omega, h3.1, h3.2⟩))
        have e1 : (decide (0 ≤ x.error) && decide (x.error ≤ 10000)) = true := by simp [h3]
        go_wp2_with (go_at_call 43; refine Stop.out ?_)
        refine Stop.go (between_c _ _ _ _ _ ?_)
        rw [e1]
        go_wp2
        go_roundw
        case rel => exact ⟨i + 1, by omega, by go_num, HA2, trivial⟩
        case measure => simp [intOf]; omega
      · have e1 : (decide (0 ≤ x.error) && decide (x.error ≤ 10000)) = false := by
          simp only [Bool.and_eq_false_iff, decide_eq_false_iff_not]; omega
        go_wp2_with (go_at_call 43; refine Stop.out ?_)
        refine Stop.go (between_c _ _ _ _ _ ?_)
        rw [e1]
        go_wp2
        exact HR.out _ (by simp)
    · obtain rfl : i = n := by omega
      have HT := hide (show ∀ t ∈ sl, scnOk t = true by have := HA.out; rwa [List.take_of_length_le (by rw [HL.out]; exact Nat.le_refl _)] at this)
      go_wp2
      exact HR.out _ (fun hb => ⟨by rw [HL.out]; have := of_decide_eq_true hb; omega, HT.out⟩)
end Go.Proofs.Ytihdpkeclmpehaa

namespace Go.Proofs.Ytihdpkeclmpehaa
open Go.RowKit

theorem isNaN_c (x : Int) (w : World) (R) (hR : R (.returned (.bool false)) w) : Calls Try.prog 73 #[.int .i64 x] w R := by
  have HR := hide hR
  clear hR
  have h : (x != x) = false := by simp
  go_enter Try.func73, Try.ntmps73
  go_wp2
  exact HR.out
theorem less_c (x y : Int) (v : Bool) (w : World) (R) (hv : decide (x < y) = v) (hR : R (.returned (.bool v)) w) : Calls Try.prog 78 #[.int .i64 x, .int .i64 y] w R := by
  have HR := hide hR
  clear hR
  go_enter Try.func78, Try.ntmps78
  go_wp2_with (go_at_call 73; refine Stop.out ?_)
  refine Stop.go (isNaN_c x _ _ ?_)
  cases v with
  | true =>
    have h : x < y := of_decide_eq_true hv
    go_wp2
    exact HR.out
  | false =>
    have h : ¬ x < y := of_decide_eq_false hv
    go_wp2
    exact HR.out
/-- From an index on, no element is less than the one before it. -/
def adjP (l : List Int) (j : Nat) : Prop := ∀ (m : Nat) (x y : Int), j ≤ m → l[m]? = some x → l[m + 1]? = some y → x ≤ y
theorem quiet_dr2 {P : Program} {f : FuncId} {args : Array Value} {w : World} {a n : Nat} {v : Value} (h : Calls P f args (w.drewN (a + n)) fun e w' => e = .returned v ∧ w' = w.drewN (a + n)) :
    Calls P f args (w.drewN (a + n)) fun e w'' => e = .returned v ∧ ∃ m, w'' = w.drewN (a + m) :=
  h.mono fun _ _ ⟨he, hm⟩ => ⟨he, n, hm⟩
set_option maxHeartbeats 1000000 in
theorem sorted_c (p : Option Addr) (c : Nat) (l : List Int) (w : World) (R) (hl : l.length ≤ 1000000) (h : IntsAt .i64 w p l) (hR : ∀ v w', Dr w w' → (v = true ↔ adjP l 0) → R (.returned (.bool v)) w') : Calls Try.prog 71 #[.slice p l.length c] w R := by
  have HR := hide hR; have H := hide h
  clear hR h
  go_enter Try.func71, Try.ntmps71
  go_wp2
  go_loopw [3] (fun si wr => ∃ j nd : Nat, j ≤ l.length ∧ si = .int .i64 ((j : Int) - 1) ∧ Hid (adjP l (j - 1)) ∧ wr = w.drewN nd) (fun si _ => (intOf si + 1).toNat)
  case atStart => exact ⟨l.length, 0, Nat.le_refl _, rfl, hide (fun m x y hm hx hy => by have := (List.getElem?_eq_some_iff.1 hy).1; omega), rfl⟩
  case round =>
    obtain ⟨j, nd, hj, hsi, HA, rfl⟩ := hrel
    by_cases h2 : 2 ≤ j
    · obtain ⟨i, rfl⟩ : ∃ i, j = i + 2 := ⟨j - 2, by omega⟩
      obtain rfl : u3 = .int .i64 ((i + 1 : Nat) : Int) := by rw [hsi]; congr 1; omega
      clear hsi
      obtain ⟨q, hq⟩ : ∃ q, i + 1 = q := ⟨_, rfl⟩
      obtain ⟨b, o, x, rfl, hx, cx⟩ := H.out.at_ (i := q) (by omega)
      obtain ⟨_, _, y, hp, hy, cy⟩ := H.out.at_ (i := i) (by omega)
      injection hp with hp; injection hp with e1 e2
      subst e1; subst e2
      rw [hq]
      have wz : IntKind.i64.wrap ((q : Int) - 1) = (i : Int) := by rw [IntWalk.i64_in _ (by omega)]; omega
      have hqi : (q : Int) < (l.length : Int) := by omega
      have hii : (i : Int) < (l.length : Int) := by omega
      have hq0 : (0 : Int) < (q : Int) := by omega
      have Hx := hide hx; have Hy := hide hy; have Hq := hide hq
      clear hx hy hq
      by_cases t : x < y
      · have HF := hide (HR.out false)
        have hno : ¬ adjP l 0 := fun h => by
          have := h i y x (Nat.zero_le _) Hy.out (by rw [Hq.out]; exact Hx.out)
          omega
        have Hno := hide hno
        clear hno
        go_wp2
        go_quiet ((go_at_call 78; exact quiet_dr2 (less_c x y true _ _ (by simpa using t) ⟨rfl, rfl⟩)))
        go_wp2
        exact HF.out _ (by first | exact Dr.one _ _ | exact Dr.two _ _ _) ⟨(fun h => by cases h), fun h => absurd h Hno.out⟩
      · have HA2 := hide (show adjP l (i + 1 - 1) from fun m x' y' hm hx' hy' => by
          rcases Nat.lt_or_ge i m with h' | h'
          · exact HA.out m x' y' (by omega) hx' hy'
          · obtain rfl : m = i := by omega
            have h1 := Hy.out; have h2 := Hx.out
            rw [← Hq.out] at h2
            rw [hx'] at h1; rw [hy'] at h2
            injection h1 with h1; injection h2 with h2
            omega)
        go_wp2
        go_quiet ((go_at_call 78; exact quiet_dr2 (less_c x y false _ _ (by simpa using t) ⟨rfl, rfl⟩)))
        go_wp2
        go_roundw
        case rel => exact ⟨i + 1, _, by omega, by congr 1; have := Hq.out; omega, HA2, by first | rfl | exact World.drewN_drewN ..⟩
        case measure => have := Hq.out; simp [intOf]; omega
    · have HT := hide (show adjP l 0 by
        have := HA.out
        rwa [show j - 1 = 0 by omega] at this)
      rcases (by omega : j = 0 ∨ j = 1) with rfl | rfl
      · obtain rfl : u3 = .int .i64 (-1) := by rw [hsi]; rfl
        clear hsi
        go_wp2
        exact HR.out _ _ (Dr.one _ _) ⟨fun _ => HT.out, fun _ => rfl⟩
      · obtain rfl : u3 = .int .i64 0 := by rw [hsi]; rfl
        clear hsi
        go_wp2
        exact HR.out _ _ (Dr.one _ _) ⟨fun _ => HT.out, fun _ => rfl⟩
end Go.Proofs.Ytihdpkeclmpehaa

namespace Go.Proofs.Ytihdpkeclmpehaa
open Go.RowKit

/-- The boxes of a label's search: the track and the time. -/
structure LB (t : Trk) (time : Int) (g : Nat) (w : World) : Prop where
  since : w.cell? ⟨g, 7, none⟩ = some (.slice t.np t.since.length t.nc)
  time : w.cell? ⟨g + 1, 0, none⟩ = some (.int .i64 time)
  ints : IntsAt .i64 w t.np t.since
theorem LB.next {t : Trk} {time : Int} {g : Nat} {w w' : World} (h : LB t time g w) (hb : Below w.heap.size w w') : LB t time g w' := ⟨cell_later hb h.since, cell_later hb h.time, h.ints.keep (Keeps.of_below hb)⟩
set_option maxHeartbeats 1000000 in
theorem later_c (t : Trk) (time : Int) (g i : Nat) (x : Int) (v : Bool) (w : World) (R) (h : LB t time g w) (hl : t.since.length ≤ 1000000) (hx : t.since[i]? = some x) (hv : decide (time < x) = v) (hR : ∀ w', Dr w w' → R (.returned (.bool v)) w') :
    Calls Try.prog 75 #[.int .i64 (i : Int), .pointer (some ⟨g, 0, none⟩), .pointer (some ⟨g + 1, 0, none⟩)] w R := by
  have hil := (List.getElem?_eq_some_iff.1 hx).1
  obtain ⟨b, o, y, hp, hy, cy⟩ := h.ints.at_ hil
  have e : y = x := by rw [hx] at hy; injection hy with hy; exact hy.symm
  subst e
  have c1 := h.since; have c2 := h.time
  rw [hp] at c1
  have hii : (i : Int) < (t.since.length : Int) := by omega
  have HR := hide hR
  obtain ⟨g2, hg2⟩ : ∃ g2, g + 1 = g2 := ⟨_, rfl⟩
  rw [hg2] at c2 ⊢
  clear hR h hx hy hp hg2
  cases v with
  | true =>
    have d : decide (time < y) = true := hv
    go_enter Try.func75, Try.ntmps75
    go_wp2
    go_quiet (fail)
    go_wp2
    exact HR.out _ (Dr.one _ _)
  | false =>
    have d : decide (time < y) = false := hv
    go_enter Try.func75, Try.ntmps75
    go_wp2
    go_quiet (fail)
    go_wp2
    exact HR.out _ (Dr.one _ _)
end Go.Proofs.Ytihdpkeclmpehaa

namespace Go.Proofs.Ytihdpkeclmpehaa
open Go.RowKit

/-- What the search hands back: the first place that is later than the time, where the times ascend. -/
structure Cut (l : List Int) (time : Int) (i j : Nat) : Prop where
  le : i ≤ j
  top : j ≤ l.length
  low : i = 0 ∨ ∃ x, l[i - 1]? = some x ∧ ¬ time < x
  high : j = l.length ∨ ∃ x, l[j]? = some x ∧ time < x
set_option maxHeartbeats 1000000 in
theorem search_c (t : Trk) (time : Int) (g : Nat) (w : World) (R) (h : LB t time g w) (hl : t.since.length ≤ 1000000)
    (hR : ∀ r w', Below w.heap.size w w' → Cut t.since time r r → R (.returned (.int .i64 (r : Int))) w') :
    Calls Try.prog 74 #[.int .i64 (t.since.length : Int), .func (.func 75) #[] #[.pointer (some ⟨g, 0, none⟩), .pointer (some ⟨g + 1, 0, none⟩)]] w R := by
  have HR := hide hR; have H := hide h
  clear hR h
  go_enter Try.func74, Try.ntmps74
  go_wp2
  go_loopw [5, 6] (fun s5 s6 wr => ∃ i j : Nat, s5 = .int .i64 i ∧ s6 = .int .i64 j ∧ Hid (Cut t.since time i j) ∧ Hid (Below w.heap.size w wr)) (fun s5 s6 _ => (intOf s6).toNat - (intOf s5).toNat)
  case atStart => exact ⟨0, t.since.length, rfl, rfl, hide ⟨Nat.zero_le _, Nat.le_refl _, .inl rfl, .inl rfl⟩, hide (Below.refl _ _)⟩
  case round =>
    obtain ⟨i, j, rfl, rfl, HC, HB⟩ := hrel
    by_cases hlt : i < j
    · have hjt := HC.out.top
      have em : ((i : Int) + (j : Int)) / 2 = (((i + j) / 2 : Nat) : Int) := by omega
      obtain ⟨m, hm⟩ : ∃ m, (i + j) / 2 = m := ⟨_, rfl⟩
      rw [hm] at em
      have m1 : i ≤ m := by omega
      have m2 : m < j := by omega
      obtain ⟨x, hx⟩ : ∃ x, t.since[m]? = some x := ⟨_, List.getElem?_eq_getElem (by omega)⟩
      have Hx := hide hx
      clear hx
      cases hv : decide (time < x) with
      | true =>
        have HC2 := hide (show Cut t.since time i m from ⟨m1, by omega, HC.out.low, .inr ⟨x, Hx.out, of_decide_eq_true hv⟩⟩)
        have Hv := hide hv
        clear hv
        go_wp2_with (go_at_call 75; rw [em]; refine Stop.out ?_)
        refine Stop.go (later_c t time g m x true _ _ (H.out.next HB.out) hl Hx.out Hv.out ?_)
        intro w2 hd
        have HB2 := hide (bseq HB.out hd.below)
        clear hd
        go_wp2
        go_roundw
        case rel => exact ⟨i, m, rfl, rfl, HC2, HB2⟩
        case measure => simp [intOf]; omega
      | false =>
        have HC2 := hide (show Cut t.since time (m + 1) j from ⟨m2, HC.out.top, .inr ⟨x, Hx.out, of_decide_eq_false hv⟩, HC.out.high⟩)
        have Hv := hide hv
        clear hv
        go_wp2_with (go_at_call 75; rw [em]; refine Stop.out ?_)
        refine Stop.go (later_c t time g m x false _ _ (H.out.next HB.out) hl Hx.out Hv.out ?_)
        intro w2 hd
        have HB2 := hide (bseq HB.out hd.below)
        clear hd
        go_wp2
        go_roundw
        case rel => exact ⟨m + 1, j, by go_num, rfl, HC2, HB2⟩
        case measure => simp [intOf]; omega
    · obtain rfl : i = j := by have := HC.out.le; omega
      go_wp2
      exact HR.out _ _ HB.out HC.out
end Go.Proofs.Ytihdpkeclmpehaa

namespace Go.Proofs.Ytihdpkeclmpehaa
open Go.RowKit

def Trk.val (t : Trk) : Value := .agg t.cells.toArray
set_option maxHeartbeats 1000000 in
theorem labelIndex_c (t : Trk) (time : Int) (w : World) (R) (h : TrkAt w t)
    (hR : ∀ (r : Nat) w', Below w.heap.size w w' → Cut t.since time r r → R (.returned (.int .i64 ((r : Int) - 1))) w') (hl : t.since.length ≤ 1000000) :
    Calls Try.prog 57 #[t.val, .int .i64 time] w R := by
  have HR := hide hR
  have HI := hide h.since
  obtain ⟨w2, hw2⟩ : ∃ w2, (w.alloc (.cells t.cells.toArray 40)).alloc (.cells #[.int .i64 time] 3) = w2 := ⟨_, rfl⟩
  have HB := hide (show Below w.heap.size w w2 from hw2 ▸ balloc (balloc (Below.refl _ _) _) _)
  have HL := hide (show LB t time w.heap.size w2 from by
    refine ⟨?_, ?_, h.since.keep (Keeps.of_below HB.out)⟩
    · rw [← hw2]
      exact cell_later (balloc (Below.refl _ _) _) (show (w.alloc (.cells t.cells.toArray 40)).cell? _ = _ from cell_new.trans rfl)
    · rw [← hw2]
      simp)
  have c1 := HL.out.since
  clear hR h
  unfold Trk.val Trk.cells
  unfold Trk.cells at hw2
  go_enter Try.func57, Try.ntmps57
  go_wp2_with (go_at_call 74; refine Stop.out ?_)
  refine Stop.go (search_c t time _ _ _ HL.out hl ?_)
  intro r w3 hb hc
  have HB3 := hide (bseq HB.out hb)
  have HC := hide hc
  clear hb hc
  have htop := HC.out.top
  have h0 : (0 : Int) ≤ (r : Int) := by omega
  go_wp2
  exact HR.out _ _ HB3.out HC.out
end Go.Proofs.Ytihdpkeclmpehaa

namespace Go.Proofs.Ytihdpkeclmpehaa

theorem AscI.le {l : List Int} (h : AscI l) {i j : Nat} {x y : Int} (hij : i ≤ j) (hx : l[i]? = some x) (hy : l[j]? = some y) : x ≤ y := by
  obtain ⟨d, rfl⟩ : ∃ d, j = i + d := ⟨j - i, by omega⟩
  clear hij
  induction d generalizing y with
  | zero => rw [Nat.add_zero, hx] at hy; injection hy with hy; omega
  | succ d ih =>
    have hlt := (List.getElem?_eq_some_iff.1 hy).1
    have hz : l[i + d]? = some l[i + d] := List.getElem?_eq_getElem (by omega)
    have h1 := ih hz
    have h2 := h _ _ _ hz (by rw [show i + d + 1 = i + (d + 1) by omega]; exact hy)
    omega
theorem takeWhile_at {α : Type} (p : α → Bool) : ∀ (l : List α), (∀ i x, i < (l.takeWhile p).length → l[i]? = some x → p x = true) ∧ (∀ x, l[(l.takeWhile p).length]? = some x → p x = false) ∧ (l.takeWhile p).length ≤ l.length
  | [] => ⟨by simp, by simp, by simp⟩
  | y :: l => by
    obtain ⟨h1, h2, h3⟩ := takeWhile_at p l
    by_cases hy : p y = true
    · rw [List.takeWhile_cons, if_pos hy]
      refine ⟨fun i x hi hx => ?_, fun x hx => ?_, by simp only [List.length_cons]; omega⟩
      · cases i with
        | zero => simp at hx; subst hx; exact hy
        | succ i => exact h1 i x (by simp only [List.length_cons] at hi; omega) (by simpa using hx)
      · exact h2 x (by simpa using hx)
    · rw [List.takeWhile_cons, if_neg hy]
      refine ⟨fun i x hi hx => by simp at hi, fun x hx => ?_, by simp⟩
      simp at hx; subst hx; simpa using hy
theorem cutN_le (l : List Int) (t : Int) : cutN l t ≤ l.length := (takeWhile_at _ l).2.2
theorem cutN_low {l : List Int} {t : Int} {i : Nat} {x : Int} (hi : i < cutN l t) (hx : l[i]? = some x) : x ≤ t := by
  have := (takeWhile_at (fun x : Int => decide (x ≤ t)) l).1 i x hi hx; simpa using this
theorem cutN_high {l : List Int} {t : Int} {x : Int} (hx : l[cutN l t]? = some x) : t < x := by
  have := (takeWhile_at (fun x : Int => decide (x ≤ t)) l).2.1 x hx; simpa using this
theorem cut_unique {l : List Int} {t : Int} {r : Nat} (h : AscI l) (hr : r ≤ l.length) (hl : r = 0 ∨ ∃ x, l[r - 1]? = some x ∧ ¬ t < x) (hh : r = l.length ∨ ∃ x, l[r]? = some x ∧ t < x) : cutN l t = r := by
  have hc := cutN_le l t
  rcases Nat.lt_trichotomy (cutN l t) r with hlt | he | hgt
  · rcases hl with h0 | ⟨x, hx, hn⟩
    · omega
    · have hz : l[cutN l t]? = some l[cutN l t] := List.getElem?_eq_getElem (by omega)
      have h1 := cutN_high hz
      have h2 := h.le (show cutN l t ≤ r - 1 by omega) hz hx
      omega
  · exact he
  · rcases hh with h0 | ⟨x, hx, hn⟩
    · omega
    · have := cutN_low hgt hx
      omega
theorem cutN_mono {l : List Int} {t t' : Int} (h : t ≤ t') : cutN l t ≤ cutN l t' := by
  have hc := cutN_le l t
  rcases Nat.lt_or_ge (cutN l t') (cutN l t) with hlt | hge
  · have hz : l[cutN l t']? = some l[cutN l t'] := List.getElem?_eq_getElem (by omega)
    have h1 := cutN_high hz
    have h2 := cutN_low hlt hz
    omega
  · exact hge
/-- A minute at which a track has a label, between two minutes. -/
theorem near_iff {t : Tk} (h : AscI t.since) (hn : t.since.length = t.label.length) {lo hi : Int} (hle : lo ≤ hi) (s : ByteArray) :
    (∃ m, lo ≤ m ∧ m ≤ hi ∧ labelP t m = s) ↔ labelP t lo = s ∨ ∃ (i : Nat) (x : Int), cutN t.since lo ≤ i ∧ t.since[i]? = some x ∧ x ≤ hi ∧ (∀ y, t.since[i + 1]? = some y → y ≠ x) ∧ t.label[i]? = some s := by
  constructor
  · rintro ⟨m, h1, h2, h3⟩
    rcases Nat.eq_or_lt_of_le (cutN_mono (l := t.since) h1) with he | hlt
    · left
      rw [← h3]; unfold labelP; rw [he]
    · right
      obtain ⟨i, hi'⟩ : ∃ i, cutN t.since m = i + 1 := ⟨cutN t.since m - 1, by omega⟩
      have hcl := cutN_le t.since m
      have hx : t.since[i]? = some t.since[i] := List.getElem?_eq_getElem (by omega)
      have hx2 := cutN_low (l := t.since) (t := m) (i := i) (by omega) hx
      have hb : t.label[i]? = some t.label[i] := List.getElem?_eq_getElem (by omega)
      refine ⟨i, _, by omega, hx, by omega, fun y hy e => ?_, ?_⟩
      · have := cutN_high (l := t.since) (t := m) (x := y) (by rw [hi']; exact hy)
        omega
      · unfold labelP at h3
        rw [hi'] at h3
        simp only [hb, Option.getD_some] at h3
        rw [hb, h3]
  · rintro (h1 | ⟨i, x, h1, h2, h3, h4, h5⟩)
    · exact ⟨lo, by omega, hle, h1⟩
    · have hil := (List.getElem?_eq_some_iff.1 h2).1
      have hlo : lo < x := by
        have hz : t.since[cutN t.since lo]? = some t.since[cutN t.since lo] := List.getElem?_eq_getElem (by omega)
        have := cutN_high hz
        have := h.le h1 hz h2
        omega
      have hc : cutN t.since x = i + 1 := by
        refine cut_unique h (by omega) (.inr ⟨x, by simpa using h2, by omega⟩) ?_
        rcases Nat.lt_or_ge (i + 1) t.since.length with hlt | hge
        · right
          have hz : t.since[i + 1]? = some t.since[i + 1] := List.getElem?_eq_getElem hlt
          have := h4 _ hz
          have := h.le (show i ≤ i + 1 by omega) h2 hz
          exact ⟨_, hz, by omega⟩
        · left; omega
      refine ⟨x, by omega, h3, ?_⟩
      unfold labelP
      rw [hc]
      simp only [h5, Option.getD_some]
theorem labelP_of {t : Tk} {time : Int} {r : Nat} (h : AscI t.since) (hr : r ≤ t.since.length) (hl : r = 0 ∨ ∃ x, t.since[r - 1]? = some x ∧ ¬ time < x) (hh : r = t.since.length ∨ ∃ x, t.since[r]? = some x ∧ time < x) :
    labelP t time = if r = 0 then ⟨#[]⟩ else (t.label[r - 1]?).getD ⟨#[]⟩ := by
  unfold labelP
  rw [cut_unique h hr hl hh]
  cases r <;> simp
end Go.Proofs.Ytihdpkeclmpehaa

namespace Go.Proofs.Ytihdpkeclmpehaa
open Go.RowKit

theorem Cut.label {t : Trk} {time : Int} {r : Nat} (h : Cut t.since time r r) (ha : AscI t.since) : labelP t.tk time = if r = 0 then ⟨#[]⟩ else (t.label[r - 1]?).getD ⟨#[]⟩ :=
  labelP_of (t := t.tk) ha h.top h.low h.high
theorem Cut.cut {t : Trk} {time : Int} {r : Nat} (h : Cut t.since time r r) (ha : AscI t.since) : cutN t.since time = r := cut_unique ha h.top h.low h.high
set_option maxHeartbeats 1000000 in
theorem labelAt_c (t : Trk) (time : Int) (w : World) (R) (h : TrkAt w t) (ha : AscI t.since) (hn : t.since.length = t.label.length) (hl : t.since.length ≤ 1000000)
    (hR : ∀ w', Below w.heap.size w w' → R (.returned (.string (labelP t.tk time))) w') : Calls Try.prog 53 #[t.val, .int .i64 time] w R := by
  have HR := hide hR
  have H := hide h; have HA := hide ha; have HN := hide hn
  obtain ⟨w1, hw1⟩ : ∃ w1, w.alloc (.cells t.cells.toArray 40) = w1 := ⟨_, rfl⟩
  have HB1 := hide (show Below w.heap.size w w1 from hw1 ▸ balloc (Below.refl _ _) _)
  have c8 : w1.cell? ⟨w.heap.size, 8, none⟩ = some (.slice t.lp t.label.length t.lc) := by rw [← hw1]; exact cell_new.trans rfl
  clear hR h ha hn
  have hv : Hid (Trk.val t = .agg #[.string t.label0, .int .i64 t.from0, .int .i64 t.to0, .int .i64 t.class0, .int .i64 t.accept, .slice t.sp t.stops.length t.sc, .bool t.lost, .slice t.np t.since.length t.nc, .slice t.lp t.label.length t.lc, .slice t.ep t.seals.length t.ec]) := hide rfl
  rw [hv.out]
  unfold Trk.cells at hw1
  have HW := hide hw1
  clear hw1 c8
  go_enter Try.func53, Try.ntmps53
  go_wp2_with (go_at_call 57; rw [← hv.out, HW.out]; refine Stop.out ?_)
  refine Stop.go (labelIndex_c t time _ _ (H.out.keep (Keeps.of_below HB1.out)) ?_ hl)
  intro r w2 hb hc
  have HB := hide (bseq HB1.out hb)
  have HL := hide (hc.label HA.out)
  have c8 : w1.cell? ⟨w.heap.size, 8, none⟩ = some (.slice t.lp t.label.length t.lc) := by rw [← HW.out]; exact cell_new.trans rfl
  have d8 := cell_later hb c8
  have htop := hc.top
  clear hb hc c8
  cases r with
  | zero =>
    have HR1 := hide (HR.out w2 HB.out)
    rw [HL.out, if_pos rfl] at HR1
    rw [show (((0 : Nat) : Int) - 1) = -1 by rfl]
    clear htop
    go_wp2
    exact HR1.out
  | succ i =>
    obtain ⟨b, o, s, hp, hx, hcs, hsz⟩ := (H.out.keep (Keeps.of_below HB.out)).label.at_ (i := i) (by rw [← HN.out]; exact htop)
    have HR1 := hide (HR.out w2 HB.out)
    rw [HL.out, if_neg (by omega), Nat.add_sub_cancel, hx, Option.getD_some] at HR1
    rw [show (((i + 1 : Nat) : Int) - 1) = (i : Int) by omega]
    rw [hp] at d8
    have hil : (i : Int) < (t.label.length : Int) := by have := HN.out; omega
    clear hp hx htop
    go_wp2
    exact HR1.out
end Go.Proofs.Ytihdpkeclmpehaa

namespace Go.Proofs.Ytihdpkeclmpehaa
open Go.RowKit

theorem box_cell {w wr : World} {cs : Array Value} {T : TypeId} (hb : Below (w.alloc (.cells cs T)).heap.size (w.alloc (.cells cs T)) wr) {i : Nat} {v : Value} (hv : cs[i]? = some v) : wr.cell? ⟨w.heap.size, i, none⟩ = some v :=
  cell_later hb (cell_new.trans hv)
set_option maxRecDepth 100000 in
set_option maxHeartbeats 2000000 in
theorem stops_c (t : Trk) (w : World) (R) (h : TrkAt w t) (hk : TkOk t.tk) (hR : ∀ w', Below w.heap.size w w' → R (.returned (.bool true)) w') : Calls Try.prog 48 #[t.val] w R := by
  have HR := hide hR
  have H := hide h
  have Hk := hide hk
  have hlen : 0 < t.stops.length := hk.stops
  have hlm : t.stops.length ≤ 20 := hk.few.1
  have hse : t.seals.length + 1 = t.stops.length := hk.seals
  obtain ⟨w1, hw1⟩ : ∃ w1, w.alloc (.cells t.cells.toArray 40) = w1 := ⟨_, rfl⟩
  have HW := hide hw1
  have HB1 := hide (show Below w.heap.size w w1 from hw1 ▸ balloc (Below.refl _ _) _)
  clear hR h hk hw1
  obtain ⟨b, o, s0, hp, hs0, x0, x1, x2, x3⟩ := H.out.stops.stp hlen
  have ok0 := Hk.out.each 0 s0 hs0
  have a0 := ok0.arrive.1
  have Hsp := hide hp
  have l1 : (t.stops.length : Int) ≠ 0 := by omega
  have l2 : (t.seals.length : Int) = (t.stops.length : Int) - 1 := by omega
  obtain ⟨n, hn⟩ : ∃ n, t.seals.length = n := ⟨_, rfl⟩
  have hn2 : t.stops.length = n + 1 := by omega
  have Hn2 := hide hn2
  have Hn := hide hn
  have hv : Hid (Trk.val t = .agg #[.string t.label0, .int .i64 t.from0, .int .i64 t.to0, .int .i64 t.class0, .int .i64 t.accept, .slice t.sp t.stops.length t.sc, .bool t.lost, .slice t.np t.since.length t.nc, .slice t.lp t.label.length t.lc, .slice t.ep t.seals.length t.ec]) := hide rfl
  unfold Trk.cells at HW
  obtain ⟨N, hN⟩ : ∃ N, n + 1 = N := ⟨_, rfl⟩
  have HN := hide hN
  have hNm : N ≤ 21 := by omega
  have HL : Hid (t.stops.length = N) := hide (by omega)
  have hz : IntKind.i64.wrap ((N : Int) - 1) = (n : Int) := by rw [IntWalk.i64_in _ (by omega)]; omega
  have hN0 : ((N : Int) == 0) = false := by simp; omega
  have hN1 : 0 < N := by omega
  rw [hv.out, hp, hn2, hn, hN]
  rw [hp, hn2, hn, hN] at HW
  rw [Nat.zero_mul, Nat.add_zero] at x0 x1 x2 x3
  have y1 := cell_later HB1.out x1
  rw [← HW.out] at y1
  generalize s0.arrive = ar at *
  clear hp hs0 ok0 hse l1 l2 hn2 hn hlm hN hlen Hn2 Hn x0 x1 x2 x3
  go_enter Try.func48, Try.ntmps48
  go_wp2
  clear y1 a0 hz hN0
  go_loopw [30] (fun si wr => ∃ i : Nat, i ≤ N ∧ si = .int .i64 i ∧ Hid (Below w1.heap.size w1 wr)) (fun si _ => N - (intOf si).toNat)
  case atStart => exact ⟨0, Nat.zero_le _, rfl, hide (by rw [← HW.out]; exact Below.refl _ _)⟩
  case round =>
    obtain ⟨i, hi, rfl, HB⟩ := hrel
    by_cases hlt : i < N
    · have c5 : wr.cell? ⟨w.heap.size, 5, none⟩ = some (.slice (some ⟨b, o, none⟩) N t.sc) := cell_later HB.out (by rw [← HW.out]; exact cell_new.trans rfl)
      obtain ⟨b', o', s, hp, hs, x0, x1, x2, x3⟩ := (H.out.stops.keep (Keeps.of_below (bseq HB1.out HB.out))).stp (i := i) (by rw [HL.out]; exact hlt)
      obtain ⟨rfl, rfl⟩ : b = b' ∧ o = o' := by rw [Hsp.out] at hp; injection hp with hp; injection hp with h1 h2; exact ⟨h1, h2⟩
      have ok := Hk.out.each i s hs
      obtain ⟨so, sa, sd, sl⟩ := s
      have k0 : 0 ≤ so := ok.office
      have k1 : sa ≤ 1000000000 := ok.arrive.2
      have eL : t.tk.stops.length = N := HL.out
      by_cases hlast : i + 1 = N
      · obtain ⟨rfl, rfl⟩ : sd = -1 ∧ sl = -1 := ok.last (hlast.trans eL.symm)
        obtain rfl : n = i := by have := HN.out; omega
        have hz' : IntKind.i64.wrap ((N : Int) - 1) = (n : Int) := by rw [IntWalk.i64_in _ (by omega)]; omega
        have HR1 := hide (HR.out _ (balloc (bseq HB1.out HB.out) (.cells #[.int .i64 so, .int .i64 sa, .int .i64 (-1), .int .i64 (-1)] 42)))
        have c5' := cell_later (balloc (Below.refl wr.heap.size wr) (.cells #[.int .i64 so, .int .i64 sa, .int .i64 (-1), .int .i64 (-1)] 42)) c5
        clear hs hp ok hi eL hlast
        go_wp2
        simpa using HR1.out
      · have k2 : sa ≤ sd := (ok.mid (by rw [eL]; omega)).1
        have k3 : sd ≤ 1000000000 := (ok.mid (by rw [eL]; omega)).2.1
        have k4 : 0 ≤ sl := (ok.mid (by rw [eL]; omega)).2.2
        have hi1 : i + 1 < N := by omega
        obtain ⟨b', o', s', hp', hs', z0, z1, z2, z3⟩ := (H.out.stops.keep (Keeps.of_below (bseq HB1.out HB.out))).stp (i := i + 1) (by rw [HL.out]; exact hi1)
        obtain ⟨rfl, rfl⟩ : b = b' ∧ o = o' := by rw [Hsp.out] at hp'; injection hp' with hp'; injection hp' with h1 h2; exact ⟨h1, h2⟩
        have k5 : sd ≤ s'.arrive := ok.next (by rw [eL]; exact hi1) s' hs'
        have HBn := hide (balloc HB.out (.cells #[.int .i64 so, .int .i64 sa, .int .i64 sd, .int .i64 sl] 42))
        have z1' := cell_later (balloc (Below.refl wr.heap.size wr) (.cells #[.int .i64 so, .int .i64 sa, .int .i64 sd, .int .i64 sl] 42)) z1
        have c5' := cell_later (balloc (Below.refl wr.heap.size wr) (.cells #[.int .i64 so, .int .i64 sa, .int .i64 sd, .int .i64 sl] 42)) c5
        generalize s'.arrive = na at *
        have hne : ((i : Int) == (n : Int)) = false := by simp; have := HN.out; omega
        have hz' : IntKind.i64.wrap ((N : Int) - 1) = (n : Int) := by rw [IntWalk.i64_in _ (by omega)]; have := HN.out; omega
        have w1' : IntKind.i64.wrap ((i : Int) + 1) = ((i + 1 : Nat) : Int) := by rw [IntWalk.i64_in _ (by omega)]; omega
        obtain ⟨i1, hi1'⟩ : ∃ i1, i + 1 = i1 := ⟨_, rfl⟩
        have Hi1 := hide hi1'
        rw [hi1'] at w1' z1' hi1
        have d1 : decide (sd < sa) = false := by simpa using k2
        have d2 : decide (na < sd) = false := by simpa using k5
        have d3 : decide (sl < 0) = false := by simpa using k4
        clear hs hp ok hi eL hlast hp' hs' z0 z2 z3 z1 hi1'
        go_wp2
        go_quiet (fail)
        go_wp2
        go_roundw
        case rel => exact ⟨i1, by omega, by have := Hi1.out; first | rfl | (congr 1; omega), hide (by exact below_drewN' HBn.out _)⟩
        case measure => have := Hi1.out; simp [intOf]; omega
    · obtain rfl : i = N := by omega
      go_wp2
      exact HR.out _ (bseq HB1.out HB.out)
theorem sortedT_c (p : Option Addr) (c N : Nat) (l : List Int) (w : World) (hN : l.length = N) (hl : N ≤ 1000000) (h : IntsAt .i64 w p l) (ha : AscI l) : Calls Try.prog 71 #[.slice p N c] w fun e w' => e = .returned (.bool true) ∧ Dr w w' := by
  subst hN
  refine sorted_c p c l w _ hl h ?_
  intro v w' hd hv
  refine ⟨?_, hd⟩
  rw [hv.2 (fun m x y _ hx hy => ha m x y hx hy)]
set_option maxHeartbeats 1000000 in
theorem labels_c (t : Trk) (w : World) (R) (h : TrkAt w t) (hk : TkOk t.tk) (hR : ∀ w', Below w.heap.size w w' → R (.returned (.bool true)) w') : Calls Try.prog 49 #[t.val] w R := by
  have HR := hide hR
  have H := hide h
  have Hk := hide hk
  obtain ⟨w1, hw1⟩ : ∃ w1, w.alloc (.cells t.cells.toArray 40) = w1 := ⟨_, rfl⟩
  have HW := hide hw1
  have HB1 := hide (show Below w.heap.size w w1 from hw1 ▸ balloc (Below.refl _ _) _)
  have hlen : 0 < t.stops.length := hk.stops
  have hsl : 0 < t.since.length := hk.since
  have hsm : t.since.length ≤ 10 := hk.few.2
  have hll : t.since.length = t.label.length := hk.labels
  have HA := hide (show AscI t.since from hk.asc)
  clear hR h hk hw1
  obtain ⟨b, o, s0, hp, hs0, x0, x1, x2, x3⟩ := H.out.stops.stp hlen
  obtain ⟨b2, o2, a0, hp2, hx0, y0⟩ := H.out.since.at_ hsl
  have hle : a0 ≤ s0.arrive := Hk.out.first a0 s0 hx0 hs0
  have hv : Hid (Trk.val t = .agg #[.string t.label0, .int .i64 t.from0, .int .i64 t.to0, .int .i64 t.class0, .int .i64 t.accept, .slice t.sp t.stops.length t.sc, .bool t.lost, .slice t.np t.since.length t.nc, .slice t.lp t.label.length t.lc, .slice t.ep t.seals.length t.ec]) := hide rfl
  unfold Trk.cells at HW
  rw [Nat.zero_mul, Nat.add_zero] at x1
  rw [Nat.add_zero] at y0
  have y1 := cell_later HB1.out x1
  have y2 := cell_later HB1.out y0
  rw [← HW.out] at y1 y2
  rw [hv.out]
  generalize s0.arrive = ar at *
  obtain ⟨N, hN⟩ : ∃ N, t.since.length = N := ⟨_, rfl⟩
  obtain ⟨M, hM⟩ : ∃ M, t.stops.length = M := ⟨_, rfl⟩
  have HN := hide hN
  have HI := hide H.out.since
  rw [← hll, hN, hM, hp, hp2]
  rw [← hll, hN, hM, hp, hp2] at y1 y2
  rw [hN] at hsl
  rw [hM] at hlen
  have HB2 := HB1
  unfold Hid at HB2
  rw [← HW.out, ← hll, hN, hM, hp, hp2] at HB2
  rw [hp2] at HI
  have hn0 : ((N : Int) == 0) = false := by simp; omega
  have hd := HI.out.keep (Keeps.of_below HB2)
  have hsort : ∀ (n : Nat) (R : Ending → World → Prop), True := fun _ _ => trivial
  clear hs0 x0 x1 x2 x3 hx0 y0 hll hM hp hp2 hsort
  go_enter Try.func49, Try.ntmps49
  go_wp2
  go_quiet ((go_at_call 71; exact quiet_dr (sortedT_c _ _ N t.since _ HN.out (by omega) (hd.keep (Keeps.drewN _ _)) HA.out)))
  go_wp2
  have h2 := fun k => HR.out _ (below_drewN' HB2 k)
  simpa using h2 _
end Go.Proofs.Ytihdpkeclmpehaa

namespace Go.Proofs.Ytihdpkeclmpehaa
open Go.RowKit

theorem TrksAt.trk {w : World} {p : Option Addr} {l : List Trk} (h : TrksAt w p l) {i : Nat} (hi : i < l.length) : ∃ b o t, p = some ⟨b, o, none⟩ ∧ l[i]? = some t ∧ TrkAt w t ∧
    w.cell? ⟨b, o + i * 10, none⟩ = some (.string t.label0) ∧ w.cell? ⟨b, o + i * 10 + 1, none⟩ = some (.int .i64 t.from0) ∧ w.cell? ⟨b, o + i * 10 + 2, none⟩ = some (.int .i64 t.to0) ∧ w.cell? ⟨b, o + i * 10 + 3, none⟩ = some (.int .i64 t.class0) ∧
    w.cell? ⟨b, o + i * 10 + 4, none⟩ = some (.int .i64 t.accept) ∧ w.cell? ⟨b, o + i * 10 + 5, none⟩ = some (.slice t.sp t.stops.length t.sc) ∧ w.cell? ⟨b, o + i * 10 + 6, none⟩ = some (.bool t.lost) ∧ w.cell? ⟨b, o + i * 10 + 7, none⟩ = some (.slice t.np t.since.length t.nc) ∧
    w.cell? ⟨b, o + i * 10 + 8, none⟩ = some (.slice t.lp t.label.length t.lc) ∧ w.cell? ⟨b, o + i * 10 + 9, none⟩ = some (.slice t.ep t.seals.length t.ec) := by
  obtain ⟨b, o, x, hp, hx, hc⟩ := h.1.at_ hi
  exact ⟨b, o, x, hp, hx, h.2 x (List.mem_of_getElem? hx), hc 0 _ rfl, hc 1 _ rfl, hc 2 _ rfl, hc 3 _ rfl, hc 4 _ rfl, hc 5 _ rfl, hc 6 _ rfl, hc 7 _ rfl, hc 8 _ rfl, hc 9 _ rfl⟩
theorem Trk.val_eq (t : Trk) : t.val = .agg #[.string t.label0, .int .i64 t.from0, .int .i64 t.to0, .int .i64 t.class0, .int .i64 t.accept, .slice t.sp t.stops.length t.sc, .bool t.lost, .slice t.np t.since.length t.nc, .slice t.lp t.label.length t.lc, .slice t.ep t.seals.length t.ec] := rfl
set_option maxHeartbeats 1000000 in
theorem badTrk_c (t : Trk) (w : World) (R) (h : TrkAt w t) (hk : TkOk t.tk) (hR : ∀ w', Below w.heap.size w w' → R (.returned (.bool false)) w') : Calls Try.prog 47 #[t.val] w R := by
  have HR := hide hR; have H := hide h; have Hk := hide hk
  obtain ⟨w1, hw1⟩ : ∃ w1, w.alloc (.cells t.cells.toArray 40) = w1 := ⟨_, rfl⟩
  have HW := hide hw1
  have HB1 := hide (show Below w.heap.size w w1 from hw1 ▸ balloc (Below.refl _ _) _)
  unfold Trk.cells at HW
  have hv := hide t.val_eq
  clear hR h hk hw1
  rw [hv.out]
  go_enter Try.func47, Try.ntmps47
  go_wp2_with (go_at_call 48; rw [← hv.out, HW.out]; refine Stop.out ?_)
  refine Stop.go (stops_c t _ _ (H.out.keep (Keeps.of_below HB1.out)) Hk.out ?_)
  intro w2 hb
  have HB2 := hide (bseq HB1.out hb)
  have hc : ∀ (i : Nat) (v : Value), t.cells[i]? = some v → w2.cell? ⟨w.heap.size, i, none⟩ = some v := fun i v hv => cell_later hb (by rw [← HW.out]; exact cell_new.trans (by rw [List.getElem?_toArray]; exact hv))
  have z0 := hc 0 _ rfl; have z1 := hc 1 _ rfl; have z2 := hc 2 _ rfl; have z3 := hc 3 _ rfl; have z4 := hc 4 _ rfl; have z5 := hc 5 _ rfl; have z6 := hc 6 _ rfl; have z7 := hc 7 _ rfl; have z8 := hc 8 _ rfl; have z9 := hc 9 _ rfl
  clear hc hb
  go_wp2_with (go_at_call 49; rw [← hv.out]; refine Stop.out ?_)
  refine Stop.go (labels_c t _ _ (H.out.keep (Keeps.of_below HB2.out)) Hk.out ?_)
  intro w3 hb
  have HB3 := hide (bseq HB2.out hb)
  clear hb z0 z1 z2 z3 z4 z5 z6 z7 z8 z9
  go_wp2
  exact HR.out _ HB3.out
set_option maxHeartbeats 1000000 in
theorem idxTrk_c (p : Option Addr) (c n : Nat) (l : List Trk) (w : World) (R) (hn : l.length = n) (hl : n ≤ 1000) (h : TrksAt w p l) (hk : ∀ t ∈ l, TkOk t.tk) (hR : ∀ w', Below w.heap.size w w' → R (.returned (.int .i64 (-1))) w') : Calls Try.prog 58 #[.slice p n c, .func (.func 47) #[] #[]] w R := by
  have HR := hide hR; have H := hide h; have Hk := hide hk; have Hn := hide hn
  clear hR h hk hn
  go_enter Try.func58, Try.ntmps58
  go_wp2
  go_loopw [8] (fun si wr => ∃ k : Nat, k ≤ n ∧ si = .int .i64 k ∧ Hid (Below w.heap.size w wr)) (fun si _ => n - (intOf si).toNat)
  case atStart => exact ⟨0, Nat.zero_le _, rfl, hide (Below.refl _ _)⟩
  case round =>
    obtain ⟨k, hk, rfl, HB⟩ := hrel
    by_cases hlt : k < n
    · obtain ⟨b, o, t, rfl, hx, ht, x0, x1, x2, x3, x4, x5, x6, x7, x8, x9⟩ := (H.out.keep (Keeps.of_below HB.out)).trk (i := k) (by rw [Hn.out]; exact hlt)
      have Ht := hide ht
      have Hok := hide (Hk.out t (List.mem_of_getElem? hx))
      have hv := hide t.val_eq
      clear hx ht
      go_wp2_with (go_at_call 47; rw [← hv.out]; refine Stop.out ?_)
      refine Stop.go (badTrk_c t _ _ Ht.out Hok.out ?_)
      intro w2 hb
      have HB2 := hide (bseq HB.out hb)
      clear hb x0 x1 x2 x3 x4 x5 x6 x7 x8 x9
      go_wp2
      go_roundw
      case rel => exact ⟨k + 1, by omega, by go_num, HB2⟩
      case measure => simp [intOf]; omega
    · obtain rfl : k = n := by omega
      go_wp2
      exact HR.out _ HB.out
theorem wellFormed_c (p : Option Addr) (c n : Nat) (l : List Trk) (w : World) (R) (hn : l.length = n) (h : TrksAt w p l) (hk : TksOk (l.map Trk.tk)) (hR : ∀ w', Below w.heap.size w w' → R (.returned (.bool true)) w') : Calls Try.prog 26 #[.slice p n c] w R := by
  have hl : n ≤ 8 := by have := hk.1; simpa [hn] using this
  have HR := hide hR; have H := hide h; have Hn := hide hn
  have Hk := hide (show ∀ t ∈ l, TkOk t.tk from fun t ht => hk.2 _ (List.mem_map_of_mem ht))
  clear hR h hk hn
  have hl' : ¬ (60 : Int) < (n : Int) := by omega
  go_enter Try.func26, Try.ntmps26
  go_wp2_with (go_at_call 33; refine Stop.out ?_)
  refine Stop.go ?_
  go_enter Try.func33, Try.ntmps33
  go_wp2_with (go_at_call 58; refine Stop.out ?_)
  refine Stop.go (idxTrk_c p c n l _ _ Hn.out (by omega) H.out Hk.out ?_)
  intro w2 hb
  have HB := hide hb
  clear hb
  go_wp2
  exact HR.out _ HB.out
theorem scannersT_c (p : Option Addr) (c n : Nat) (l : List Scn) (w : World) (R) (hn : l.length = n) (h : ScnsAt w p l) (hk : ScnsOk l) (hR : ∀ w', Below w.heap.size w w' → R (.returned (.bool true)) w') : Calls Try.prog 25 #[.slice p n c] w R := by
  subst hn
  refine scanners_c p c l w R (by have := hk.1; omega) h fun w' hb => ?_
  rw [show scnsB l = true by unfold scnsB; rw [decide_eq_true hk.1, List.all_eq_true.2 hk.2]; rfl]
  exact hR w' hb
end Go.Proofs.Ytihdpkeclmpehaa
