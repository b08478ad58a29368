/- Distances, events, legs and units as they lie in memory. -/
import Derived.Test.YtaopfoicdjejnaaChecked
import Derived.Test.YtaopfoicdjejnaaOp
import Derived.Test.YtaopfoicdjejnaaO11
import Derived.Test.YtaopfoicdjejnaaO10
import Derived.IntWalk
import Derived.BigRegion
set_option linter.unusedVariables false
set_option linter.unusedSimpArgs false
namespace Go.Proofs.Ytaopfoicdjejnaa
open Go.RowKit

/-- An event with the place of its needs. -/
structure Evt where
  office : Int
  low : Int
  high : Int
  np : Option Addr
  nn : Nat
  nc : Nat
def Evt.cells (e : Evt) : List Value := [.int .i64 e.office, .int .i64 e.low, .int .i64 e.high, .slice e.np e.nn e.nc]
def Evt.ev (e : Evt) : Ev := ⟨e.office.toNat, e.low, e.high⟩
structure Lgr where
  src : Int
  dst : Int
  gap : Int
def Lgr.cells (g : Lgr) : List Value := [.int .i64 g.src, .int .i64 g.dst, .int .i64 g.gap]
def Lgr.lg (g : Lgr) : Lg := ⟨g.src.toNat, g.dst.toNat, g.gap⟩
def isI (x : Int) : Prop := -9223372036854775808 ≤ x ∧ x ≤ 9223372036854775807
def Evt.Wf (e : Evt) : Prop := isI e.office ∧ isI e.low ∧ isI e.high
def Lgr.Wf (g : Lgr) : Prop := isI g.src ∧ isI g.dst ∧ isI g.gap

/-- Rows of numbers. -/
def RowsAt (w : World) (p : Option Addr) (l : List (List Int)) : Prop :=
  0 < l.length → ∃ b o, p = some ⟨b, o, none⟩ ∧ ∀ (i : Nat) (r : List Int), l[i]? = some r → ∃ q c, w.cell? ⟨b, o + i, none⟩ = some (.slice q r.length c) ∧ IntsAt .i64 w q r ∧ r.length ≤ maxLen
theorem RowsAt.keep {w w' : World} {p : Option Addr} {l : List (List Int)} (hk : Keeps w w') (h : RowsAt w p l) : RowsAt w' p l := fun hl => by
  obtain ⟨b, o, hp, hc⟩ := h hl
  refine ⟨b, o, hp, fun i r hr => ?_⟩
  obtain ⟨q, c, h1, h2, h3⟩ := hc i r hr
  exact ⟨q, c, hk _ _ h1, h2.keep hk, h3⟩
theorem RowsAt.at_ {w : World} {p : Option Addr} {l : List (List Int)} (h : RowsAt w p l) {i : Nat} (hi : i < l.length) :
    ∃ b o r q c, p = some ⟨b, o, none⟩ ∧ l[i]? = some r ∧ w.cell? ⟨b, o + i, none⟩ = some (.slice q r.length c) ∧ IntsAt .i64 w q r ∧ r.length ≤ maxLen := by
  obtain ⟨b, o, hp, hc⟩ := h (by omega)
  have hx : l[i]? = some l[i] := List.getElem?_eq_getElem hi
  obtain ⟨q, c, h1, h2, h3⟩ := hc i _ hx
  exact ⟨b, o, l[i], q, c, hp, hx, h1, h2, h3⟩
theorem RowsAt.nil {w : World} {p : Option Addr} : RowsAt w p [] := fun h => absurd h (by simp)

/-- Elements of some cells each, one behind the other. -/
def EncAt {α : Type} (k : Nat) (enc : α → List Value) (w : World) (p : Option Addr) (l : List α) : Prop :=
  0 < l.length → ∃ b o, p = some ⟨b, o, none⟩ ∧ ∀ (i : Nat) (x : α), l[i]? = some x → ∀ c v, (enc x)[c]? = some v → w.cell? ⟨b, o + i * k + c, none⟩ = some v
section
variable {α : Type} {k : Nat} {enc : α → List Value} {w w' : World} {p : Option Addr} {l : List α}
theorem EncAt.keep (hk : Keeps w w') (h : EncAt k enc w p l) : EncAt k enc w' p l := fun hl => by
  obtain ⟨b, o, hp, hc⟩ := h hl
  exact ⟨b, o, hp, fun i x hx c v hv => hk _ _ (hc i x hx c v hv)⟩
theorem EncAt.nil : EncAt k enc w p [] := fun h => absurd h (by simp)
theorem EncAt.at_ (h : EncAt k enc w p l) {i : Nat} (hi : i < l.length) : ∃ b o x, p = some ⟨b, o, none⟩ ∧ l[i]? = some x ∧ ∀ c v, (enc x)[c]? = some v → w.cell? ⟨b, o + i * k + c, none⟩ = some v := by
  obtain ⟨b, o, hp, hc⟩ := h (by omega)
  have hx : l[i]? = some l[i] := List.getElem?_eq_getElem hi
  exact ⟨b, o, l[i], hp, hx, hc i _ hx⟩
theorem flatMap_at {α : Type} {enc : α → List Value} {k : Nat} (hk : ∀ x, (enc x).length = k) : ∀ (l : List α) (i c : Nat) (x : α), l[i]? = some x → c < k → (l.flatMap enc)[i * k + c]? = (enc x)[c]?
  | [], i, c, x, h, _ => by simp at h
  | y :: l, 0, c, x, h, hc => by
    simp at h; subst h
    rw [List.flatMap_cons, List.getElem?_append_left (by rw [hk]; omega)]
    congr 1; omega
  | y :: l, i + 1, c, x, h, hc => by
    have := flatMap_at hk l i c x (by simpa using h) hc
    rw [List.flatMap_cons, List.getElem?_append_right (by rw [hk, Nat.add_mul]; omega), hk, ← this]
    congr 1; rw [Nat.add_mul]; omega
theorem flatMap_len {α : Type} {enc : α → List Value} {k : Nat} (hk : ∀ x, (enc x).length = k) : ∀ l : List α, (l.flatMap enc).length = l.length * k
  | [] => by simp
  | y :: l => by rw [List.flatMap_cons, List.length_append, hk, flatMap_len hk l, List.length_cons, Nat.add_mul]; omega
theorem EncAt.of_flat (hk : ∀ x, (enc x).length = k) {g : Nat} (h : ∀ j u, (l.flatMap enc)[j]? = some u → w.cell? ⟨g, j, none⟩ = some u) : EncAt k enc w (some ⟨g, 0, none⟩) l := fun _ =>
  ⟨g, 0, rfl, fun i x hx c v hv => by
    have hc : c < k := by rw [← hk x]; exact (List.getElem?_eq_some_iff.1 hv).1
    have := h _ _ ((flatMap_at hk l i c x hx hc).trans hv)
    simpa using this⟩
theorem EncAt.lit (hk : ∀ x, (enc x).length = k) {t : TypeId} (l : List α) : EncAt k enc (w.alloc (.cells (l.flatMap enc).toArray t)) (some ⟨w.heap.size, 0, none⟩) l :=
  EncAt.of_flat hk fun j u hu => by rw [cell_new]; simpa using hu
theorem EncAt.of_own (hk : ∀ x, (enc x).length = k) (h0 : 0 < k) {base : Nat} {e : TypeId} {n cap : Nat} (h : w.ownsRow base e k (.slice p n cap) n (l.flatMap enc)) : EncAt k enc w p l := fun hl => by
  have hn : l.length * k = n * k := by have h1 := h.1; rwa [flatMap_len hk] at h1
  have hn' : l.length = n := Nat.eq_of_mul_eq_mul_right h0 hn
  rcases h.2 with ⟨hv, h0⟩ | ⟨g, cap', cur, hv, _, hh, _⟩
  · omega
  · injection hv with h1 h2 h3
    subst h1
    refine EncAt.of_flat hk (fun j u hu => ?_) hl
    have := h.cells (g := g) rfl j u hu
    rw [Addr.add_lit] at this
    simpa using this
end
abbrev EvsAt := EncAt 4 Evt.cells
abbrev LgsAt := EncAt 3 Lgr.cells
theorem EncAt.ev {w : World} {p : Option Addr} {l : List Evt} (h : EvsAt w p l) {i : Nat} (hi : i < l.length) : ∃ b o x, p = some ⟨b, o, none⟩ ∧ l[i]? = some x ∧
    w.cell? ⟨b, o + i * 4, none⟩ = some (.int .i64 x.office) ∧ w.cell? ⟨b, o + i * 4 + 1, none⟩ = some (.int .i64 x.low) ∧ w.cell? ⟨b, o + i * 4 + 2, none⟩ = some (.int .i64 x.high) ∧ w.cell? ⟨b, o + i * 4 + 3, none⟩ = some (.slice x.np x.nn x.nc) := by
  obtain ⟨b, o, x, hp, hx, hc⟩ := h.at_ hi
  exact ⟨b, o, x, hp, hx, hc 0 _ rfl, hc 1 _ rfl, hc 2 _ rfl, hc 3 _ rfl⟩
theorem EncAt.lg {w : World} {p : Option Addr} {l : List Lgr} (h : LgsAt w p l) {i : Nat} (hi : i < l.length) : ∃ b o x, p = some ⟨b, o, none⟩ ∧ l[i]? = some x ∧
    w.cell? ⟨b, o + i * 3, none⟩ = some (.int .i64 x.src) ∧ w.cell? ⟨b, o + i * 3 + 1, none⟩ = some (.int .i64 x.dst) ∧ w.cell? ⟨b, o + i * 3 + 2, none⟩ = some (.int .i64 x.gap) := by
  obtain ⟨b, o, x, hp, hx, hc⟩ := h.at_ hi
  exact ⟨b, o, x, hp, hx, hc 0 _ rfl, hc 1 _ rfl, hc 2 _ rfl⟩

/-- The distance of two offices; -1 outside the table. -/
def dst (d : List (List Int)) (i j : Nat) : Int := (((d[i]?).getD [])[j]?).getD (-1)
theorem dst_at {d : List (List Int)} {i j : Nat} {r : List Int} {x : Int} (h1 : d[i]? = some r) (h2 : r[j]? = some x) : dst d i j = x := by unfold dst; rw [h1]; simp [h2]
/-- What the distances have to be. -/
structure DistP (d : List (List Int)) : Prop where
  few : d.length ≤ 12
  row : ∀ r ∈ d, r.length = d.length ∧ ∀ x ∈ r, -1 ≤ x ∧ x ≤ 1000000
  zero : ∀ i < d.length, dst d i i = 0
  tri : ∀ i k, ∀ j, i < d.length → k < d.length → j < d.length → dst d i k ≠ -1 → i ≠ k → dst d k j ≠ -1 → dst d i j ≠ -1 ∧ dst d i j ≤ dst d i k + dst d k j
theorem DistP.rng {d : List (List Int)} (h : DistP d) (i j : Nat) : -1 ≤ dst d i j ∧ dst d i j ≤ 1000000 := by
  unfold dst
  cases h1 : d[i]? with
  | none => simp
  | some r =>
    simp only [Option.getD_some]
    cases h2 : r[j]? with
    | none => simp
    | some x => exact (h.row r (List.mem_of_getElem? h1)).2 x (List.mem_of_getElem? h2)
theorem DistP.lt {d : List (List Int)} (h : DistP d) {i j : Nat} (hd : 0 ≤ dst d i j) : i < d.length ∧ j < d.length := by
  unfold dst at hd
  cases h1 : d[i]? with
  | none => rw [h1] at hd; simp at hd
  | some r =>
    rw [h1] at hd
    simp only [Option.getD_some] at hd
    cases h2 : r[j]? with
    | none => rw [h2] at hd; simp at hd
    | some x => exact ⟨(List.getElem?_eq_some_iff.1 h1).1, by rw [← (h.row r (List.mem_of_getElem? h1)).1]; exact (List.getElem?_eq_some_iff.1 h2).1⟩
theorem DistP.Tri {d : List (List Int)} (h : DistP d) : Tri (dst d) := fun i j k h1 h2 => by
  obtain ⟨l1, l2⟩ := h.lt h1
  obtain ⟨l3, l4⟩ := h.lt h2
  have r1 := h.rng i j
  by_cases hik : i = k
  · subst hik
    have := h.zero i l1
    omega
  · have := h.tri i k j l1 l2 l4 (by omega) hik (by omega)
    omega
noncomputable def distB (d : List (List Int)) : Bool := open Classical in decide (DistP d)
theorem distB_true {d : List (List Int)} : distB d = true ↔ DistP d := by unfold distB; simp
theorem distB_false {d : List (List Int)} (h : ¬ DistP d) : distB d = false := by unfold distB; simpa using h
/-- What distances, events and legs have to be. -/
structure WellP (d : List (List Int)) (es : List Evt) (ls : List Lgr) : Prop where
  dist : DistP d
  few : es.length ≤ 16
  office : ∀ e ∈ es, 0 ≤ e.office ∧ e.office < d.length
  leg : ∀ g ∈ ls, 0 ≤ g.src ∧ g.src < es.length ∧ 0 ≤ g.dst ∧ g.dst < es.length ∧ 0 ≤ g.gap ∧ g.gap ≤ 1000000
  once : (ls.flatMap fun g => [g.src, g.dst]).Nodup
noncomputable def wellB (d : List (List Int)) (es : List Evt) (ls : List Lgr) : Bool := open Classical in decide (WellP d es ls)
theorem wellB_true {d : List (List Int)} {es : List Evt} {ls : List Lgr} : wellB d es ls = true ↔ WellP d es ls := by unfold wellB; simp
theorem wellB_false {d : List (List Int)} {es : List Evt} {ls : List Lgr} (h : ¬ WellP d es ls) : wellB d es ls = false := by unfold wellB; simpa using h
/-- The event with an index. -/
def evF (es : List Evt) (i : Nat) : Ev := ((es[i]?).map Evt.ev).getD ⟨0, 0, 0⟩
theorem evF_at {es : List Evt} {i : Nat} {e : Evt} (h : es[i]? = some e) : evF es i = e.ev := by unfold evF; rw [h]; rfl
def tmF (ts : List Int) (i : Nat) : Int := (ts[i]?).getD 0
theorem tmF_at {ts : List Int} {i : Nat} {x : Int} (h : ts[i]? = some x) : tmF ts i = x := by unfold tmF; rw [h]; rfl
/-- What Holds says. -/
def HoldP (d : List (List Int)) (es : List Evt) (ls : List Lgr) (ts : List Int) : Prop := WellP d es ls ∧ ts.length = es.length ∧ HoldsP (dst d) (evF es) es.length (ls.map Lgr.lg) (tmF ts)
noncomputable def holdB (d : List (List Int)) (es : List Evt) (ls : List Lgr) (ts : List Int) : Bool := open Classical in decide (HoldP d es ls ts)
theorem holdB_true {d : List (List Int)} {es : List Evt} {ls : List Lgr} {ts : List Int} : holdB d es ls ts = true ↔ HoldP d es ls ts := by unfold holdB; simp
theorem holdB_false {d : List (List Int)} {es : List Evt} {ls : List Lgr} {ts : List Int} (h : ¬ HoldP d es ls ts) : holdB d es ls ts = false := by unfold holdB; simpa using h
end Go.Proofs.Ytaopfoicdjejnaa
