/- Plain: observations, one after the other. A row of structs of two cells that a sort works on: the words, no program's walk. Plain: a stable sort's result is the one. Plain: deliveries and slips. The examples as plain values. Rows of deliveries: a nil row grows, two rows are put together. The iterator over observations: one is handed to the caller. -/
import Derived.Test.YtihdpkeclmpehaaA4
import Derived.Test.YtihdpkeclmpehaaBase
import Derived.Sort.Grow
import Derived.Test.YtihdpkeclmpehaaA6
import Derived.Test.YtihdpkeclmpehaaA1
import Derived.Test.YtihdpkeclmpehaaA5
set_option linter.unusedVariables false
set_option linter.unusedSimpArgs false
namespace Go.Proofs.Ytihdpkeclmpehaa

def obsIn (ts : List Tk) (i : Nat) (t : Tk) (j : Nat) : List Ob := (List.range j).flatMap fun j => match t.stops[j]? with | some s => obsStop ts i t j s | none => []
def obsUp (ts : List Tk) (i : Nat) : List Ob := (List.range i).flatMap fun i => match ts[i]? with | some t => obsTrack ts i t | none => []
theorem obsIn_succ {ts : List Tk} {i : Nat} {t : Tk} {j : Nat} {s : Stp} (hs : t.stops[j]? = some s) : obsIn ts i t (j + 1) = obsIn ts i t j ++ obsStop ts i t j s := by
  unfold obsIn
  rw [List.range_succ, List.flatMap_append, List.flatMap_singleton, hs]
theorem obsUp_succ {ts : List Tk} {i : Nat} {t : Tk} (ht : ts[i]? = some t) : obsUp ts (i + 1) = obsUp ts i ++ obsIn ts i t t.stops.length := by
  unfold obsUp
  rw [List.range_succ, List.flatMap_append, List.flatMap_singleton, ht]
  rfl
theorem obsUp_all (ts : List Tk) : obsUp ts ts.length = obsP ts := rfl
theorem obsStop_len (ts : List Tk) (i : Nat) (t : Tk) (j : Nat) (s : Stp) : (obsStop ts i t j s).length ≤ 3 := by
  unfold obsStop
  rw [List.length_cons]
  split
  · simp
  · split
    · simp
    · split <;> simp
theorem flat_le {β : Type} (f : Nat → List β) (k : Nat) : ∀ n, (∀ i, i < n → (f i).length ≤ k) → ((List.range n).flatMap f).length ≤ k * n
  | 0, _ => by simp
  | n + 1, h => by
    rw [List.range_succ, List.flatMap_append, List.flatMap_singleton, List.length_append]
    have h1 := flat_le f k n (fun i hi => h i (by omega))
    have h2 := h n (by omega)
    rw [Nat.mul_add, Nat.mul_one]; omega
theorem obsIn_len (ts : List Tk) (i : Nat) (t : Tk) (j : Nat) : (obsIn ts i t j).length ≤ 3 * j := by
  refine flat_le _ 3 j fun j _ => ?_
  split
  · exact obsStop_len ..
  · simp
theorem obsUp_len {ts : List Tk} (h : ∀ t ∈ ts, t.stops.length ≤ 20) (i : Nat) : (obsUp ts i).length ≤ 60 * i := by
  refine flat_le _ 60 i fun i _ => ?_
  split
  · rename_i t ht
    have h1 := obsIn_len ts i t t.stops.length
    have h2 := h t (List.mem_of_getElem? ht)
    show (obsIn ts i t t.stops.length).length ≤ 60
    omega
  · simp
theorem obsStop_none {ts : List Tk} {i : Nat} {t : Tk} {j : Nat} {s : Stp} (h : t.seals[j]? = none) : obsStop ts i t j s = [⟨s.office, 1, s.arrive, labelP t s.arrive, []⟩] := by
  unfold obsStop; rw [h]
theorem obsStop_not {ts : List Tk} {i : Nat} {t : Tk} {j : Nat} {s : Stp} {e : ByteArray} (h : t.seals[j]? = some e) (hf : firstP ts e ≠ some (i, j)) : obsStop ts i t j s = [⟨s.office, 1, s.arrive, labelP t s.arrive, []⟩] := by
  unfold obsStop; rw [h]
  simp only
  split
  · rfl
  · rw [if_neg hf]
theorem obsStop_three {ts : List Tk} {i : Nat} {t : Tk} {j : Nat} {s n : Stp} {e : ByteArray} (h : t.seals[j]? = some e) (hn : t.stops[j + 1]? = some n) (hf : firstP ts e = some (i, j)) :
    obsStop ts i t j s = [⟨s.office, 1, s.arrive, labelP t s.arrive, []⟩, ⟨s.office, 2, s.depart, e, contentsP ts e s.depart⟩, ⟨n.office, 1, n.arrive, e, []⟩] := by
  unfold obsStop; rw [h, hn]
  simp only
  rw [if_pos hf]
end Go.Proofs.Ytihdpkeclmpehaa

namespace Go.Proofs.Ytihdpkeclmpehaa
open Go.RowKit Go.Sort

theorem grownBy_grow {w0 w : World} {r : Option Nat} (h : w0.grownBy w r) (q : Nat) (os : Array Obj) : w0.grownBy (grow (w.drewN q) os) r :=
  ⟨h.os, h.tape, h.output, by rw [size_grow]; exact Nat.le_trans h.size (Nat.le_add_right _ _), fun k hk hne => by
    have h1 := h.block k hk hne
    have h2 : k < w.heap.size := Nat.lt_of_lt_of_le hk h.size
    show (w.heap ++ os)[k]? = _
    rw [Array.getElem?_append_left h2]; exact h1⟩
theorem grownBy_self_grow (w : World) (q : Nat) (os : Array Obj) : w.grownBy (grow (w.drewN q) os) none := grownBy_grow (World.grownBy.refl w none) q os

/-- The row at the head of block g holds the elements of l; since w0 nothing else has turned. -/
structure St {α : Type} (E : TypeId) (k : Nat) (enc : α → List Value) (w0 : World) (g n cap base : Nat) (l : List α) (w : World) : Prop where
  own : w.ownsRow base E k (.slice (some ⟨g, 0, none⟩) n cap) n (l.flatMap enc)
  grown : w0.grownBy w (some g)
  len : l.length = n
  lt : g < w0.heap.size

theorem flat_at {α : Type} {enc : α → List Value} {k : Nat} (hk : ∀ x, (enc x).length = k) : ∀ (l : List α) (i c : Nat) (x : α), l[i]? = some x → c < k → (l.flatMap enc)[i * k + c]? = (enc x)[c]?
  | [], i, c, x, h, _ => by simp at h
  | y :: l, 0, c, x, h, hc => by
    simp at h; subst h
    rw [List.flatMap_cons, List.getElem?_append_left (by rw [hk]; omega)]
    congr 1; omega
  | y :: l, i + 1, c, x, h, hc => by
    have := flat_at hk l i c x (by simpa using h) hc
    rw [List.flatMap_cons, List.getElem?_append_right (by rw [hk, Nat.add_mul]; omega), hk, ← this]
    congr 1; rw [Nat.add_mul]; omega
theorem flat_len {α : Type} {enc : α → List Value} {k : Nat} (hk : ∀ x, (enc x).length = k) : ∀ l : List α, (l.flatMap enc).length = l.length * k
  | [] => by simp
  | y :: l => by rw [List.flatMap_cons, List.length_append, hk, flat_len hk l, List.length_cons, Nat.add_mul]; omega

section
variable {α : Type} {E : TypeId} {k : Nat} {enc : α → List Value} {w0 w : World} {g n cap base : Nat} {l : List α}

theorem St.cell (h : St E k enc w0 g n cap base l w) (hk : ∀ x, (enc x).length = k) {i : Nat} {x : α} (hx : l[i]? = some x) (c : Nat) {v : Value} (hv : (enc x)[c]? = some v) : w.cell? ⟨g, i * k + c, none⟩ = some v := by
  have hc : c < k := by have := (List.getElem?_eq_some_iff.1 hv).1; rw [hk] at this; exact this
  have := h.own.cells (g := g) rfl (i * k + c) v (by rw [flat_at hk l i c x hx hc]; exact hv)
  rw [Addr.add_lit] at this
  simpa using this
theorem St.lt' (h : St E k enc w0 g n cap base l w) : g < w.heap.size := Nat.lt_of_lt_of_le h.lt h.grown.size
theorem St.cell_g (h : St E k enc w0 g n cap base l w) (hk : ∀ x, (enc x).length = k) {i : Nat} {x : α} (hx : l[i]? = some x) (c : Nat) {v : Value} (hv : (enc x)[c]? = some v) (q : Nat) (os : Array Obj) : (grow (w.drewN q) os).cell? ⟨g, i * k + c, none⟩ = some v := by
  rw [cell?_grow _ _ _ (by exact h.lt')]; exact h.cell hk hx c hv
theorem St.grow (h : St E k enc w0 g n cap base l w) (q : Nat) (os : Array Obj) : St E k enc w0 g n cap base l (grow (w.drewN q) os) :=
  ⟨h.own.kept (grownBy_self_grow w q os) (.inr (by simp [Value.ownBlock])), grownBy_grow h.grown q os, h.len, h.lt⟩
theorem St.drewN (h : St E k enc w0 g n cap base l w) (q : Nat) : St E k enc w0 g n cap base l (w.drewN q) := by
  have := h.grow q #[]
  rwa [grow_empty] at this
theorem St.drew (h : St E k enc w0 g n cap base l w) : St E k enc w0 g n cap base l w.drew :=
  ⟨h.own.drew, grownBy_drew h.grown, h.len, h.lt⟩
end

/-- Setting the cells of one element. -/
def setE (xs : List Value) (o : Nat) : List Value → List Value
  | [] => xs
  | v :: vs => setE (xs.set o v) (o + 1) vs
theorem setE_eq : ∀ (vs xs : List Value) (o : Nat), o + vs.length ≤ xs.length → setE xs o vs = xs.take o ++ vs ++ xs.drop (o + vs.length)
  | [], xs, o, _ => by simp [setE]
  | v :: vs, xs, o, h => by
    simp only [List.length_cons] at h
    rw [setE, setE_eq vs (xs.set o v) (o + 1) (by simp; omega)]
    rw [List.take_set, List.drop_set, if_pos (by omega)]
    have e1 : (xs.take (o + 1)).set o v = xs.take o ++ [v] := by
      rw [List.take_add_one, List.set_append_right _ _ (by rw [List.length_take]; omega)]
      rw [List.length_take, Nat.min_eq_left (by omega), Nat.sub_self]
      rw [List.getElem?_eq_getElem (show o < xs.length by omega)]
      rfl
    rw [e1, List.length_cons]
    simp [Nat.add_assoc, Nat.add_comm 1]
theorem flat_set {α : Type} {enc : α → List Value} {k : Nat} (hk : ∀ x, (enc x).length = k) (l : List α) (i : Nat) (x : α) (hi : i < l.length) : setE (l.flatMap enc) (i * k) (enc x) = (l.set i x).flatMap enc := by
  have hl := flat_len hk l
  have hb : i * k + k ≤ l.length * k := by
    have := Nat.mul_le_mul_right k (show i + 1 ≤ l.length from hi); rwa [Nat.add_mul, Nat.one_mul] at this
  rw [setE_eq _ _ _ (by rw [hk, hl]; exact hb), hk]
  have e : l = l.take i ++ l[i] :: l.drop (i + 1) := by rw [← List.drop_eq_getElem_cons hi, List.take_append_drop]
  have hti : (l.take i).length = i := by rw [List.length_take]; omega
  have e2 : l.set i x = l.take i ++ x :: l.drop (i + 1) := by
    rw [List.set_eq_take_append_cons_drop, if_pos hi]
  have e3 : l.flatMap enc = (l.take i).flatMap enc ++ (enc l[i] ++ (l.drop (i + 1)).flatMap enc) := by
    conv => lhs; rw [e]
    rw [List.flatMap_append, List.flatMap_cons]
  have ht : ((l.take i).flatMap enc).length = i * k := by rw [flat_len hk, hti]
  rw [e2, List.flatMap_append, List.flatMap_cons, e3]
  rw [List.take_left' ht, List.drop_append, ht, List.drop_of_length_le (by rw [ht]; omega), Nat.add_sub_cancel_left, List.drop_left' (hk _), List.append_assoc]
  rfl

theorem st_run {P : Program} {v : Value} (h : v.oneCell' = true) : ∀ (W : World) (a : Addr), (W.cell? a).isSome = true → W.frozen? a = false → Sem.run P (store a v) W = .ok () (W.setCell a v) := fun W a h1 h2 => by
  rw [run_store P W a v .plain h]
  obtain ⟨u, hu⟩ := Option.isSome_iff_exists.1 h1
  rw [hu, h2]
  rfl
/-- The stores of one element's cells. -/
def setW (w : World) (g o : Nat) : List Value → World
  | [] => w
  | v :: vs => setW (w.setCell ⟨g, o, none⟩ v) g (o + 1) vs
section
variable {α : Type} {E : TypeId} {k : Nat} {enc : α → List Value} {w0 : World} {g n cap base : Nat} {l : List α}
theorem own_setW : ∀ (vs xs : List Value) (o : Nat) (w : World), w.ownsRow base E k (.slice (some ⟨g, 0, none⟩) n cap) n xs → (setW w g o vs).ownsRow base E k (.slice (some ⟨g, 0, none⟩) n cap) n (setE xs o vs)
  | [], xs, o, w, h => h
  | v :: vs, xs, o, w, h => own_setW vs _ _ _ (h.stored o v).1
theorem grownBy_setW : ∀ (vs : List Value) (o : Nat) (w : World), w0.grownBy w (some g) → w0.grownBy (setW w g o vs) (some g)
  | [], o, w, h => h
  | v :: vs, o, w, h => grownBy_setW vs _ _ (grownBy_set h o v)
theorem St.put {w : World} (h : St E k enc w0 g n cap base l w) (hk : ∀ x, (enc x).length = k) (i : Nat) (x : α) (hi : i < n) : St E k enc w0 g n cap base (l.set i x) (setW w g (i * k) (enc x)) := by
  refine ⟨?_, grownBy_setW _ _ _ h.grown, by rw [List.length_set]; exact h.len, h.lt⟩
  rw [← flat_set hk l i x (by rw [h.len]; exact hi)]
  exact own_setW _ _ _ _ h.own
end

/-- The strict order of a stable sort: by key, then by the place that the element had. -/
def LtT {α : Type} (key : α → Int) (tag : α → Nat) (x y : α) : Prop := key x < key y ∨ (key x = key y ∧ tag x < tag y)
theorem LtT.trans {α : Type} {key : α → Int} {tag : α → Nat} {x y z : α} (h : LtT key tag x y) (k : LtT key tag y z) : LtT key tag x z := by unfold LtT at *; omega
theorem LtT.asymm {α : Type} {key : α → Int} {tag : α → Nat} {x y : α} (h : LtT key tag x y) : ¬ LtT key tag y x := by unfold LtT at *; omega
theorem LtT.of_key {α : Type} {key : α → Int} {tag : α → Nat} {x y : α} (h : key x < key y) : LtT key tag x y := .inl h
theorem LtT.of_tag {α : Type} {key : α → Int} {tag : α → Nat} {x y : α} (h : ¬ key y < key x) (k : tag x < tag y) : LtT key tag x y := by unfold LtT; omega
/-- Sorted by that order. -/
def Srt {α : Type} (key : α → Int) (tag : α → Nat) (l : List α) : Prop := l.Pairwise (LtT key tag)

section
variable {α : Type} {key : α → Int} {tag : α → Nat}
theorem Srt.insert {P S : List α} {x : α} (h : Srt key tag (P ++ S)) (h1 : ∀ p ∈ P, LtT key tag p x) (h2 : ∀ s ∈ S, LtT key tag x s) : Srt key tag (P ++ x :: S) := by
  unfold Srt at *
  rw [List.pairwise_append] at h ⊢
  refine ⟨h.1, List.pairwise_cons.2 ⟨h2, h.2.1⟩, fun p hp s hs => ?_⟩
  rcases List.mem_cons.1 hs with rfl | hs
  · exact h1 p hp
  · exact h.2.2 p hp s hs
theorem Srt.below_last {P S : List α} {p x : α} (h : Srt key tag (P ++ [p] ++ S)) (hp : LtT key tag p x) : ∀ q ∈ P ++ [p], LtT key tag q x := by
  unfold Srt at h
  rw [List.pairwise_append, List.pairwise_append] at h
  intro q hq
  rcases List.mem_append.1 hq with hq | hq
  · exact (h.1.2.2 q hq p (by simp)).trans hp
  · rw [List.mem_singleton.1 hq]; exact hp
theorem Srt.key_le {l : List α} (h : Srt key tag l) {t u : Nat} {x y : α} (hx : l[t]? = some x) (hy : l[u]? = some y) (htu : t ≤ u) : key x ≤ key y := by
  obtain ⟨h1, h2⟩ := List.getElem?_eq_some_iff.1 hx
  obtain ⟨h3, h4⟩ := List.getElem?_eq_some_iff.1 hy
  rcases Nat.lt_or_ge t u with hlt | hge
  · have := (List.pairwise_iff_getElem.1 h) t u h1 h3 hlt
    rw [h2, h4] at this
    unfold LtT at this
    omega
  · have : t = u := by omega
    subst this
    rw [hx] at hy; injection hy with hy
    subst hy; exact Int.le_refl _
end
theorem at_left {β : Type} (A X Y B : List β) (i : Nat) (h : i < X.length) : (A ++ X ++ Y ++ B)[A.length + i]? = X[i]? := by
  rw [List.append_assoc, List.append_assoc, List.getElem?_append_right (by omega), List.getElem?_append_left (by omega)]
  congr 1; omega
theorem at_right {β : Type} (A X Y B : List β) (i : Nat) (h : i < Y.length) : (A ++ X ++ Y ++ B)[A.length + X.length + i]? = Y[i]? := by
  rw [List.append_assoc, List.append_assoc, List.getElem?_append_right (by omega), List.getElem?_append_right (by omega), List.getElem?_append_left (by omega)]
  congr 1; omega

end Go.Proofs.Ytihdpkeclmpehaa

namespace Go.Proofs.Ytihdpkeclmpehaa

section
variable {α β : Type}
theorem insK_perm (key : α → Int) (x : α) : ∀ l : List α, (insK key x l).Perm (x :: l)
  | [] => List.Perm.refl _
  | y :: l => by
    rw [insK]
    split
    · exact List.Perm.refl _
    · exact ((insK_perm key x l).cons y).trans (List.Perm.swap x y l)
theorem sortK_perm (key : α → Int) : ∀ l : List α, (sortK key l).Perm l
  | [] => List.Perm.refl _
  | x :: l => (insK_perm key x _).trans ((sortK_perm key l).cons x)
theorem insK_map (key : β → Int) (f : α → β) (x : α) : ∀ l : List α, (insK (fun a => key (f a)) x l).map f = insK key (f x) (l.map f)
  | [] => rfl
  | y :: l => by
    rw [insK, List.map_cons, insK]
    split
    · rfl
    · rw [List.map_cons, insK_map key f x l]
theorem sortK_map (key : β → Int) (f : α → β) : ∀ l : List α, (sortK (fun a => key (f a)) l).map f = sortK key (l.map f)
  | [] => rfl
  | x :: l => by rw [sortK, insK_map, sortK_map key f l]; rfl
theorem insK_srt {key : α → Int} {tag : α → Nat} {x : α} : ∀ {l : List α}, Srt key tag l → (∀ y ∈ l, tag x < tag y) → Srt key tag (insK key x l)
  | [], _, _ => List.pairwise_singleton _ _
  | y :: l, h, ht => by
    rw [insK]
    have h2 := List.pairwise_cons.1 h
    split
    · rename_i hle
      refine List.pairwise_cons.2 ⟨fun z hz => ?_, h⟩
      have hyz : key y ≤ key z := by
        rcases List.mem_cons.1 hz with rfl | hz
        · exact Int.le_refl _
        · have := h2.1 z hz; unfold LtT at this; omega
      have := ht z hz
      unfold LtT; omega
    · rename_i hle
      refine List.pairwise_cons.2 ⟨fun z hz => ?_, insK_srt h2.2 (fun z hz => ht z (List.mem_cons_of_mem _ hz))⟩
      rcases List.mem_cons.1 ((insK_perm key x l).mem_iff.1 hz) with rfl | hz
      · exact .inl (by omega)
      · exact h2.1 z hz
theorem sortK_srt {key : α → Int} {tag : α → Nat} : ∀ {l : List α}, l.Pairwise (fun x y => tag x < tag y) → Srt key tag (sortK key l)
  | [], _ => List.Pairwise.nil
  | x :: l, h => by
    rw [sortK]
    have h2 := List.pairwise_cons.1 h
    exact insK_srt (sortK_srt h2.2) (fun y hy => h2.1 y ((sortK_perm key l).mem_iff.1 hy))
theorem zip_tag (l : List α) : ∀ k, (l.zipIdx k).Pairwise (fun x y => x.2 < y.2) := by
  induction l with
  | nil => intro k; exact List.Pairwise.nil
  | cons x l ih =>
    intro k
    rw [List.zipIdx_cons]
    refine List.pairwise_cons.2 ⟨fun y hy => ?_, ih (k + 1)⟩
    have := List.le_snd_of_mem_zipIdx hy
    show k < y.2
    omega
/-- What a stable sort hands back. -/
theorem srt_is {key : α → Int} {l : List α} {M : List (α × Nat)} (hp : M.Perm l.zipIdx) (hs : Srt (fun x : α × Nat => key x.1) (fun x => x.2) M) : M.map (·.1) = sortK key l := by
  have h1 : Srt (fun x : α × Nat => key x.1) (fun x => x.2) (sortK (fun x : α × Nat => key x.1) l.zipIdx) := sortK_srt (zip_tag l 0)
  have h2 : M = sortK (fun x : α × Nat => key x.1) l.zipIdx := (hp.trans (sortK_perm _ _).symm).eq_of_pairwise (le := LtT (fun x : α × Nat => key x.1) (fun x => x.2)) (fun a b _ _ h1 h2 => absurd h2 h1.asymm) hs h1
  rw [h2]
  exact (sortK_map key (fun x : α × Nat => x.1) l.zipIdx).trans (by rw [List.zipIdx_map_fst])
theorem sortK_sorted (key : α → Int) : ∀ l : List α, (sortK key l).Pairwise (fun x y => key x ≤ key y)
  | [] => List.Pairwise.nil
  | x :: l => ins_sorted key x (sortK_sorted key l)
where
  ins_sorted (key : α → Int) (x : α) : ∀ {l : List α}, l.Pairwise (fun x y => key x ≤ key y) → (insK key x l).Pairwise (fun x y => key x ≤ key y)
    | [], _ => List.pairwise_singleton _ _
    | y :: l, h => by
      rw [insK]
      have h2 := List.pairwise_cons.1 h
      split
      · rename_i hle
        refine List.pairwise_cons.2 ⟨fun z hz => ?_, h⟩
        rcases List.mem_cons.1 hz with rfl | hz
        · exact hle
        · have := h2.1 z hz; omega
      · refine List.pairwise_cons.2 ⟨fun z hz => ?_, ins_sorted key x h2.2⟩
        rcases List.mem_cons.1 ((insK_perm key x l).mem_iff.1 hz) with rfl | hz
        · omega
        · exact h2.1 z hz
end
end Go.Proofs.Ytihdpkeclmpehaa

namespace Go.Proofs.Ytihdpkeclmpehaa

/-- A slip. -/
structure SP where
  kind : Int
  index : Int
  by_ : Int
  label : ByteArray
  record : RP
/-- A delivery. -/
structure DP where
  r : RP
  number : Int
  times : Int
  missed : Bool
/-- What a slip of a kind changes of its delivery. -/
def chgP (s : SP) (d : DP) : DP :=
  if s.kind = 1 then { d with missed := true }
  else if s.kind = 2 then { d with r := { d.r with label := s.label } }
  else if s.kind = 4 then { d with r := { d.r with time := d.r.time + s.by_ } }
  else if s.kind = 5 then { d with times := d.times + 1 }
  else if s.kind = 6 then { d with number := d.number + max s.by_ 0 }
  else d
/-- A slip that counts for n records. -/
def cntP (n : Nat) (s : SP) : Prop := 0 ≤ s.index ∧ s.index < n ∧ -1000000 ≤ s.by_ ∧ s.by_ ≤ 1000000
instance (n : Nat) (s : SP) : Decidable (cntP n s) := by unfold cntP; infer_instance
/-- One slip is applied. -/
def stepP (x : List DP × List DP) (s : SP) : List DP × List DP :=
  if s.kind = 3 then (x.1, x.2 ++ [⟨s.record, s.index, 1, false⟩])
  else if cntP x.1.length s then (x.1.modify s.index.toNat (chgP s), x.2)
  else x
def startP (rs : List RP) : List DP := rs.zipIdx.map fun x => ⟨x.1, (x.2 : Int), 1, false⟩
def slipP (rs : List RP) (ss : List SP) : List DP × List DP := ss.foldl stepP (startP rs, [])
/-- What is delivered. -/
def outP (d : DP) : List RP := if d.missed then [] else List.replicate d.times.toNat d.r
def deliverP (l : List Scn) (ts : List Tk) (ss : List SP) : List RP :=
  (sortK DP.number ((slipP (recordsP l ts) ss).1 ++ (slipP (recordsP l ts) ss).2)).flatMap outP
theorem stepP_len (x : List DP × List DP) (s : SP) : (stepP x s).1.length = x.1.length := by
  unfold stepP
  split
  · rfl
  · split
    · simp
    · rfl
end Go.Proofs.Ytihdpkeclmpehaa

namespace Go.Proofs.Ytihdpkeclmpehaa

def exRa : RP := ⟨0, 0, 1, 100, exA, []⟩
def exRb : RP := ⟨0, 1, 2, 160, exC, [exA]⟩
def exRc : RP := ⟨1, 0, 1, 220, exC, []⟩
def exRd : RP := ⟨1, 1, 1, 220, exA, []⟩
theorem ex_records : recordsP exS [exT] = [exRa, exRb, exRc, exRd] := by decide
theorem ex_late (r : RP) : deliverP exS [exT] [⟨6, 0, 2, ⟨#[]⟩, r⟩] = [exRb, exRa, exRc, exRd] := by
  unfold deliverP; rw [ex_records]; rfl
theorem ex_miss (r s : RP) : deliverP exS [exT] [⟨1, 1, 0, ⟨#[]⟩, r⟩, ⟨5, 0, 0, ⟨#[]⟩, s⟩] = [exRa, exRa, exRc, exRd] := by
  unfold deliverP; rw [ex_records]; rfl
theorem ex_first : firstP [exT] exC = some (0, 0) := by decide
theorem ex_firstA : firstP [exT] exA = none := by decide
theorem ex_cont : ContP [exT] exC ⟨0, 100, 160, 0⟩ ⟨1, 220, -1, -1⟩ := ⟨0, 0, exT, ex_first, rfl, rfl, rfl⟩
theorem ex_cont_eq {a b : Stp} (h : ContP [exT] exC a b) : a = ⟨0, 100, 160, 0⟩ ∧ b = ⟨1, 220, -1, -1⟩ := by
  obtain ⟨i, j, t, h1, h2, h3, h4⟩ := h
  rw [ex_first] at h1
  injection h1 with h1; injection h1 with h1 h5
  subst h1; subst h5
  simp at h2; subst h2
  simp [exT] at h3 h4
  exact ⟨h3.symm, h4.symm⟩
theorem ex_contA {a b : Stp} : ¬ ContP [exT] exA a b := by
  rintro ⟨i, j, t, h1, _⟩
  rw [ex_firstA] at h1; cases h1
theorem ex_trueA : TrueP exS [exT] exRa := ⟨by decide, by decide, by decide, ⟨0, 0, 5⟩, rfl, .inl ⟨rfl, rfl, .inl ⟨exT, List.mem_singleton.2 rfl, 0, ⟨0, 100, 160, 0⟩, 100, rfl, rfl, by decide, by decide, by decide, by decide, by decide⟩⟩⟩
theorem ex_true165 : TrueP exS [exT] ⟨0, 0, 1, 165, exA, []⟩ := ⟨by decide, by decide, by decide, ⟨0, 0, 5⟩, rfl, .inl ⟨rfl, rfl, .inl ⟨exT, List.mem_singleton.2 rfl, 0, ⟨0, 100, 160, 0⟩, 160, rfl, rfl, by decide, by decide, by decide, by decide, by decide⟩⟩⟩
theorem ex_trueB : TrueP exS [exT] exRb := ⟨by decide, by decide, by decide, ⟨0, 0, 5⟩, rfl, .inr ⟨rfl, _, _, ex_cont, ⟨rfl, by decide, by decide⟩, by decide⟩⟩
theorem ex_trueC : TrueP exS [exT] exRc := ⟨by decide, by decide, by decide, ⟨1, 1, 0⟩, rfl, .inl ⟨rfl, rfl, .inr ⟨_, _, ex_cont, .inr ⟨rfl, by decide, by decide⟩⟩⟩⟩
theorem ex_stop {j : Nat} {s : Stp} (h : exT.stops[j]? = some s) : s = ⟨0, 100, 160, 0⟩ ∨ s = ⟨1, 220, -1, -1⟩ := by
  match j, h with
  | 0, h => simp [exT] at h; exact .inl h.symm
  | 1, h => simp [exT] at h; exact .inr h.symm
  | j + 2, h => simp [exT] at h
theorem ex_false166 : ¬ TrueP exS [exT] ⟨0, 0, 1, 166, exA, []⟩ := by
  rintro ⟨_, _, _, c, hc, h | h⟩
  · obtain ⟨_, _, h | h⟩ := h
    · simp [exS] at hc; subst hc
      obtain ⟨t, ht, j, s, m, hs, ho, ha, hl, hh, hd, _⟩ := h
      rw [List.mem_singleton.1 ht] at hs
      rcases ex_stop hs with rfl | rfl
      · simp at hl hd; omega
      · simp at ho
    · obtain ⟨a, b, hcp, _⟩ := h
      exact ex_contA hcp
  · exact absurd h.1 (by decide)
theorem ex_falseB : ¬ TrueP exS [exT] ⟨0, 1, 2, 160, exC, [exB]⟩ := by
  rintro ⟨_, _, _, c, hc, h | h⟩
  · exact absurd h.1 (by decide)
  · obtain ⟨_, a, b, hcp, _, he⟩ := h
    obtain ⟨rfl, rfl⟩ := ex_cont_eq hcp
    exact absurd he (by decide)
theorem ex_falseC : ¬ TrueP exS [exT] ⟨1, 0, 1, 221, exC, []⟩ := by
  rintro ⟨_, _, _, c, hc, h | h⟩
  · simp [exS] at hc; subst hc
    obtain ⟨_, _, h | h⟩ := h
    · obtain ⟨t, ht, j, s, m, hs, ho, ha, hl, hh, hd, hlab⟩ := h
      rw [List.mem_singleton.1 ht] at hs hlab
      have : labelP exT m = exA ∨ labelP exT m = ⟨#[]⟩ := by
        unfold labelP
        have hc := cutN_le exT.since m
        have : exT.since.length = 1 := rfl
        match hcc : cutN exT.since m with
        | 0 => exact .inr rfl
        | 1 => exact .inl rfl
        | k + 2 => omega
      rw [hlab] at this
      rcases this with h | h <;> exact absurd h (by decide)
    · obtain ⟨a, b, hcp, h | h⟩ := h
      · obtain ⟨rfl, rfl⟩ := ex_cont_eq hcp
        exact absurd h.1 (by decide)
      · obtain ⟨rfl, rfl⟩ := ex_cont_eq hcp
        exact absurd h.2.1 (by decide)
  · exact absurd h.1 (by decide)
end Go.Proofs.Ytihdpkeclmpehaa

namespace Go.Proofs.Ytihdpkeclmpehaa
open Go.RowKit

theorem Try.info88 : (Try.prog.info? 88).map (fun i => (i.zero, i.size, i.bytes)) = some (some (.pointer none), 1, 8) := by kernel_rfl
theorem zc_size (n : Nat) : (Builtin.zeroCells #[Value.pointer none] n).size = n := by
  simp [Builtin.zeroCells]
set_option maxHeartbeats 1000000 in
theorem grow_c (n : Nat) (hn : n ≤ 100000) (w : World) (R) (hR : ∀ v w', Below w.heap.size w w' → w'.ownsRow w.heap.size 88 1 v 0 [] → R (.returned v) w') : Calls Try.prog 76 #[.slice none 0 0, .int .i64 (n : Int)] w R := by
  have HR := hide hR
  clear hR
  rcases Nat.eq_zero_or_pos n with h0 | h0
  · subst h0
    have HF := hide (HR.out _ w (Below.refl _ _) (World.ownsRow_nil _ _ _ _))
    go_enter Try.func76, Try.ntmps76
    go_wp2
    simpa using HF.out
  · have hcap := grownCap_ge w n 0 88
    have hcm := grownCap_le_maxLen w n 0 88 (by unfold maxLen; omega)
    have h1 : (0 : Int) < (n : Int) := by omega
    have hz : IntKind.i64.wrap ((n : Int) - 0) = (n : Int) := by rw [IntWalk.i64_in _ (by omega)]; omega
    have hbt : Try.t88.bytes = 8 := by kernel_rfl
    go_enter Try.func76, Try.ntmps76
    have hns : ¬ (281474976710656 < Builtin.nextslicecap n 0 * 8) := by rw [nextslicecap_zero h0]; omega
    go_wp2
    · refine HR.out _ _ (balloc (Below.refl _ _) _).drew ?_
      exact (World.ownsRow_made (base := w.heap.size) (e := 88) (size := 1) w _ (grownCap w n 0 88) (Nat.le_refl _) hcm (by rw [Array.size_append, zc_size, zc_size]; show n + (grownCap w n 0 88 - n) = _; omega)).drew
set_option maxRecDepth 100000 in
set_option maxHeartbeats 2000000 in
theorem concat_c (g0 c0 n m c c2 : Nat) (p p2 : Option Addr) (xs ys : List Value) (w : World) (R) (hn : n ≤ 1000) (hm : m ≤ 1000) (hx : ∀ u ∈ xs, u.oneCell' = true) (hy : ∀ u ∈ ys, u.oneCell' = true) (h0 : w.cell? ⟨g0, 0, none⟩ = some (.slice p n c)) (h1 : w.cell? ⟨g0, 0 + 1, none⟩ = some (.slice p2 m c2))
    (hs : Src w p n 1 xs) (hs2 : Src w p2 m 1 ys) (hR : ∀ v w', Below w.heap.size w w' → w'.ownsRow w.heap.size 88 1 v (n + m) (xs ++ ys) → R (.returned v) w') : Calls Try.prog 66 #[.slice (some ⟨g0, 0, none⟩) 2 c0] w R := by
  have HR := hide hR; have HX := hide hx; have HY := hide hy; have HS := hide hs; have HS2 := hide hs2
  obtain ⟨i0, hi0, hz0, hz1, hz2⟩ := info_parts Try.info88
  have HT := hide (And.intro hi0 (And.intro hz0 (And.intro hz1 hz2)))
  clear hR hx hy hs hs2 hi0 hz0 hz1 hz2
  rw [Nat.zero_add] at h1
  go_enter Try.func66, Try.ntmps66
  go_wp2
  go_loopw [3, 11] (fun a b wr => ((a = .int .i64 0 ∧ b = .int .i64 0) ∨ (a = .int .i64 (n : Int) ∧ b = .int .i64 1) ∨ (a = .int .i64 ((n + m : Nat) : Int) ∧ b = .int .i64 2)) ∧ wr = w) (fun _ b _ => (2 - intOf b).toNat)
  case atStart => exact ⟨.inl ⟨rfl, rfl⟩, rfl⟩
  case round =>
    obtain ⟨hrel, rfl⟩ := hrel
    rcases hrel with ⟨rfl, rfl⟩ | ⟨rfl, rfl⟩ | ⟨rfl, rfl⟩
    · have t1 : ¬ ((n : Int) < 0) := by omega
      go_wp2
      go_roundw
      case rel => exact ⟨.inr (.inl ⟨by simp, by simp⟩), by first | rfl | trivial | simp⟩
      case measure => simp [intOf]
    · have t1 : ¬ ((n : Int) + (m : Int) < 0) := by omega
      go_wp2
      go_roundw
      case rel => exact ⟨.inr (.inr ⟨by simp, by simp⟩), by first | rfl | trivial | simp⟩
      case measure => simp [intOf]
    · obtain ⟨W0, rfl⟩ : ∃ W0, W0 = wr := ⟨wr, rfl⟩
      go_wp2_with (go_at_call 76; refine Stop.out ?_)
      refine Stop.go (grow_c (n + m) (by omega) _ _ ?_)
      intro v w1 hb hown
      have HB := hide hb; have HO := hide hown
      have d0 := cell_later hb h0; have d1 := cell_later hb h1
      have HG := hide (And.intro h0 h1)
      clear hb hown d0 d1
      go_wp2
      go_loopw [6, 27] (fun a b w2 => ((b = .int .i64 0 ∧ Hid (w2.ownsRow W0.heap.size 88 1 a 0 [])) ∨ (b = .int .i64 1 ∧ Hid (w2.ownsRow W0.heap.size 88 1 a n xs)) ∨ (b = .int .i64 2 ∧ Hid (w2.ownsRow W0.heap.size 88 1 a (n + m) (xs ++ ys)))) ∧ Hid (Below W0.heap.size W0 w2)) (fun _ b _ => (2 - intOf b).toNat)
      case atStart => exact ⟨.inl ⟨rfl, HO⟩, HB⟩
      case round =>
        obtain ⟨hrel, HB2⟩ := hrel
        have d0 := cell_later HB2.out HG.out.1
        have d1 := cell_later HB2.out HG.out.2
        obtain ⟨hi0, hz0, hz1, hz2⟩ := HT.out
        rcases hrel with ⟨rfl, HO2⟩ | ⟨rfl, HO2⟩ | ⟨rfl, HO2⟩
        · go_wp2_with (at_builtin; refine Stop.out ?_)
          refine Stop.go ?_
          refine wpList_app _ rfl (.tmp 31) (.tmp 32) 87 rfl W0.heap.size 88 i0 _ 1 8 Try.underlying87 hi0 hz0 hz1 hz2 rfl (by omega) _ 0 [] rfl HO2.out p n c xs rfl (HS.out.keep (Keeps.of_below HB2.out)) HX.out (by unfold maxLen; omega) (by omega) HB2.out.size ?_
          intro v3 w3 hown hg
          rw [Nat.zero_add, List.nil_append] at hown
          have HO3 := hide hown
          have HB3 := hide (HB2.out.grown hg HB2.out.size (fun k hk => (own_lt HO2.out hk).1))
          clear hown hg hi0 hz0 hz1 hz2
          go_wp2_with fail
          go_roundw
          case rel => exact ⟨.inr (.inl ⟨by simp, HO3⟩), HB3⟩
          case measure => simp [intOf]
        · go_wp2_with (at_builtin; refine Stop.out ?_)
          refine Stop.go ?_
          refine wpList_app _ rfl (.tmp 31) (.tmp 32) 87 rfl W0.heap.size 88 i0 _ 1 8 Try.underlying87 hi0 hz0 hz1 hz2 rfl (by omega) _ n xs rfl HO2.out p2 m c2 ys rfl (HS2.out.keep (Keeps.of_below HB2.out)) HY.out (by unfold maxLen; omega) (by omega) HB2.out.size ?_
          intro v3 w3 hown hg
          have HO3 := hide hown
          have HB3 := hide (HB2.out.grown hg HB2.out.size (fun k hk => (own_lt HO2.out hk).1))
          clear hown hg hi0 hz0 hz1 hz2
          go_wp2_with fail
          go_roundw
          case rel => exact ⟨.inr (.inr ⟨by simp, HO3⟩), HB3⟩
          case measure => simp [intOf]
        · go_wp2
          exact HR.out _ _ HB2.out HO2.out
end Go.Proofs.Ytihdpkeclmpehaa

namespace Go.Proofs.Ytihdpkeclmpehaa
open Go.RowKit Go.Shelf
attribute [local go_sem] Oper.semAt_some

/-- An observation with the place of its contents. -/
structure Obm where
  office : Int
  kind : Int
  time : Int
  label : ByteArray
  cp : Option Addr
  contents : List ByteArray
  cc : Nat
def Obm.ob (x : Obm) : Ob := ⟨x.office, x.kind, x.time, x.label, x.contents⟩
def encO (x : Obm) : Array Value := #[.agg #[.int .i64 0, .int .i64 0, .int .i64 x.kind, .int .i64 x.time, .string x.label, .slice x.cp x.contents.length x.cc, .int .i64 x.office]]
def Px (x : Obm) (W : World) : Prop := StrRow W x.cp x.contents ∧ x.label.size ≤ maxLen

set_option maxRecDepth 100000 in
set_option maxHeartbeats 1000000 in
theorem see_c (n : Nat) (hn : 1 ≤ n) (l B2 : Nat) (x : Obm) (W : World) (R' : World → Prop) (c2 : W.cell? ⟨B2, 0, none⟩ = some (.func (.yield l) #[] #[]))
    (hY : YieldAt Fence.wide (n - 1) Try.prog l (encO x) (W.alloc (.cells #[.int .i64 0, .int .i64 0, .int .i64 x.kind, .int .i64 x.time, .string x.label, .slice x.cp x.contents.length x.cc] 31)) fun e W' => e = .returned (.bool true) ∧ R' W') :
    Calls Try.prog 52 #[.int .i64 x.office, .int .i64 x.kind, .int .i64 x.time, .string x.label, .slice x.cp x.contents.length x.cc, .pointer (some ⟨B2, 0, none⟩)] W fun e W' => e = .returned (.bool true) ∧ R' W' := by
  refine (callsIn_wide (n := n)).1 ?_
  obtain ⟨fn, tmps, assign, body, hy, hR⟩ := hY
  refine callsIn_of_wp Try.func52 rfl trivial ?_ rfl
  simp only [Try.ntmps52, List.size_toArray, List.length_cons, List.length_nil, Nat.reduceAdd, Nat.reduceSub, Array.replicate_succ, Array.replicate_zero, List.push_toArray, List.append_toArray, List.nil_append, List.cons_append]
  unfold encO at hy
  have c2' := cell_later (balloc (Below.refl W.heap.size W) (.cells #[.int .i64 0, .int .i64 0, .int .i64 x.kind, .int .i64 x.time, .string x.label, .slice x.cp x.contents.length x.cc] 31)) c2
  gi_wp2
  refine hR.mono ?_
  rintro e W3 ⟨rfl, h3⟩
  gi_wp2
  exact bodyPost_ret (results_tmp rfl _ _ _) rfl ⟨rfl, h3⟩
theorem kpb_cell {bad : World → Nat → Prop} {A B : World} (h : Kpb bad A B) {b o : Nat} {v : Value} (hb : ¬ bad A b) (hc : A.cell? ⟨b, o, none⟩ = some v) : B.cell? ⟨b, o, none⟩ = some v := by
  rw [World.cell?_of_block (h.2 b (block_lt hc) hb).1]; exact hc
/-- What the iterator reads, and that the caller leaves it alone. -/
structure It (bad : World → Nat → Prop) (w0 : World) (B1 B2 base top gm l : Nat) (p : Option Addr) (m cap : Nat) (L : List Ct) (w : World) : Prop where
  old : ∀ k, k < w0.heap.size → w.heap[k]? = w0.heap[k]?
  sz : w0.heap.size ≤ w.heap.size
  sz2 : top ≤ w.heap.size
  c1 : w.cell? ⟨B1, 0, none⟩ = some (.slice p m cap)
  c2 : w.cell? ⟨B2, 0, none⟩ = some (.func (.yield l) #[] #[])
  cts : CtsAt w base gm L
  tp : gm < top ∧ ∀ c ∈ L, ∀ k, c.Own k → k < top
  nb : ∀ k, (k < w0.heap.size ∨ k = B1 ∨ k = B2 ∨ (base ≤ k ∧ k < top)) → ¬ bad w k
section
variable {bad : World → Nat → Prop} {w0 w w' : World} {B1 B2 base top gm l m cap : Nat} {p : Option Addr} {L : List Ct}
theorem It.kp (h : It bad w0 B1 B2 base top gm l p m cap L w) (hk : Kpb bad w w') : It bad w0 B1 B2 base top gm l p m cap L w' :=
  ⟨fun k hkl => (hk.2 k (Nat.lt_of_lt_of_le hkl h.sz) (h.nb k (.inl hkl))).1.trans (h.old k hkl), Nat.le_trans h.sz hk.1, Nat.le_trans h.sz2 hk.1, kpb_cell hk (h.nb _ (.inr (.inl rfl))) h.c1, kpb_cell hk (h.nb _ (.inr (.inr (.inl rfl)))) h.c2,
    h.cts.keep (hk.2 gm h.cts.map.lt (h.nb gm (.inr (.inr (.inr ⟨h.cts.gmb, h.tp.1⟩))))).1 (fun c hc k ho => (hk.2 k (h.cts.lt hc ho) (h.nb k (.inr (.inr (.inr ⟨(h.cts.off c hc k ho).2, h.tp.2 c hc k ho⟩))))).1),
    h.tp, fun k hkk => (hk.2 k (by
      rcases hkk with hkk | rfl | rfl | hkk
      · exact Nat.lt_of_lt_of_le hkk h.sz
      · exact block_lt h.c1
      · exact block_lt h.c2
      · exact Nat.lt_of_lt_of_le hkk.2 h.sz2) (h.nb k hkk)).2⟩
theorem It.keeps (h : It bad w0 B1 B2 base top gm l p m cap L w) : Keeps w0 w := fun a v hv => by
  rw [World.cell?_of_block (h.old a.block (World.block_lt_of_cell? w0 a hv))]; exact hv
/-- A block of the iterator's own. -/
def BN (bad : World → Nat → Prop) (w : World) (b : Nat) (cs : Array Value) (T : TypeId) : Prop := Blk w b cs T ∧ ¬ bad w b
theorem BN.kp {b : Nat} {cs : Array Value} {T : TypeId} (h : BN bad w b cs T) (hk : Kpb bad w w') : BN bad w' b cs T := ⟨h.1.same (hk.2 b h.1.lt h.2).1, (hk.2 b h.1.lt h.2).2⟩
theorem BN.cell {b : Nat} {cs : Array Value} {T : TypeId} (h : BN bad w b cs T) {k : Nat} {v : Value} (hk : cs[k]? = some v) : w.cell? ⟨b, k, none⟩ = some v := h.1.cell hk
end
end Go.Proofs.Ytihdpkeclmpehaa
