/- A row of structs of two cells that a sort works on: the words, no program's walk. -/
import Derived.Test.YtaopfoicdjejnaaBase
import Derived.Sort.Grow
set_option linter.unusedVariables false
set_option linter.unusedSimpArgs false
namespace Go.Proofs.Ytaopfoicdjejnaa
open Go.RowKit Go.Sort

theorem grownBy_grow {w0 w : World} {r : Option Nat} (h : w0.grownBy w r) (q : Nat) (os : Array Obj) : w0.grownBy (grow (w.drewN q) os) r :=
  ⟨h.os, h.tape, h.output, by rw [size_grow]; exact Nat.le_trans h.size (Nat.le_add_right _ _), fun k hk hne => by
    have h1 := h.block k hk hne
    have h2 : k < w.heap.size := Nat.lt_of_lt_of_le hk h.size
    show (w.heap ++ os)[k]? = _
    rw [Array.getElem?_append_left h2]; exact h1⟩
theorem grownBy_self_grow (w : World) (q : Nat) (os : Array Obj) : w.grownBy (grow (w.drewN q) os) none := grownBy_grow (World.grownBy.refl w none) q os

/-- The row at the head of block g holds the elements of l; since w0 nothing else has turned. -/
structure St {α : Type} (E : TypeId) (k : Nat) (enc : α → List Value) (w0 : World) (g n cap base : Nat) (l : List α) (w : World) : Prop where
  own : w.ownsRow base E k (.slice (some ⟨g, 0, none⟩) n cap) n (l.flatMap enc)
  grown : w0.grownBy w (some g)
  len : l.length = n
  lt : g < w0.heap.size

theorem flat_at {α : Type} {enc : α → List Value} {k : Nat} (hk : ∀ x, (enc x).length = k) : ∀ (l : List α) (i c : Nat) (x : α), l[i]? = some x → c < k → (l.flatMap enc)[i * k + c]? = (enc x)[c]?
  | [], i, c, x, h, _ => by simp at h
  | y :: l, 0, c, x, h, hc => by
    simp at h; subst h
    rw [List.flatMap_cons, List.getElem?_append_left (by rw [hk]; omega)]
    congr 1; omega
  | y :: l, i + 1, c, x, h, hc => by
    have := flat_at hk l i c x (by simpa using h) hc
    rw [List.flatMap_cons, List.getElem?_append_right (by rw [hk, Nat.add_mul]; omega), hk, ← this]
    congr 1; rw [Nat.add_mul]; omega
theorem flat_len {α : Type} {enc : α → List Value} {k : Nat} (hk : ∀ x, (enc x).length = k) : ∀ l : List α, (l.flatMap enc).length = l.length * k
  | [] => by simp
  | y :: l => by rw [List.flatMap_cons, List.length_append, hk, flat_len hk l, List.length_cons, Nat.add_mul]; omega

section
variable {α : Type} {E : TypeId} {k : Nat} {enc : α → List Value} {w0 w : World} {g n cap base : Nat} {l : List α}

theorem St.cell (h : St E k enc w0 g n cap base l w) (hk : ∀ x, (enc x).length = k) {i : Nat} {x : α} (hx : l[i]? = some x) (c : Nat) {v : Value} (hv : (enc x)[c]? = some v) : w.cell? ⟨g, i * k + c, none⟩ = some v := by
  have hc : c < k := by have := (List.getElem?_eq_some_iff.1 hv).1; rw [hk] at this; exact this
  have := h.own.cells (g := g) rfl (i * k + c) v (by rw [flat_at hk l i c x hx hc]; exact hv)
  rw [Addr.add_lit] at this
  simpa using this
theorem St.lt' (h : St E k enc w0 g n cap base l w) : g < w.heap.size := Nat.lt_of_lt_of_le h.lt h.grown.size
theorem St.cell_g (h : St E k enc w0 g n cap base l w) (hk : ∀ x, (enc x).length = k) {i : Nat} {x : α} (hx : l[i]? = some x) (c : Nat) {v : Value} (hv : (enc x)[c]? = some v) (q : Nat) (os : Array Obj) : (grow (w.drewN q) os).cell? ⟨g, i * k + c, none⟩ = some v := by
  rw [cell?_grow _ _ _ (by exact h.lt')]; exact h.cell hk hx c hv
theorem St.grow (h : St E k enc w0 g n cap base l w) (q : Nat) (os : Array Obj) : St E k enc w0 g n cap base l (grow (w.drewN q) os) :=
  ⟨h.own.kept (grownBy_self_grow w q os) (.inr (by simp [Value.ownBlock])), grownBy_grow h.grown q os, h.len, h.lt⟩
theorem St.drewN (h : St E k enc w0 g n cap base l w) (q : Nat) : St E k enc w0 g n cap base l (w.drewN q) := by
  have := h.grow q #[]
  rwa [grow_empty] at this
theorem St.drew (h : St E k enc w0 g n cap base l w) : St E k enc w0 g n cap base l w.drew :=
  ⟨h.own.drew, grownBy_drew h.grown, h.len, h.lt⟩
end

/-- An interface value. -/
def Ifc (v : Value) : Prop := ∃ t p, v = .iface t p
theorem Ifc.one {v : Value} (h : Ifc v) : v.oneCell' = true := by obtain ⟨t, p, rfl⟩ := h; rfl
/-- Setting the cells of one element. -/
def setE (xs : List Value) (o : Nat) : List Value → List Value
  | [] => xs
  | v :: vs => setE (xs.set o v) (o + 1) vs
theorem setE_eq : ∀ (vs xs : List Value) (o : Nat), o + vs.length ≤ xs.length → setE xs o vs = xs.take o ++ vs ++ xs.drop (o + vs.length)
  | [], xs, o, _ => by simp [setE]
  | v :: vs, xs, o, h => by
    simp only [List.length_cons] at h
    rw [setE, setE_eq vs (xs.set o v) (o + 1) (by simp; omega)]
    rw [List.take_set, List.drop_set, if_pos (by omega)]
    have e1 : (xs.take (o + 1)).set o v = xs.take o ++ [v] := by
      rw [List.take_add_one, List.set_append_right _ _ (by rw [List.length_take]; omega)]
      rw [List.length_take, Nat.min_eq_left (by omega), Nat.sub_self]
      rw [List.getElem?_eq_getElem (show o < xs.length by omega)]
      rfl
    rw [e1, List.length_cons]
    simp [Nat.add_assoc, Nat.add_comm 1]
theorem flat_set {α : Type} {enc : α → List Value} {k : Nat} (hk : ∀ x, (enc x).length = k) (l : List α) (i : Nat) (x : α) (hi : i < l.length) : setE (l.flatMap enc) (i * k) (enc x) = (l.set i x).flatMap enc := by
  have hl := flat_len hk l
  have hb : i * k + k ≤ l.length * k := by
    have := Nat.mul_le_mul_right k (show i + 1 ≤ l.length from hi); rwa [Nat.add_mul, Nat.one_mul] at this
  rw [setE_eq _ _ _ (by rw [hk, hl]; exact hb), hk]
  have e : l = l.take i ++ l[i] :: l.drop (i + 1) := by rw [← List.drop_eq_getElem_cons hi, List.take_append_drop]
  have hti : (l.take i).length = i := by rw [List.length_take]; omega
  have e2 : l.set i x = l.take i ++ x :: l.drop (i + 1) := by
    rw [List.set_eq_take_append_cons_drop, if_pos hi]
  have e3 : l.flatMap enc = (l.take i).flatMap enc ++ (enc l[i] ++ (l.drop (i + 1)).flatMap enc) := by
    conv => lhs; rw [e]
    rw [List.flatMap_append, List.flatMap_cons]
  have ht : ((l.take i).flatMap enc).length = i * k := by rw [flat_len hk, hti]
  rw [e2, List.flatMap_append, List.flatMap_cons, e3]
  rw [List.take_left' ht, List.drop_append, ht, List.drop_of_length_le (by rw [ht]; omega), Nat.add_sub_cancel_left, List.drop_left' (hk _), List.append_assoc]
  rfl

theorem st_run {P : Program} {v : Value} (h : v.oneCell' = true) : ∀ (W : World) (a : Addr), (W.cell? a).isSome = true → W.frozen? a = false → Sem.run P (store a v) W = .ok () (W.setCell a v) := fun W a h1 h2 => by
  rw [run_store P W a v .plain h]
  obtain ⟨u, hu⟩ := Option.isSome_iff_exists.1 h1
  rw [hu, h2]
  rfl
/-- The stores of one element's cells. -/
def setW (w : World) (g o : Nat) : List Value → World
  | [] => w
  | v :: vs => setW (w.setCell ⟨g, o, none⟩ v) g (o + 1) vs
section
variable {α : Type} {E : TypeId} {k : Nat} {enc : α → List Value} {w0 : World} {g n cap base : Nat} {l : List α}
theorem own_setW : ∀ (vs xs : List Value) (o : Nat) (w : World), w.ownsRow base E k (.slice (some ⟨g, 0, none⟩) n cap) n xs → (setW w g o vs).ownsRow base E k (.slice (some ⟨g, 0, none⟩) n cap) n (setE xs o vs)
  | [], xs, o, w, h => h
  | v :: vs, xs, o, w, h => own_setW vs _ _ _ (h.stored o v).1
theorem grownBy_setW : ∀ (vs : List Value) (o : Nat) (w : World), w0.grownBy w (some g) → w0.grownBy (setW w g o vs) (some g)
  | [], o, w, h => h
  | v :: vs, o, w, h => grownBy_setW vs _ _ (grownBy_set h o v)
theorem St.put {w : World} (h : St E k enc w0 g n cap base l w) (hk : ∀ x, (enc x).length = k) (i : Nat) (x : α) (hi : i < n) : St E k enc w0 g n cap base (l.set i x) (setW w g (i * k) (enc x)) := by
  refine ⟨?_, grownBy_setW _ _ _ h.grown, by rw [List.length_set]; exact h.len, h.lt⟩
  rw [← flat_set hk l i x (by rw [h.len]; exact hi)]
  exact own_setW _ _ _ _ h.own
end

/-- The strict order of a stable sort: by key, then by the place that the element had. -/
def LtT {α : Type} (key : α → Int) (tag : α → Nat) (x y : α) : Prop := key x < key y ∨ (key x = key y ∧ tag x < tag y)
theorem LtT.trans {α : Type} {key : α → Int} {tag : α → Nat} {x y z : α} (h : LtT key tag x y) (k : LtT key tag y z) : LtT key tag x z := by unfold LtT at *; omega
theorem LtT.asymm {α : Type} {key : α → Int} {tag : α → Nat} {x y : α} (h : LtT key tag x y) : ¬ LtT key tag y x := by unfold LtT at *; omega
theorem LtT.of_key {α : Type} {key : α → Int} {tag : α → Nat} {x y : α} (h : key x < key y) : LtT key tag x y := .inl h
theorem LtT.of_tag {α : Type} {key : α → Int} {tag : α → Nat} {x y : α} (h : ¬ key y < key x) (k : tag x < tag y) : LtT key tag x y := by unfold LtT; omega
/-- Sorted by that order. -/
def Srt {α : Type} (key : α → Int) (tag : α → Nat) (l : List α) : Prop := l.Pairwise (LtT key tag)

section
variable {α : Type} {key : α → Int} {tag : α → Nat}
theorem Srt.insert {P S : List α} {x : α} (h : Srt key tag (P ++ S)) (h1 : ∀ p ∈ P, LtT key tag p x) (h2 : ∀ s ∈ S, LtT key tag x s) : Srt key tag (P ++ x :: S) := by
  unfold Srt at *
  rw [List.pairwise_append] at h ⊢
  refine ⟨h.1, List.pairwise_cons.2 ⟨h2, h.2.1⟩, fun p hp s hs => ?_⟩
  rcases List.mem_cons.1 hs with rfl | hs
  · exact h1 p hp
  · exact h.2.2 p hp s hs
theorem Srt.below_last {P S : List α} {p x : α} (h : Srt key tag (P ++ [p] ++ S)) (hp : LtT key tag p x) : ∀ q ∈ P ++ [p], LtT key tag q x := by
  unfold Srt at h
  rw [List.pairwise_append, List.pairwise_append] at h
  intro q hq
  rcases List.mem_append.1 hq with hq | hq
  · exact (h.1.2.2 q hq p (by simp)).trans hp
  · rw [List.mem_singleton.1 hq]; exact hp
theorem Srt.key_le {l : List α} (h : Srt key tag l) {t u : Nat} {x y : α} (hx : l[t]? = some x) (hy : l[u]? = some y) (htu : t ≤ u) : key x ≤ key y := by
  obtain ⟨h1, h2⟩ := List.getElem?_eq_some_iff.1 hx
  obtain ⟨h3, h4⟩ := List.getElem?_eq_some_iff.1 hy
  rcases Nat.lt_or_ge t u with hlt | hge
  · have := (List.pairwise_iff_getElem.1 h) t u h1 h3 hlt
    rw [h2, h4] at this
    unfold LtT at this
    omega
  · have : t = u := by omega
    subst this
    rw [hx] at hy; injection hy with hy
    subst hy; exact Int.le_refl _
end
theorem at_left {β : Type} (A X Y B : List β) (i : Nat) (h : i < X.length) : (A ++ X ++ Y ++ B)[A.length + i]? = X[i]? := by
  rw [List.append_assoc, List.append_assoc, List.getElem?_append_right (by omega), List.getElem?_append_left (by omega)]
  congr 1; omega
theorem at_right {β : Type} (A X Y B : List β) (i : Nat) (h : i < Y.length) : (A ++ X ++ Y ++ B)[A.length + X.length + i]? = Y[i]? := by
  rw [List.append_assoc, List.append_assoc, List.getElem?_append_right (by omega), List.getElem?_append_right (by omega), List.getElem?_append_left (by omega)]
  congr 1; omega

end Go.Proofs.Ytaopfoicdjejnaa
