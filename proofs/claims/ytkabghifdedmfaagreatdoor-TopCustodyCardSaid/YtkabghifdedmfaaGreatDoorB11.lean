/- A row of structs of two cells that a sort works on: the words, no program's walk. Plain: a stable sort's result is the one. -/
import Derived.Test.YtkabghifdedmfaaGreatDoorB2
import Derived.Sort.Grow
import Derived.Test.YtkabghifdedmfaaGreatDoorB9
import Derived.Test.YtkabghifdedmfaaGreatDoorChecked
import Derived.Shelf.SlSortCmp.QuietGrown
import Derived.BigRegion
import Derived.IntWalk
set_option linter.unusedVariables false
set_option linter.unusedSimpArgs false
namespace Go.Proofs.YtkabghifdedmfaaGreatDoor
open Go.RowKit Go.Sort

theorem grownBy_grow {w0 w : World} {r : Option Nat} (h : w0.grownBy w r) (q : Nat) (os : Array Obj) : w0.grownBy (grow (w.drewN q) os) r :=
  ⟨h.os, h.tape, h.output, by rw [size_grow]; exact Nat.le_trans h.size (Nat.le_add_right _ _), fun k hk hne => by
    have h1 := h.block k hk hne
    have h2 : k < w.heap.size := Nat.lt_of_lt_of_le hk h.size
    show (w.heap ++ os)[k]? = _
    rw [Array.getElem?_append_left h2]; exact h1⟩
theorem grownBy_self_grow (w : World) (q : Nat) (os : Array Obj) : w.grownBy (grow (w.drewN q) os) none := grownBy_grow (World.grownBy.refl w none) q os

/-- The row at the head of block g holds the elements of l; since w0 nothing else has turned. -/
structure St {α : Type} (E : TypeId) (k : Nat) (enc : α → List Value) (w0 : World) (g n cap base : Nat) (l : List α) (w : World) : Prop where
  own : w.ownsRow base E k (.slice (some ⟨g, 0, none⟩) n cap) n (l.flatMap enc)
  grown : w0.grownBy w (some g)
  len : l.length = n
  lt : g < w0.heap.size

theorem flat_at {α : Type} {enc : α → List Value} {k : Nat} (hk : ∀ x, (enc x).length = k) : ∀ (l : List α) (i c : Nat) (x : α), l[i]? = some x → c < k → (l.flatMap enc)[i * k + c]? = (enc x)[c]?
  | [], i, c, x, h, _ => by simp at h
  | y :: l, 0, c, x, h, hc => by
    simp at h; subst h
    rw [List.flatMap_cons, List.getElem?_append_left (by rw [hk]; omega)]
    congr 1; omega
  | y :: l, i + 1, c, x, h, hc => by
    have := flat_at hk l i c x (by simpa using h) hc
    rw [List.flatMap_cons, List.getElem?_append_right (by rw [hk, Nat.add_mul]; omega), hk, ← this]
    congr 1; rw [Nat.add_mul]; omega
theorem flat_len {α : Type} {enc : α → List Value} {k : Nat} (hk : ∀ x, (enc x).length = k) : ∀ l : List α, (l.flatMap enc).length = l.length * k
  | [] => by simp
  | y :: l => by rw [List.flatMap_cons, List.length_append, hk, flat_len hk l, List.length_cons, Nat.add_mul]; omega

section
variable {α : Type} {E : TypeId} {k : Nat} {enc : α → List Value} {w0 w : World} {g n cap base : Nat} {l : List α}

theorem St.cell (h : St E k enc w0 g n cap base l w) (hk : ∀ x, (enc x).length = k) {i : Nat} {x : α} (hx : l[i]? = some x) (c : Nat) {v : Value} (hv : (enc x)[c]? = some v) : w.cell? ⟨g, i * k + c, none⟩ = some v := by
  have hc : c < k := by have := (List.getElem?_eq_some_iff.1 hv).1; rw [hk] at this; exact this
  have := h.own.cells (g := g) rfl (i * k + c) v (by rw [flat_at hk l i c x hx hc]; exact hv)
  rw [Addr.add_lit] at this
  simpa using this
theorem St.lt' (h : St E k enc w0 g n cap base l w) : g < w.heap.size := Nat.lt_of_lt_of_le h.lt h.grown.size
theorem St.cell_g (h : St E k enc w0 g n cap base l w) (hk : ∀ x, (enc x).length = k) {i : Nat} {x : α} (hx : l[i]? = some x) (c : Nat) {v : Value} (hv : (enc x)[c]? = some v) (q : Nat) (os : Array Obj) : (grow (w.drewN q) os).cell? ⟨g, i * k + c, none⟩ = some v := by
  rw [cell?_grow _ _ _ (by exact h.lt')]; exact h.cell hk hx c hv
theorem St.grow (h : St E k enc w0 g n cap base l w) (q : Nat) (os : Array Obj) : St E k enc w0 g n cap base l (grow (w.drewN q) os) :=
  ⟨h.own.kept (grownBy_self_grow w q os) (.inr (by simp [Value.ownBlock])), grownBy_grow h.grown q os, h.len, h.lt⟩
theorem St.drewN (h : St E k enc w0 g n cap base l w) (q : Nat) : St E k enc w0 g n cap base l (w.drewN q) := by
  have := h.grow q #[]
  rwa [grow_empty] at this
theorem St.drew (h : St E k enc w0 g n cap base l w) : St E k enc w0 g n cap base l w.drew :=
  ⟨h.own.drew, grownBy_drew h.grown, h.len, h.lt⟩
end

/-- Setting the cells of one element. -/
def setE (xs : List Value) (o : Nat) : List Value → List Value
  | [] => xs
  | v :: vs => setE (xs.set o v) (o + 1) vs
theorem setE_eq : ∀ (vs xs : List Value) (o : Nat), o + vs.length ≤ xs.length → setE xs o vs = xs.take o ++ vs ++ xs.drop (o + vs.length)
  | [], xs, o, _ => by simp [setE]
  | v :: vs, xs, o, h => by
    simp only [List.length_cons] at h
    rw [setE, setE_eq vs (xs.set o v) (o + 1) (by simp; omega)]
    rw [List.take_set, List.drop_set, if_pos (by omega)]
    have e1 : (xs.take (o + 1)).set o v = xs.take o ++ [v] := by
      rw [List.take_add_one, List.set_append_right _ _ (by rw [List.length_take]; omega)]
      rw [List.length_take, Nat.min_eq_left (by omega), Nat.sub_self]
      rw [List.getElem?_eq_getElem (show o < xs.length by omega)]
      rfl
    rw [e1, List.length_cons]
    simp [Nat.add_assoc, Nat.add_comm 1]
theorem flat_set {α : Type} {enc : α → List Value} {k : Nat} (hk : ∀ x, (enc x).length = k) (l : List α) (i : Nat) (x : α) (hi : i < l.length) : setE (l.flatMap enc) (i * k) (enc x) = (l.set i x).flatMap enc := by
  have hl := flat_len hk l
  have hb : i * k + k ≤ l.length * k := by
    have := Nat.mul_le_mul_right k (show i + 1 ≤ l.length from hi); rwa [Nat.add_mul, Nat.one_mul] at this
  rw [setE_eq _ _ _ (by rw [hk, hl]; exact hb), hk]
  have e : l = l.take i ++ l[i] :: l.drop (i + 1) := by rw [← List.drop_eq_getElem_cons hi, List.take_append_drop]
  have hti : (l.take i).length = i := by rw [List.length_take]; omega
  have e2 : l.set i x = l.take i ++ x :: l.drop (i + 1) := by
    rw [List.set_eq_take_append_cons_drop, if_pos hi]
  have e3 : l.flatMap enc = (l.take i).flatMap enc ++ (enc l[i] ++ (l.drop (i + 1)).flatMap enc) := by
    conv => lhs; rw [e]
    rw [List.flatMap_append, List.flatMap_cons]
  have ht : ((l.take i).flatMap enc).length = i * k := by rw [flat_len hk, hti]
  rw [e2, List.flatMap_append, List.flatMap_cons, e3]
  rw [List.take_left' ht, List.drop_append, ht, List.drop_of_length_le (by rw [ht]; omega), Nat.add_sub_cancel_left, List.drop_left' (hk _), List.append_assoc]
  rfl

theorem st_run {P : Program} {v : Value} (h : v.oneCell' = true) : ∀ (W : World) (a : Addr), (W.cell? a).isSome = true → W.frozen? a = false → Sem.run P (store a v) W = .ok () (W.setCell a v) := fun W a h1 h2 => by
  rw [run_store P W a v .plain h]
  obtain ⟨u, hu⟩ := Option.isSome_iff_exists.1 h1
  rw [hu, h2]
  rfl
/-- The stores of one element's cells. -/
def setW (w : World) (g o : Nat) : List Value → World
  | [] => w
  | v :: vs => setW (w.setCell ⟨g, o, none⟩ v) g (o + 1) vs
section
variable {α : Type} {E : TypeId} {k : Nat} {enc : α → List Value} {w0 : World} {g n cap base : Nat} {l : List α}
theorem own_setW : ∀ (vs xs : List Value) (o : Nat) (w : World), w.ownsRow base E k (.slice (some ⟨g, 0, none⟩) n cap) n xs → (setW w g o vs).ownsRow base E k (.slice (some ⟨g, 0, none⟩) n cap) n (setE xs o vs)
  | [], xs, o, w, h => h
  | v :: vs, xs, o, w, h => own_setW vs _ _ _ (h.stored o v).1
theorem grownBy_setW : ∀ (vs : List Value) (o : Nat) (w : World), w0.grownBy w (some g) → w0.grownBy (setW w g o vs) (some g)
  | [], o, w, h => h
  | v :: vs, o, w, h => grownBy_setW vs _ _ (grownBy_set h o v)
theorem St.put {w : World} (h : St E k enc w0 g n cap base l w) (hk : ∀ x, (enc x).length = k) (i : Nat) (x : α) (hi : i < n) : St E k enc w0 g n cap base (l.set i x) (setW w g (i * k) (enc x)) := by
  refine ⟨?_, grownBy_setW _ _ _ h.grown, by rw [List.length_set]; exact h.len, h.lt⟩
  rw [← flat_set hk l i x (by rw [h.len]; exact hi)]
  exact own_setW _ _ _ _ h.own
end

/-- The strict order of a stable sort: by key, then by the place that the element had. -/
def LtT {α : Type} (key : α → Int) (tag : α → Nat) (x y : α) : Prop := key x < key y ∨ (key x = key y ∧ tag x < tag y)
theorem LtT.trans {α : Type} {key : α → Int} {tag : α → Nat} {x y z : α} (h : LtT key tag x y) (k : LtT key tag y z) : LtT key tag x z := by unfold LtT at *; omega
theorem LtT.asymm {α : Type} {key : α → Int} {tag : α → Nat} {x y : α} (h : LtT key tag x y) : ¬ LtT key tag y x := by unfold LtT at *; omega
theorem LtT.of_key {α : Type} {key : α → Int} {tag : α → Nat} {x y : α} (h : key x < key y) : LtT key tag x y := .inl h
theorem LtT.of_tag {α : Type} {key : α → Int} {tag : α → Nat} {x y : α} (h : ¬ key y < key x) (k : tag x < tag y) : LtT key tag x y := by unfold LtT; omega
/-- Sorted by that order. -/
def Srt {α : Type} (key : α → Int) (tag : α → Nat) (l : List α) : Prop := l.Pairwise (LtT key tag)

section
variable {α : Type} {key : α → Int} {tag : α → Nat}
theorem Srt.insert {P S : List α} {x : α} (h : Srt key tag (P ++ S)) (h1 : ∀ p ∈ P, LtT key tag p x) (h2 : ∀ s ∈ S, LtT key tag x s) : Srt key tag (P ++ x :: S) := by
  unfold Srt at *
  rw [List.pairwise_append] at h ⊢
  refine ⟨h.1, List.pairwise_cons.2 ⟨h2, h.2.1⟩, fun p hp s hs => ?_⟩
  rcases List.mem_cons.1 hs with rfl | hs
  · exact h1 p hp
  · exact h.2.2 p hp s hs
theorem Srt.below_last {P S : List α} {p x : α} (h : Srt key tag (P ++ [p] ++ S)) (hp : LtT key tag p x) : ∀ q ∈ P ++ [p], LtT key tag q x := by
  unfold Srt at h
  rw [List.pairwise_append, List.pairwise_append] at h
  intro q hq
  rcases List.mem_append.1 hq with hq | hq
  · exact (h.1.2.2 q hq p (by simp)).trans hp
  · rw [List.mem_singleton.1 hq]; exact hp
theorem Srt.key_le {l : List α} (h : Srt key tag l) {t u : Nat} {x y : α} (hx : l[t]? = some x) (hy : l[u]? = some y) (htu : t ≤ u) : key x ≤ key y := by
  obtain ⟨h1, h2⟩ := List.getElem?_eq_some_iff.1 hx
  obtain ⟨h3, h4⟩ := List.getElem?_eq_some_iff.1 hy
  rcases Nat.lt_or_ge t u with hlt | hge
  · have := (List.pairwise_iff_getElem.1 h) t u h1 h3 hlt
    rw [h2, h4] at this
    unfold LtT at this
    omega
  · have : t = u := by omega
    subst this
    rw [hx] at hy; injection hy with hy
    subst hy; exact Int.le_refl _
end
theorem at_left {β : Type} (A X Y B : List β) (i : Nat) (h : i < X.length) : (A ++ X ++ Y ++ B)[A.length + i]? = X[i]? := by
  rw [List.append_assoc, List.append_assoc, List.getElem?_append_right (by omega), List.getElem?_append_left (by omega)]
  congr 1; omega
theorem at_right {β : Type} (A X Y B : List β) (i : Nat) (h : i < Y.length) : (A ++ X ++ Y ++ B)[A.length + X.length + i]? = Y[i]? := by
  rw [List.append_assoc, List.append_assoc, List.getElem?_append_right (by omega), List.getElem?_append_right (by omega), List.getElem?_append_left (by omega)]
  congr 1; omega

end Go.Proofs.YtkabghifdedmfaaGreatDoor

namespace Go.Proofs.YtkabghifdedmfaaGreatDoor

section
variable {α β : Type}
theorem insK_perm (key : α → Int) (x : α) : ∀ l : List α, (insK key x l).Perm (x :: l)
  | [] => List.Perm.refl _
  | y :: l => by
    rw [insK]
    split
    · exact List.Perm.refl _
    · exact ((insK_perm key x l).cons y).trans (List.Perm.swap x y l)
theorem sortK_perm (key : α → Int) : ∀ l : List α, (sortK key l).Perm l
  | [] => List.Perm.refl _
  | x :: l => (insK_perm key x _).trans ((sortK_perm key l).cons x)
theorem insK_map (key : β → Int) (f : α → β) (x : α) : ∀ l : List α, (insK (fun a => key (f a)) x l).map f = insK key (f x) (l.map f)
  | [] => rfl
  | y :: l => by
    rw [insK, List.map_cons, insK]
    split
    · rfl
    · rw [List.map_cons, insK_map key f x l]
theorem sortK_map (key : β → Int) (f : α → β) : ∀ l : List α, (sortK (fun a => key (f a)) l).map f = sortK key (l.map f)
  | [] => rfl
  | x :: l => by rw [sortK, insK_map, sortK_map key f l]; rfl
theorem insK_srt {key : α → Int} {tag : α → Nat} {x : α} : ∀ {l : List α}, Srt key tag l → (∀ y ∈ l, tag x < tag y) → Srt key tag (insK key x l)
  | [], _, _ => List.pairwise_singleton _ _
  | y :: l, h, ht => by
    rw [insK]
    have h2 := List.pairwise_cons.1 h
    split
    · rename_i hle
      refine List.pairwise_cons.2 ⟨fun z hz => ?_, h⟩
      have hyz : key y ≤ key z := by
        rcases List.mem_cons.1 hz with rfl | hz
        · exact Int.le_refl _
        · have := h2.1 z hz; unfold LtT at this; omega
      have := ht z hz
      unfold LtT; omega
    · rename_i hle
      refine List.pairwise_cons.2 ⟨fun z hz => ?_, insK_srt h2.2 (fun z hz => ht z (List.mem_cons_of_mem _ hz))⟩
      rcases List.mem_cons.1 ((insK_perm key x l).mem_iff.1 hz) with rfl | hz
      · exact .inl (by omega)
      · exact h2.1 z hz
theorem sortK_srt {key : α → Int} {tag : α → Nat} : ∀ {l : List α}, l.Pairwise (fun x y => tag x < tag y) → Srt key tag (sortK key l)
  | [], _ => List.Pairwise.nil
  | x :: l, h => by
    rw [sortK]
    have h2 := List.pairwise_cons.1 h
    exact insK_srt (sortK_srt h2.2) (fun y hy => h2.1 y ((sortK_perm key l).mem_iff.1 hy))
theorem zip_tag (l : List α) : ∀ k, (l.zipIdx k).Pairwise (fun x y => x.2 < y.2) := by
  induction l with
  | nil => intro k; exact List.Pairwise.nil
  | cons x l ih =>
    intro k
    rw [List.zipIdx_cons]
    refine List.pairwise_cons.2 ⟨fun y hy => ?_, ih (k + 1)⟩
    have := List.le_snd_of_mem_zipIdx hy
    show k < y.2
    omega
/-- What a stable sort hands back. -/
theorem srt_is {key : α → Int} {l : List α} {M : List (α × Nat)} (hp : M.Perm l.zipIdx) (hs : Srt (fun x : α × Nat => key x.1) (fun x => x.2) M) : M.map (·.1) = sortK key l := by
  have h1 : Srt (fun x : α × Nat => key x.1) (fun x => x.2) (sortK (fun x : α × Nat => key x.1) l.zipIdx) := sortK_srt (zip_tag l 0)
  have h2 : M = sortK (fun x : α × Nat => key x.1) l.zipIdx := (hp.trans (sortK_perm _ _).symm).eq_of_pairwise (le := LtT (fun x : α × Nat => key x.1) (fun x => x.2)) (fun a b _ _ h1 h2 => absurd h2 h1.asymm) hs h1
  rw [h2]
  exact (sortK_map key (fun x : α × Nat => x.1) l.zipIdx).trans (by rw [List.zipIdx_map_fst])
theorem sortK_sorted (key : α → Int) : ∀ l : List α, (sortK key l).Pairwise (fun x y => key x ≤ key y)
  | [] => List.Pairwise.nil
  | x :: l => ins_sorted key x (sortK_sorted key l)
where
  ins_sorted (key : α → Int) (x : α) : ∀ {l : List α}, l.Pairwise (fun x y => key x ≤ key y) → (insK key x l).Pairwise (fun x y => key x ≤ key y)
    | [], _ => List.pairwise_singleton _ _
    | y :: l, h => by
      rw [insK]
      have h2 := List.pairwise_cons.1 h
      split
      · rename_i hle
        refine List.pairwise_cons.2 ⟨fun z hz => ?_, h⟩
        rcases List.mem_cons.1 hz with rfl | hz
        · exact hle
        · have := h2.1 z hz; omega
      · refine List.pairwise_cons.2 ⟨fun z hz => ?_, ins_sorted key x h2.2⟩
        rcases List.mem_cons.1 ((insK_perm key x l).mem_iff.1 hz) with rfl | hz
        · omega
        · exact h2.1 z hz
end
end Go.Proofs.YtkabghifdedmfaaGreatDoor

namespace Go.Proofs.YtkabghifdedmfaaGreatDoor
open Go.RowKit Go.Sort

section
variable {α : Type} {c0 c1 c2 c3 c4 c5 : α → Value}
/-- One exchange in a list, spelled by its parts. -/
theorem swap_parts {β : Type} (P Q S : List β) (x y : β) : ((P ++ x :: Q ++ y :: S).set P.length y).set (P.length + 1 + Q.length) x = P ++ y :: Q ++ x :: S := by
  rw [List.append_assoc, List.set_append_right _ _ (Nat.le_refl _), Nat.sub_self]
  simp only [List.cons_append, List.set_cons_zero]
  rw [List.set_append_right _ _ (by omega), show P.length + 1 + Q.length - P.length = Q.length + 1 by omega, List.set_cons_succ, List.set_append_right _ _ (Nat.le_refl _), Nat.sub_self]
  simp
theorem at_parts {β : Type} (P Q S : List β) (x y : β) : (P ++ x :: Q ++ y :: S)[P.length]? = some x ∧ (P ++ x :: Q ++ y :: S)[P.length + 1 + Q.length]? = some y := by
  constructor
  · rw [List.append_assoc, List.getElem?_append_right (Nat.le_refl _)]; simp
  · rw [List.append_assoc, List.getElem?_append_right (by omega), show P.length + 1 + Q.length - P.length = Q.length + 1 by omega, List.cons_append, List.getElem?_cons_succ, List.getElem?_append_right (Nat.le_refl _)]; simp

set_option maxHeartbeats 4000000 in
set_option maxRecDepth 100000 in
theorem swapRange_c (h0 : ∀ x, (c0 x).oneCell' = true) (h1 : ∀ x, (c1 x).oneCell' = true) (hcell2 : ∀ x, (c2 x).oneCell' = true) (hcell3 : ∀ x, (c3 x).oneCell' = true) (hcell4 : ∀ x, (c4 x).oneCell' = true) (hcell5 : ∀ x, (c5 x).oneCell' = true) (g n cap base : Nat) (fv : Value) (A U M V B : List α) (a b m : Nat) (w0 w : World) (R) (hn : n ≤ 1000000)
    (S : St 32 6 (fun x => [c0 x, c1 x, c2 x, c3 x, c4 x, c5 x]) w0 g n cap base (A ++ U ++ M ++ V ++ B) w) (ha : A.length = a) (hb : (A ++ U ++ M).length = b) (hu : U.length = m) (hv : V.length = m)
    (hR : ∀ w', St 32 6 (fun x => [c0 x, c1 x, c2 x, c3 x, c4 x, c5 x]) w0 g n cap base (A ++ V ++ M ++ U ++ B) w' → R (.returned (.tuple #[])) w') :
    Calls Tryz.prog 164 #[.slice (some ⟨g, 0, none⟩) n cap, .int .i64 a, .int .i64 b, .int .i64 m, fv] w R := by
  have HR := hide hR; have HS := hide S; have HA := hide ha; have HB := hide hb; have HU := hide hu; have HV := hide hv
  have hlen := S.len
  have hbb : a + m ≤ b ∧ b + m ≤ n := by simp at hlen hb; omega
  clear hR S ha hb hu hv hlen
  go_enter Tryz.func164, Tryz.ntmps164
  go_wp2
  go_loopw [10] (fun i wr => ∃ U1 U2 V1 V2 : List α, Hid (U = U1 ++ U2 ∧ V = V1 ++ V2 ∧ U1.length = V1.length ∧ V1.length ≤ m) ∧ i = .int .i64 (V1.length : Int) ∧ Hid (St 32 6 (fun x => [c0 x, c1 x, c2 x, c3 x, c4 x, c5 x]) w0 g n cap base (A ++ V1 ++ U2 ++ M ++ U1 ++ V2 ++ B) wr)) (fun i _ => m - (intOf i).toNat)
  case atStart => exact ⟨[], U, [], V, hide ⟨rfl, rfl, rfl, Nat.zero_le _⟩, rfl, hide (by simpa using HS.out)⟩
  case round =>
    clear HS
    obtain ⟨U1, U2, V1, V2, hp, rfl, HS⟩ := hrel
    by_cases hlt : V1.length < m
    · obtain ⟨x, U3, rfl⟩ : ∃ x U3, U2 = x :: U3 := by
        cases U2 with
        | nil => have := hp.out.1; have := HU.out; have := hp.out.2.2.1; simp_all
        | cons x U3 => exact ⟨x, U3, rfl⟩
      obtain ⟨y, V3, rfl⟩ : ∃ y V3, V2 = y :: V3 := by
        cases V2 with
        | nil => have := hp.out.2.1; have := HV.out; simp_all
        | cons y V3 => exact ⟨y, V3, rfl⟩
      have hl1 : (A ++ V1).length = a + V1.length := by have := HA.out; simp; omega
      have hl2 : (A ++ V1).length + 1 + (U3 ++ M ++ U1).length = b + V1.length := by
        have e1 := HA.out; have e2 := HB.out; have e3 := hp.out; have e4 := HU.out
        rw [e3.1] at e4 e2
        simp at e2 e4 ⊢
        omega
      have S1 := HS.out
      rw [show A ++ V1 ++ x :: U3 ++ M ++ U1 ++ y :: V3 ++ B = (A ++ V1) ++ x :: (U3 ++ M ++ U1) ++ y :: (V3 ++ B) by simp] at S1
      obtain ⟨p1, p2⟩ := at_parts (A ++ V1) (U3 ++ M ++ U1) (V3 ++ B) x y
      have hs := swap_parts (A ++ V1) (U3 ++ M ++ U1) (V3 ++ B) x y
      rw [hl2] at p2 hs
      rw [hl1] at p1 hs
      have hk : ∀ x : α, [c0 x, c1 x, c2 x, c3 x, c4 x, c5 x].length = 6 := fun _ => rfl
      have S2 := ((S1.put hk (a + V1.length) y (by omega)).put hk (b + V1.length) x (by omega)).drew
      rw [hs] at S2
      have f0 := S1.cell hk p1 0 rfl
      have f1 := S1.cell hk p1 1 rfl
      have f2 := S1.cell hk p1 2 rfl
      have f3 := S1.cell hk p1 3 rfl
      have f4 := S1.cell hk p1 4 rfl
      have f5 := S1.cell hk p1 5 rfl
      have f6 := S1.cell hk p2 0 rfl
      have f7 := S1.cell hk p2 1 rfl
      have f8 := S1.cell hk p2 2 rfl
      have f9 := S1.cell hk p2 3 rfl
      have f10 := S1.cell hk p2 4 rfl
      have f11 := S1.cell hk p2 5 rfl
      have fz := fun j => S1.own.frozenAt j
      have S3 := hide S2
      have Hh0 := hide h0
      have Hh1 := hide h1
      have Hh2 := hide hcell2
      have Hh3 := hide hcell3
      have Hh4 := hide hcell4
      have Hh5 := hide hcell5
      have z0 := st_run (P := Tryz.prog) (h0 x); have z1 := st_run (P := Tryz.prog) (h1 x); have z2 := st_run (P := Tryz.prog) (hcell2 x); have z3 := st_run (P := Tryz.prog) (hcell3 x); have z4 := st_run (P := Tryz.prog) (hcell4 x); have z5 := st_run (P := Tryz.prog) (hcell5 x); have z6 := st_run (P := Tryz.prog) (h0 y); have z7 := st_run (P := Tryz.prog) (h1 y); have z8 := st_run (P := Tryz.prog) (hcell2 y); have z9 := st_run (P := Tryz.prog) (hcell3 y); have z10 := st_run (P := Tryz.prog) (hcell4 y); have z11 := st_run (P := Tryz.prog) (hcell5 y)
      clear S1 S2 hs p1 p2 HS hl1 hl2 h0 h1 hcell2 hcell3 hcell4 hcell5
      obtain ⟨i, hi⟩ : ∃ i, i = V1.length := ⟨_, rfl⟩
      rw [← hi] at f0 f1 f2 f3 f4 f5 f6 f7 f8 f9 f10 f11 hlt ⊢
      have Hi := hide hi
      clear hi
      generalize c0 x = x0 at *
      generalize c1 x = x1 at *
      generalize c2 x = x2 at *
      generalize c3 x = x3 at *
      generalize c4 x = x4 at *
      generalize c5 x = x5 at *
      generalize c0 y = y0 at *
      generalize c1 y = y1 at *
      generalize c2 y = y2 at *
      generalize c3 y = y3 at *
      generalize c4 y = y4 at *
      generalize c5 y = y5 at *
      rw [Nat.add_zero] at f0 f6
      go_wp2
      go_region
      all_goals go_wp2
      clear z0 z1 z2 z3 z4 z5 z6 z7 z8 z9 z10 z11 f0 f1 f2 f3 f4 f5 f6 f7 f8 f9 f10 f11 fz
      go_roundw
      case rel =>
        refine ⟨U1 ++ [x], U3, V1 ++ [y], V3, hide ?_, ?_, hide ?_⟩
        · have := hp.out
          have h2 := Hi.out
          refine ⟨by rw [this.1]; simp, by rw [this.2.1]; simp, by simp; omega, by simp; omega⟩
        · rw [List.length_append]; have := Hi.out; simp; omega
        · have h3 := S3.out
          rw [← Hi.out] at h3
          rw [show A ++ (V1 ++ [y]) ++ U3 ++ M ++ (U1 ++ [x]) ++ V3 ++ B = (A ++ V1) ++ y :: (U3 ++ M ++ U1) ++ x :: (V3 ++ B) by simp]
          exact h3
      case measure => simp [intOf]; omega
    · have hj : V1.length = m := by have := hp.out; omega
      have e2 : U2 = [] := by
        have := hp.out; have := HU.out; rw [hp.out.1] at this; simp at this
        exact List.eq_nil_of_length_eq_zero (by omega)
      have e3 : V2 = [] := by
        have := HV.out; rw [hp.out.2.1] at this; simp at this
        exact List.eq_nil_of_length_eq_zero (by omega)
      subst e2; subst e3
      have S1 := HS.out
      rw [← (show U = U1 by rw [hp.out.1]; simp), ← (show V = V1 by rw [hp.out.2.1]; simp)] at S1
      have S2 := hide (show St 32 6 (fun x => [c0 x, c1 x, c2 x, c3 x, c4 x, c5 x]) w0 g n cap base (A ++ V ++ M ++ U ++ B) wr by simpa using S1)
      clear S1 HS
      have Hj := hide hj
      have hj2 : ¬ ((V1.length : Int) < (m : Int)) := by omega
      go_wp2
      go_end0
      exact HR.out _ S2.out
end
end Go.Proofs.YtkabghifdedmfaaGreatDoor

namespace Go.Proofs.YtkabghifdedmfaaGreatDoor
open Go.RowKit Go.Sort

section
variable {α : Type} {c0 c1 c2 c3 c4 c5 : α → Value}
set_option maxHeartbeats 4000000 in
set_option maxRecDepth 100000 in
theorem rotate_c (h0 : ∀ x, (c0 x).oneCell' = true) (h1 : ∀ x, (c1 x).oneCell' = true) (hcell2 : ∀ x, (c2 x).oneCell' = true) (hcell3 : ∀ x, (c3 x).oneCell' = true) (hcell4 : ∀ x, (c4 x).oneCell' = true) (hcell5 : ∀ x, (c5 x).oneCell' = true) (g n cap base : Nat) (fv : Value) (A X Y B : List α) (a m b : Nat) (w0 w : World) (R) (hn : n ≤ 1000000)
    (S : St 32 6 (fun x => [c0 x, c1 x, c2 x, c3 x, c4 x, c5 x]) w0 g n cap base (A ++ X ++ Y ++ B) w) (ha : A.length = a) (hm : a + X.length = m) (hb : m + Y.length = b) (hx : 0 < X.length) (hy : 0 < Y.length)
    (hR : ∀ w', St 32 6 (fun x => [c0 x, c1 x, c2 x, c3 x, c4 x, c5 x]) w0 g n cap base (A ++ Y ++ X ++ B) w' → R (.returned (.tuple #[])) w') :
    Calls Tryz.prog 130 #[.slice (some ⟨g, 0, none⟩) n cap, .int .i64 a, .int .i64 m, .int .i64 b, fv] w R := by
  have HR := hide hR; have HS := hide S
  have hlen := S.len
  have hbn : b ≤ n := by simp at hlen; omega
  have q1 : (m : Int) - (a : Int) = (X.length : Int) := by omega
  have q2 : (b : Int) - (m : Int) = (Y.length : Int) := by omega
  have hxb : X.length ≤ n := by omega
  have hyb : Y.length ≤ n := by omega
  have Ha := hide ha; have Hm := hide hm; have Hb := hide hb
  clear hR S hlen ha hm hb
  go_enter Tryz.func130, Tryz.ntmps130
  go_wp2
  go_loopw [10, 11] (fun i j wr => ∃ A' U V B' : List α, i = .int .i64 (U.length : Int) ∧ j = .int .i64 (V.length : Int) ∧ Hid (0 < U.length ∧ 0 < V.length ∧ A'.length + U.length = m ∧ A' ++ V ++ U ++ B' = A ++ Y ++ X ++ B) ∧
      Hid (St 32 6 (fun x => [c0 x, c1 x, c2 x, c3 x, c4 x, c5 x]) w0 g n cap base (A' ++ U ++ V ++ B') wr)) (fun i j _ => (intOf i).toNat + (intOf j).toNat)
  case atStart => exact ⟨A, X, Y, B, rfl, rfl, hide ⟨hx, hy, by have := Ha.out; have := Hm.out; omega, rfl⟩, HS⟩
  case round =>
    clear HS q1 q2
    obtain ⟨A', U, V, B', rfl, rfl, hp, HS⟩ := hrel
    have hlen := HS.out.len
    have hp2 := hp.out
    have hL : A'.length + U.length + V.length + B'.length = n := by simp at hlen; omega
    obtain ⟨u, hu⟩ : ∃ u, u = U.length := ⟨_, rfl⟩
    obtain ⟨v, hv⟩ : ∃ v, v = V.length := ⟨_, rfl⟩
    rw [← hu] at hp2 hL ⊢
    rw [← hv] at hp2 hL ⊢
    obtain ⟨k1, k2, k3, k4⟩ := hp2
    have HL := hide hL
    have hub : u ≤ n := by omega
    have hvb : v ≤ n := by omega
    have hum : u ≤ m := by omega
    have hmb : m + v ≤ n := by omega
    have Hu := hide hu; have Hv := hide hv; have K3 := hide k3; have K4 := hide k4
    clear hu hv hlen hL k3 k4
    rcases Nat.lt_trichotomy u v with hlt | heq | hgt
    · have h3 : ((u : Int) != (v : Int)) = true := by simp; omega
      have h4 : ¬ (v : Int) < (u : Int) := by omega
      go_wp2_with (go_at_call 164; refine Stop.out ?_)
      rw [show (m : Int) - (u : Int) = (A'.length : Int) by have := K3.out; omega, show (m : Int) + (v : Int) - (u : Int) = ((m + v - u : Nat) : Int) by omega]
      have e : V = V.take (v - u) ++ V.drop (v - u) := (List.take_append_drop _ _).symm
      have l1 : (V.take (v - u)).length = v - u := by rw [List.length_take]; have := Hv.out; omega
      have l2 : (V.drop (v - u)).length = u := by rw [List.length_drop]; have := Hv.out; omega
      refine Stop.go (swapRange_c h0 h1 hcell2 hcell3 hcell4 hcell5 g n cap base _ A' U (V.take (v - u)) (V.drop (v - u)) B' _ _ u w0 _ _ hn ?_ rfl ?_ Hu.out.symm l2 ?_)
      · have := HS.out; rw [e] at this; simpa using this
      · have := K3.out; have := Hu.out; simp only [List.length_append, l1]; omega
      intro w' S'
      have HS' := hide S'
      have Hl := hide (And.intro l1 l2)
      have He := hide e
      clear S' l1 l2 e
      have h5 : (v : Int) - (u : Int) = ((v - u : Nat) : Int) := by omega
      have h6 : 0 < v - u := by omega
      go_wp2
      go_roundw
      case rel =>
        refine ⟨A', V.drop (v - u), V.take (v - u), U ++ B', by rw [Hl.out.2], by rw [Hl.out.1], hide ⟨by rw [Hl.out.2]; exact k1, by rw [Hl.out.1]; exact h6, by rw [Hl.out.2]; exact K3.out, ?_⟩, hide ?_⟩
        · rw [← K4.out]; conv => rhs; rw [He.out]
          simp
        · simpa using HS'.out
      case measure => simp [intOf]; omega
    · subst heq
      have h3 : ((u : Int) != (u : Int)) = false := by simp
      go_wp2_with (go_at_call 164; refine Stop.out ?_)
      rw [show (m : Int) - (u : Int) = (A'.length : Int) by have := K3.out; omega]
      refine Stop.go (swapRange_c h0 h1 hcell2 hcell3 hcell4 hcell5 g n cap base _ A' U [] V B' _ _ u w0 _ _ hn ?_ rfl ?_ Hu.out.symm Hv.out.symm ?_)
      · simpa using HS.out
      · have := K3.out; have := Hu.out; simp; omega
      intro w' S'
      have HS' := hide (show St 32 6 (fun x => [c0 x, c1 x, c2 x, c3 x, c4 x, c5 x]) w0 g n cap base (A ++ Y ++ X ++ B) w' by rw [← K4.out]; simpa using S')
      clear S'
      go_wp2
      go_end0
      exact HR.out _ HS'.out
    · have h3 : ((u : Int) != (v : Int)) = true := by simp; omega
      have h4 : (v : Int) < (u : Int) := by omega
      go_wp2_with (go_at_call 164; refine Stop.out ?_)
      rw [show (m : Int) - (u : Int) = (A'.length : Int) by have := K3.out; omega]
      have e : U = U.take v ++ U.drop v := (List.take_append_drop _ _).symm
      have l1 : (U.take v).length = v := by rw [List.length_take]; have := Hu.out; omega
      have l2 : (U.drop v).length = u - v := by rw [List.length_drop]; have := Hu.out; omega
      refine Stop.go (swapRange_c h0 h1 hcell2 hcell3 hcell4 hcell5 g n cap base _ A' (U.take v) (U.drop v) V B' _ _ v w0 _ _ hn ?_ rfl ?_ l1 Hv.out.symm ?_)
      · have := HS.out; rw [e] at this; simpa using this
      · have := K3.out; have := Hu.out; simp; omega
      intro w' S'
      have HS' := hide S'
      have Hl := hide (And.intro l1 l2)
      have He := hide e
      clear S' l1 l2 e
      have h5 : (u : Int) - (v : Int) = ((u - v : Nat) : Int) := by omega
      have h6 : 0 < u - v := by omega
      go_wp2
      go_roundw
      case rel =>
        refine ⟨A' ++ V, U.drop v, U.take v, B', by rw [Hl.out.2], by rw [Hl.out.1], hide ⟨by rw [Hl.out.2]; exact h6, by rw [Hl.out.1]; exact k2, by rw [Hl.out.2, List.length_append]; have := K3.out; have := Hv.out; omega, ?_⟩, hide ?_⟩
        · rw [← K4.out]; conv => rhs; rw [He.out]
          simp
        · simpa using HS'.out
      case measure => simp [intOf]; omega
end
end Go.Proofs.YtkabghifdedmfaaGreatDoor
