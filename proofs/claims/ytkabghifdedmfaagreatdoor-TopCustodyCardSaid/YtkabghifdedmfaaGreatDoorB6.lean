/- Maps that the call has made, at keys that the model compares at once; blocks known whole; where an append's row lies. Plain: what the map of containers holds while it is filled. -/
import Derived.Test.YtkabghifdedmfaaGreatDoorB5
import Derived.Maps.OwnOps
import Derived.Test.YtkabghifdedmfaaGreatDoorB4
set_option linter.unusedVariables false
set_option linter.unusedSimpArgs false
namespace Go.Proofs.YtkabghifdedmfaaGreatDoor
open Go.RowKit

/-- What a map's type must abide. -/
structure MLaw (κ : Type) [DecidableEq κ] (T kt et : TypeId) (sv : κ → Value) (z : Value) : Prop where
  und : ∀ w, (underlying T).run Tryz.prog w = .ok (.map kt et) w
  kd : ∃ D, (∀ w, (underlying kt).run Tryz.prog w = .ok D w) ∧ ∀ x y, Instr.sameNow D (sv x) (sv y) = some (decide (x = y))
  chk : ∀ b x w, (Instr.checkKey b 10000 kt (sv x)).run Tryz.prog w = .ok () w
  zero : ∀ w, (zeroValue et).run Tryz.prog w = .ok z w
  bits : ∀ x, Instr.sameBits 10000 (sv x) (sv x) = true
section
variable {κ : Type} {sv : κ → Value}
/-- Block b is a map that reads as L. -/
def MpAt (sv : κ → Value) (w : World) (b : Nat) (L : List (κ × Value)) : Prop := ∃ es clock, w.heap[b]? = some (.map es clock) ∧ es.toList.map (fun e => (e.key, e.val)) = L.map (fun e => (sv e.1, e.2))
theorem MpAt.lt {w : World} {b : Nat} {L : List (κ × Value)} (h : MpAt sv w b L) : b < w.heap.size := by
  obtain ⟨es, c, h1, _⟩ := h; exact lt_of_block h1
theorem MpAt.block {w w' : World} {b : Nat} {L : List (κ × Value)} (h : MpAt sv w b L) (hb : w'.heap[b]? = w.heap[b]?) : MpAt sv w' b L := by
  obtain ⟨es, c, h1, h2⟩ := h; exact ⟨es, c, hb.trans h1, h2⟩
theorem MpAt.next {w w' : World} {b : Nat} {L : List (κ × Value)} (h : MpAt sv w b L) (hb : Below w.heap.size w w') : MpAt sv w' b L := h.block (hb.block b h.lt)
theorem MpAt.set {w : World} {b : Nat} {L : List (κ × Value)} (h : MpAt sv w b L) {a : Addr} (ha : a.block ≠ b) (v : Value) : MpAt sv (w.setCell a v) b L := h.block (Below.heap_setCell _ _ _ _ (fun e => ha e.symm))
theorem MpAt.new (w : World) : MpAt sv (w.alloc (.map #[] 0)) w.heap.size ([] : List (κ × Value)) := ⟨#[], 0, by show (w.heap.push _)[w.heap.size]? = _; simp, rfl⟩
end
theorem beqB (x y : ByteArray) : (x == y) = true ↔ x = y := by
  obtain ⟨a⟩ := x; obtain ⟨b⟩ := y
  have e : (({ data := a } : ByteArray) == { data := b }) = (a == b) := rfl
  rw [e]
  simp
theorem bytes_beq (x y : ByteArray) : (x == y) = decide (x = y) := by
  rw [Bool.eq_iff_iff]; simp only [decide_eq_true_eq]
  exact beqB x y
section
variable {κ : Type} [DecidableEq κ] {T kt et : TypeId} {sv : κ → Value} {z : Value}
/-- The first entry of a key. -/
def findL : List (κ × Value) → κ → Nat → Option (Nat × Value)
  | [], _, _ => none
  | (k, v) :: t, x, i => if x = k then some (i, v) else findL t x (i + 1)
theorem findNow_is {D : TypeDesc} (hD : ∀ x y, Instr.sameNow D (sv x) (sv y) = some (decide (x = y))) (x : κ) : ∀ (es : List MapEntry) (L : List (κ × Value)) (i : Nat), es.map (fun e => (e.key, e.val)) = L.map (fun e => (sv e.1, e.2)) →
    Instr.findNow D (sv x) es i = some (findL L x i)
  | [], [], i, _ => rfl
  | [], _ :: _, _, h => by cases h
  | _ :: _, [], _, h => by cases h
  | e :: es, (k, v) :: L, i, h => by
    simp only [List.map_cons, List.cons.injEq, Prod.mk.injEq] at h
    obtain ⟨⟨h1, h2⟩, h3⟩ := h
    rw [Instr.findNow, h1, hD, findL]
    by_cases hx : x = k
    · simp [hx, h2]
    · simp only [hx, decide_false, if_false]
      exact findNow_is hD x es L (i + 1) h3
theorem MLaw.find (M : MLaw κ T kt et sv z) (x : κ) (w : World) (es : List MapEntry) (L : List (κ × Value)) (h : es.map (fun e => (e.key, e.val)) = L.map (fun e => (sv e.1, e.2))) :
    (Instr.findKey kt (sv x) es).run Tryz.prog w = .ok (findL L x 0) w := by
  obtain ⟨D, h1, h2⟩ := M.kd
  unfold Instr.findKey
  simp only [Sem.run_bind, h1, Result.andThen_ok, findNow_is h2 x es L 0 h]
  rfl
/-- What a list of entries says. -/
def find2 : List (κ × Value) → κ → Option Value
  | [], _ => none
  | (k, v) :: t, x => if x = k then some v else find2 t x
theorem findL_2 : ∀ (L : List (κ × Value)) (x : κ) (i : Nat), (findL L x i).map (·.2) = find2 L x
  | [], x, i => rfl
  | (k, v) :: t, x, i => by
    rw [findL, find2]
    split
    · rfl
    · exact findL_2 t x (i + 1)
theorem MpAt.lookup (M : MLaw κ T kt et sv z) {w : World} {b : Nat} {L : List (κ × Value)} (h : MpAt sv w b L) (x : κ) (c : Bool) : (Instr.lookup T (.map (some b)) (sv x) c).run Tryz.prog w =
    .ok (if c then .tuple #[(find2 L x).getD z, .bool (find2 L x).isSome] else (find2 L x).getD z) w := by
  obtain ⟨es, cl, hb, hL⟩ := h
  unfold Instr.lookup
  simp only [Sem.run_bind, M.und, Result.andThen_ok, MapKept.run_getObj_map hb, Sem.run_pure, M.chk, M.find x w es.toList L hL, ← findL_2 L x 0]
  cases findL L x 0 with
  | none => cases c <;> simp [M.zero, Result.andThen]
  | some r => cases c <;> simp
theorem findL_at : ∀ (L : List (κ × Value)) (x : κ) (i : Nat) (r : Nat × Value), findL L x i = some r → i ≤ r.1 ∧ L[r.1 - i]? = some (x, r.2)
  | [], x, i, r, h => by cases h
  | (k, v) :: t, x, i, r, h => by
    rw [findL] at h
    split at h
    · rename_i e; injection h with h; subst h; subst e; simp
    · obtain ⟨h1, h2⟩ := findL_at t x (i + 1) r h
      refine ⟨by omega, ?_⟩
      rw [show r.1 - i = (r.1 - (i + 1)) + 1 by omega, List.getElem?_cons_succ]; exact h2
def putL (L : List (κ × Value)) (x : κ) (p : Value) : List (κ × Value) := match findL L x 0 with
  | some r => L.set r.1 (x, p)
  | none => L ++ [(x, p)]
theorem putL_new {L : List (κ × Value)} {x : κ} {p : Value} (h : find2 L x = none) : putL L x p = L ++ [(x, p)] := by
  unfold putL
  cases hf : findL L x 0 with
  | none => rfl
  | some r => rw [← findL_2 L x 0, hf] at h; cases h
theorem find2_set : ∀ (L : List (κ × Value)) (x : κ) (i : Nat) (r : Nat × Value) (p : Value) (y : κ), findL L x i = some r → find2 (L.set (r.1 - i) (x, p)) y = if y = x then some p else find2 L y
  | [], x, i, r, p, y, h => by cases h
  | (k, v) :: t, x, i, r, p, y, h => by
    rw [findL] at h
    split at h
    · rename_i e; injection h with h; subst h; subst e
      simp only [Nat.sub_self, List.set_cons_zero, find2]
      by_cases hy : y = x <;> simp [hy]
    · rename_i e
      obtain ⟨h1, _⟩ := findL_at t x (i + 1) r h
      rw [show r.1 - i = (r.1 - (i + 1)) + 1 by omega, List.set_cons_succ, find2, find2_set t x (i + 1) r p y h, find2]
      by_cases hy : y = k
      · rw [if_pos hy, if_pos hy, if_neg (fun e2 : y = x => e (e2 ▸ hy))]
      · rw [if_neg hy, if_neg hy]
theorem find2_snoc : ∀ (L : List (κ × Value)) (x : κ) (p : Value) (y : κ), find2 L x = none → find2 (L ++ [(x, p)]) y = if y = x then some p else find2 L y
  | [], x, p, y, _ => by simp [find2]
  | (k, v) :: t, x, p, y, h => by
    rw [find2] at h
    split at h
    · cases h
    · rename_i e
      rw [List.cons_append, find2, find2_snoc t x p y h, find2]
      by_cases hy : y = k
      · rw [if_pos hy, if_pos hy, if_neg (fun e2 : y = x => e (e2 ▸ hy))]
      · rw [if_neg hy, if_neg hy]
theorem find2_put (L : List (κ × Value)) (x : κ) (p : Value) (y : κ) : find2 (putL L x p) y = if y = x then some p else find2 L y := by
  unfold putL
  cases h : findL L x 0 with
  | none => exact find2_snoc L x p y (by rw [← findL_2 L x 0, h]; rfl)
  | some r =>
    have := find2_set L x 0 r p y h
    rwa [Nat.sub_zero] at this
theorem MpAt.update (M : MLaw κ T kt et sv z) {w : World} {b : Nat} {L : List (κ × Value)} (h : MpAt sv w b L) (x : κ) (p : Value) : ∃ w', (Instr.mapUpdate T (.map (some b)) (sv x) p).run Tryz.prog w = .ok () w' ∧ MpAt sv w' b (putL L x p) ∧ w.grownBy w' (some b) ∧ w'.heap.size = w.heap.size := by
  have hlt := h.lt
  obtain ⟨es, cl, hb, hL⟩ := h
  unfold Instr.mapUpdate putL
  simp only [Sem.run_bind, M.und, Result.andThen_ok, MapKept.run_getObj_map hb, Sem.run_pure, M.chk, M.find x w es.toList L hL]
  have hlen : es.size = L.length := by have := congrArg List.length hL; simpa using this
  have hset : ∀ o : Obj, w.grownBy (ChangeMaps.setBlock w b o) (some b) := fun o => ⟨rfl, rfl, rfl, by simp [ChangeMaps.setBlock], fun k hk hne => by
    show (w.heap.setIfInBounds b o)[k]? = _
    rw [Array.getElem?_setIfInBounds, if_neg (fun e => hne (by rw [e]))]⟩
  have hsz : ∀ o : Obj, (ChangeMaps.setBlock w b o).heap.size = w.heap.size := fun o => by simp [ChangeMaps.setBlock]
  have hget : ∀ o : Obj, (ChangeMaps.setBlock w b o).heap[b]? = some o := fun o => by
    show (w.heap.setIfInBounds b o)[b]? = _
    rw [Array.getElem?_setIfInBounds, if_pos rfl, if_pos hlt]
  cases hf : findL L x 0 with
  | none =>
    refine ⟨_, MapKept.run_setObj_map _ hb, ⟨_, _, hget _, ?_⟩, hset _, hsz _⟩
    simp only [Array.toList_push, List.map_append, List.map_cons, List.map_nil, hL]
  | some r =>
    obtain ⟨h1, h2⟩ := findL_at L x 0 r hf
    rw [Nat.sub_zero] at h2
    have hr : r.1 < es.size := by rw [hlen]; exact (List.getElem?_eq_some_iff.1 h2).1
    have hkey : (es[r.1]).key = sv x := by
      have := congrArg (fun l => l[r.1]?) hL
      simp only [List.getElem?_map, h2] at this
      rw [Array.getElem?_toList, Array.getElem?_eq_getElem hr] at this
      simp at this
      exact this.1
    have hst : (Instr.keyThatStays (sv x) (sv x)).run Tryz.prog w = .ok (sv x) w := by
      unfold Instr.keyThatStays
      rw [if_pos (M.bits x)]
      rfl
    simp only
    rw [Array.getElem?_eq_getElem hr]
    simp only [Option.map_some, Option.getD_some, hkey, Sem.run_bind, hst, Result.andThen_ok]
    refine ⟨_, MapKept.run_setObj_map _ hb, ⟨_, _, hget _, ?_⟩, hset _, hsz _⟩
    rw [Array.toList_modify, List.map_set, ← hL]
    apply List.ext_getElem?
    intro i
    rw [List.getElem?_map, List.getElem?_modify, List.getElem?_set, List.length_map]
    by_cases hi : r.1 = i
    · subst hi
      rw [if_pos rfl, if_pos (by simpa using hr)]
      rw [Array.getElem?_toList, Array.getElem?_eq_getElem hr]
      simp
    · rw [if_neg hi, List.getElem?_map]
      simp [hi]
end
theorem mlaw79 : MLaw ByteArray 138 9 143 (fun s => .string s) (.pointer none) where
  und := fun w => by kernel_rfl
  kd := ⟨.string, fun w => by kernel_rfl, fun x y => by simp [Instr.sameNow, bytes_beq]⟩
  chk := fun b x w => by cases b <;> kernel_rfl
  zero := fun w => by kernel_rfl
  bits := fun x => by simp [Instr.sameBits, bytes_beq]
theorem mlaw60 : MLaw Int 78 3 3 (fun n => .int .i64 n) (.int .i64 0) where
  und := fun w => by kernel_rfl
  kd := ⟨.int .i64, fun w => by kernel_rfl, fun x y => by simp [Instr.sameNow]; rw [Bool.eq_iff_iff]; simp⟩
  chk := fun b x w => by cases b <;> kernel_rfl
  zero := fun w => by kernel_rfl
  bits := fun x => by simp [Instr.sameBits]

/-- A block known whole. -/
def Blk (w : World) (g : Nat) (cs : Array Value) (t : TypeId) : Prop := w.heap[g]? = some (.cells cs t (0, 0))
section
variable {w w' : World} {g : Nat} {cs : Array Value} {t : TypeId}
theorem Blk.lt (h : Blk w g cs t) : g < w.heap.size := lt_of_block h
theorem Blk.cell (h : Blk w g cs t) {k : Nat} {v : Value} (hk : cs[k]? = some v) : w.cell? ⟨g, k, none⟩ = some v := by
  unfold Blk at h; simp [World.cell?, h, hk]
theorem Blk.free (h : Blk w g cs t) (k : Nat) : w.frozen? ⟨g, k, none⟩ = false := frozen_of_row _ _ _ _ _ h
theorem Blk.new (w : World) (cs : Array Value) (t : TypeId) : Blk (w.alloc (.cells cs t)) w.heap.size cs t := by
  show (w.heap.push _)[w.heap.size]? = _
  simp
theorem Blk.new_at {n : Nat} (hn : n = w.heap.size) : Blk (w.alloc (.cells cs t)) n cs t := by subst hn; exact Blk.new _ _ _
theorem Blk.alloc (h : Blk w g cs t) (o : Obj) : Blk (w.alloc o) g cs t := by
  have hl := h.lt
  unfold Blk at *
  rw [← h]
  show (w.heap.push o)[g]? = _
  rw [Array.getElem?_push, if_neg (by omega)]
theorem Blk.later {B : Nat} (h : Blk w g cs t) (hb : Below B w w') (hg : g < B) : Blk w' g cs t := by
  unfold Blk at *
  rw [← h]; exact hb.block g hg
theorem Blk.next (h : Blk w g cs t) (hb : Below w.heap.size w w') : Blk w' g cs t := h.later hb h.lt
theorem Blk.drewN (h : Blk w g cs t) (n : Nat) : Blk (w.drewN n) g cs t := h
theorem Blk.drew (h : Blk w g cs t) : Blk w.drew g cs t := h
theorem Blk.set (h : Blk w g cs t) (k : Nat) (v : Value) : Blk (w.setCell ⟨g, k, none⟩ v) g (cs.setIfInBounds k v) t := by
  have hl := h.lt
  have h' : w.heap[g] = .cells cs t (0, 0) := by unfold Blk at h; simpa [Array.getElem?_eq_getElem hl] using h
  show (w.heap.modify g _)[g]? = _
  rw [Array.getElem?_eq_getElem (by simpa using hl), Array.getElem_modify_self, h']
  rfl
theorem Blk.set_other (h : Blk w g cs t) {a : Addr} (ha : a.block ≠ g) (v : Value) : Blk (w.setCell a v) g cs t := by
  unfold Blk at *
  rw [Below.heap_setCell _ _ _ _ (fun e => ha e.symm)]; exact h
end
/-- Where an append's row lies: where it lay, or in a new block. -/
theorem app_where {P : Program} (w : World) (base : Nat) (t ty e : TypeId) (i : TypeInfo) (z : Value) (size bytes : Nat) (ht : P.underlying t = some (.slice e)) (hi : P.info? e = some i) (hz : i.zero = some z)
    (hsize : i.size = size) (hby : i.bytes = bytes) (hzs : z.cells.size = size) (hsz : 0 < size)
    (v : Value) (n : Nat) (xs : List Value) (hown : w.ownsRow base e size v n xs)
    (a : Addr) (m c : Nat) (news : List Value) (hl : news.length = m * size) (hnews : ∀ j u, news[j]? = some u → w.cell? (a.add j) = some u) (h1 : ∀ u ∈ news, u.oneCell' = true)
    (h63 : n + m ≤ maxLen) (hbytes : (n + m) * bytes ≤ 140737488355328) (v' : Value) (w' : World)
    (hr : (Builtin.append_ #[t, t] ty #[v, .slice (some a) m c]).run P w = .ok v' w') : v'.ownBlock = v.ownBlock ∨ ∀ k, v'.ownBlock = some k → w.heap.size ≤ k := by
  subst hsize
  subst hby
  rcases hown.2 with ⟨rfl, rfl⟩ | ⟨g, cap, cur, rfl, hbg, hg, hnc, hcm, hcs, htake⟩
  · have hx : xs = [] := List.eq_nil_of_length_eq_zero (by simpa using hown.1)
    subst hx
    obtain ⟨v2, w2, h2, h3, _, _⟩ := run_append_own (P := P) w w.heap.size t ty e i z i.size i.bytes ht hi hz rfl rfl hzs hsz (.slice none 0 0) 0 [] (World.ownsRow_nil _ _ _ _) a m c news hl hnews h1 h63 hbytes (Nat.le_refl _)
    rw [hr] at h2
    injection h2 with h2 h4
    subst h2
    exact .inr fun k hk => (h3.lt k hk).1
  · by_cases hroom : n + m ≤ cap
    · have hfit : n * i.size + news.length ≤ cur.size := by rw [hl, hcs, ← Nat.add_mul]; exact Nat.mul_le_mul_right _ hroom
      have h2 := run_append_room (P := P) w t ty e i ht hi g n cap cur hg a m c news hl hnews h1 hroom hfit
      rw [hr] at h2
      injection h2 with h2 _
      subst h2
      exact .inl rfl
    · have holds : ∀ j u, xs[j]? = some u → w.cell? ((⟨g, 0, none⟩ : Addr).add j) = some u := hown.cells (g := g) rfl
      have h2 := run_append_grow (P := P) w t ty e i z ht hi hz ⟨g, 0, none⟩ n cap xs hown.1 holds a m c news hl hnews (by omega) (by simp only [maxLen] at h63; omega) (growslice_fits (by omega) hbytes)
      rw [hr] at h2
      injection h2 with h2 _
      subst h2
      exact .inr fun k hk => by injection hk with hk; exact Nat.le_of_eq hk
theorem wpList_append_where {P : Program} {w : World} {ops : Array Oper} {rest : List Oper} {o : Oper} {a : Act} {Q : Exit → Act → World → Prop} (hgd : o.guard = none) (s x : Operand) (t : TypeId)
    (ho : o.op = .call { callee := .builtin .append, args := #[s, x], argTypes := #[t, t] })
    (base : Nat) (e : TypeId) (i : TypeInfo) (z : Value) (size bytes : Nat) (ht : P.underlying t = some (.slice e)) (hi : P.info? e = some i) (hz : i.zero = some z)
    (hsize : i.size = size) (hby : i.bytes = bytes) (hzs : z.cells.size = size) (hsz : 0 < size)
    (v : Value) (n : Nat) (xs : List Value) (hs : a.eval s = v) (hown : w.ownsRow base e size v n xs)
    (ad : Addr) (m c : Nat) (news : List Value) (hx : a.eval x = .slice (some ad) m c) (hl : news.length = m * size) (hnews : ∀ j u, news[j]? = some u → w.cell? (ad.add j) = some u) (h1 : ∀ u ∈ news, u.oneCell' = true)
    (h63 : n + m ≤ maxLen) (hbytes : (n + m) * bytes ≤ 140737488355328) (hbase : base ≤ w.heap.size)
    (h : ∀ v' w', w'.ownsRow base e size v' (n + m) (xs ++ news) → w.grownBy w' v.ownBlock → (v'.ownBlock = v.ownBlock ∨ ∀ k, v'.ownBlock = some k → w.heap.size ≤ k) → wpList P ops Q rest (a.put o.dst v') w') : wpList P ops Q (o :: rest) a w :=
  wpList_plain hgd fun K hK => by
    obtain ⟨v', w', hr, h2, h3, h4⟩ := run_append_own (P := P) w base t o.type e i z size bytes ht hi hz hsize hby hzs hsz v n xs hown ad m c news hl hnews h1 h63 hbytes hbase
    have hw := app_where w base t o.type e i z size bytes ht hi hz hsize hby hzs hsz v n xs hown ad m c news hl hnews h1 h63 hbytes v' w' hr
    unfold Oper.wp execOp
    simp only [ho, resolve, invoke, builtin, Sem.run_bind, Sem.run_pure, Result.andThen_ok, List.map_toArray, List.map_cons, List.map_nil, hs, hx, hr]
    exact hK _ _ (h v' w' h2 h3 hw)
end Go.Proofs.YtkabghifdedmfaaGreatDoor

namespace Go.Proofs.YtkabghifdedmfaaGreatDoor

abbrev hereP (t : Tk) (j : Nat) (s : ByteArray) : Option Nat := (t.seals.take j).findIdx? (fun x => decide (x = s))
theorem findIdx_none {l : List ByteArray} {s : ByteArray} : l.findIdx? (fun x => decide (x = s)) = none ↔ s ∉ l := by
  rw [List.findIdx?_eq_none_iff]
  constructor
  · intro h hs; have := h s hs; simp at this
  · intro h x hx
    simp only [decide_eq_false_iff_not]
    rintro rfl; exact h hx
theorem findIdx_snoc (l : List ByteArray) (e s : ByteArray) : (l ++ [e]).findIdx? (fun x => decide (x = s)) = match l.findIdx? (fun x => decide (x = s)) with | some j => some j | none => if e = s then some l.length else none := by
  rw [List.findIdx?_append]
  cases l.findIdx? (fun x => decide (x = s)) with
  | some j => rfl
  | none =>
    by_cases h : e = s
    · simp [h, List.findIdx?_cons]
    · simp [h, List.findIdx?_cons]
theorem hereP_succ {t : Tk} {j : Nat} {e : ByteArray} (he : t.seals[j]? = some e) (s : ByteArray) : hereP t (j + 1) s = match hereP t j s with | some b => some b | none => if e = s then some j else none := by
  have hj := (List.getElem?_eq_some_iff.1 he).1
  unfold hereP
  rw [List.take_add_one, he]
  show ((t.seals.take j) ++ [e]).findIdx? _ = _
  rw [findIdx_snoc]
  have : (t.seals.take j).length = j := by rw [List.length_take]; omega
  rw [this]
theorem firstP_snoc (s : ByteArray) (t : Tk) : ∀ l : List Tk, firstP (l ++ [t]) s = match firstP l s with | some p => some p | none => (t.seals.findIdx? (fun x => decide (x = s))).map fun j => (l.length, j)
  | [] => by
    rw [List.nil_append, firstP, firstP, firstP]
    cases t.seals.findIdx? (fun x => decide (x = s)) <;> rfl
  | u :: l => by
    rw [List.cons_append, firstP, firstP]
    cases u.seals.findIdx? (fun x => decide (x = s)) with
    | some j => rfl
    | none =>
      simp only
      rw [firstP_snoc s t l]
      cases firstP l s with
      | some p => rfl
      | none => cases t.seals.findIdx? (fun x => decide (x = s)) <;> rfl
theorem insideP_snoc (s : ByteArray) (t : Tk) (l : List Tk) : insideP (l ++ [t]) s = insideP l s ++ if t.seals.any (fun x => decide (x = s)) then [l.length] else [] := by
  unfold insideP
  rw [List.length_append, List.length_singleton, List.range_succ, List.filter_append]
  congr 1
  · apply List.filter_congr
    intro i hi
    rw [List.mem_range] at hi
    rw [List.getElem?_append_left hi]
  · simp only [List.filter_cons, List.filter_nil, List.getElem?_concat_length]
theorem insideP_lt {l : List Tk} {s : ByteArray} {i : Nat} (h : i ∈ insideP l s) : i < l.length := by
  unfold insideP at h
  rw [List.mem_filter, List.mem_range] at h
  exact h.1
theorem insideP_len (l : List Tk) (s : ByteArray) : (insideP l s).length ≤ l.length := by
  unfold insideP
  have := List.length_filter_le (fun i => match l[i]? with | some t => t.seals.any (fun x => decide (x = s)) | none => false) (List.range l.length)
  rwa [List.length_range] at this
/-- What the map says when the tracks before i, and the seals before j of track i, are done. -/
def specC (ts : List Tk) (i : Nat) (t : Tk) (j : Nat) (s : ByteArray) : Option (Nat × Nat × List Nat) :=
  match firstP (ts.take i) s with
  | some p => some (p.1, p.2, insideP (ts.take i) s ++ if (hereP t j s).isSome then [i] else [])
  | none => (hereP t j s).map fun b => (i, b, [i])
/-- What it says when the tracks before i are done. -/
def specD (ts : List Tk) (i : Nat) (s : ByteArray) : Option (Nat × Nat × List Nat) := (firstP (ts.take i) s).map fun p => (p.1, p.2, insideP (ts.take i) s)
theorem specD_zero (ts : List Tk) (s : ByteArray) : specD ts 0 s = none := rfl
theorem specC_zero (ts : List Tk) (i : Nat) (t : Tk) (s : ByteArray) : specC ts i t 0 s = specD ts i s := by
  unfold specC specD hereP
  cases firstP (ts.take i) s <;> simp
theorem specD_all (ts : List Tk) (s : ByteArray) : specD ts ts.length s = (firstP ts s).map fun p => (p.1, p.2, insideP ts s) := by
  unfold specD; rw [List.take_length]
theorem specC_next {ts : List Tk} {i : Nat} {t : Tk} (ht : ts[i]? = some t) (s : ByteArray) : specC ts i t t.seals.length s = specD ts (i + 1) s := by
  have hi := (List.getElem?_eq_some_iff.1 ht).1
  unfold specC specD
  rw [List.take_add_one, ht]
  show _ = (firstP (ts.take i ++ [t]) s).map _
  rw [firstP_snoc]
  rw [show insideP (ts.take i ++ (some t).toList) s = insideP (ts.take i ++ [t]) s from rfl, insideP_snoc]
  have hl : (ts.take i).length = i := by rw [List.length_take]; omega
  rw [hl]
  unfold hereP
  rw [List.take_length]
  have ha : t.seals.any (fun x => decide (x = s)) = (t.seals.findIdx? (fun x => decide (x = s))).isSome := List.findIdx?_isSome.symm
  cases hf : firstP (ts.take i) s with
  | some p => simp only [Option.map_some, ha]
  | none =>
    simp only
    cases hh : t.seals.findIdx? (fun x => decide (x = s)) with
    | none => rfl
    | some b =>
      simp only [Option.map_some]
      rw [ha, hh]
      have : insideP (ts.take i) s = [] := by
        cases hin : insideP (ts.take i) s with
        | nil => rfl
        | cons k r =>
          exfalso
          have hk : k ∈ insideP (ts.take i) s := by rw [hin]; simp
          exact inside_first hf hk
      rw [this]; rfl
where
  inside_first {l : List Tk} {s : ByteArray} {k : Nat} (hf : firstP l s = none) (hk : k ∈ insideP l s) : False := by
    unfold insideP at hk
    rw [List.mem_filter, List.mem_range] at hk
    obtain ⟨h1, h2⟩ := hk
    induction l generalizing k with
    | nil => simp at h1
    | cons t l ih =>
      rw [firstP] at hf
      cases hx : t.seals.findIdx? (fun x => decide (x = s)) with
      | some j => rw [hx] at hf; cases hf
      | none =>
        rw [hx] at hf
        simp only [Option.map_eq_none_iff] at hf
        cases k with
        | zero =>
          simp only [List.getElem?_cons_zero] at h2
          rw [← List.findIdx?_isSome, hx] at h2
          cases h2
        | succ k => exact ih hf (k := k) (by simp only [List.length_cons] at h1; omega) (by simpa using h2)
theorem specC_step {ts : List Tk} {i : Nat} {t : Tk} {j : Nat} {e : ByteArray} (hi : i ≤ ts.length) (he : t.seals[j]? = some e) (s : ByteArray) :
    specC ts i t (j + 1) s = if s = e then (match specC ts i t j e with | some (a, b, ins) => some (a, b, if ins.getLast? = some i then ins else ins ++ [i]) | none => some (i, j, [i])) else specC ts i t j s := by
  have hl : (ts.take i).length = i := by rw [List.length_take]; omega
  by_cases h : s = e
  · subst h
    rw [if_pos rfl]
    unfold specC
    rw [hereP_succ he]
    cases hf : firstP (ts.take i) s with
    | some p =>
      simp only
      have hn : (insideP (ts.take i) s).getLast? ≠ some i := fun hh => by
        have := insideP_lt (List.mem_of_getLast? hh)
        omega
      cases hh : hereP t j s with
      | none => simp [hn]
      | some b => simp
    | none =>
      simp only
      cases hh : hereP t j s with
      | none => simp
      | some b => simp
  · rw [if_neg h]
    unfold specC
    have e1 : hereP t (j + 1) s = hereP t j s := by
      rw [hereP_succ he]
      cases hereP t j s with
      | some b => rfl
      | none => simp only; rw [if_neg (fun e' : e = s => h e'.symm)]
    rw [e1]
theorem specC_few {ts : List Tk} {i : Nat} {t : Tk} {j : Nat} {s : ByteArray} {a b : Nat} {ins : List Nat} (h : specC ts i t j s = some (a, b, ins)) : ins.length ≤ ts.length + 1 := by
  unfold specC at h
  have h1 := insideP_len (ts.take i) s
  rw [List.length_take] at h1
  cases hf : firstP (ts.take i) s with
  | some p =>
    rw [hf] at h
    simp only [Option.some.injEq, Prod.mk.injEq] at h
    obtain ⟨_, _, rfl⟩ := h
    rw [List.length_append]
    split <;> simp <;> omega
  | none =>
    rw [hf] at h
    cases hh : hereP t j s with
    | none => rw [hh] at h; cases h
    | some b =>
      rw [hh] at h
      simp only [Option.map_some, Option.some.injEq, Prod.mk.injEq] at h
      obtain ⟨_, _, rfl⟩ := h
      simp
theorem firstP_at : ∀ {l : List Tk} {s : ByteArray} {a b : Nat}, firstP l s = some (a, b) → ∃ t, l[a]? = some t ∧ t.seals[b]? = some s
  | [], _, _, _, h => by cases h
  | u :: l, s, a, b, h => by
    rw [firstP] at h
    cases hx : u.seals.findIdx? (fun x => decide (x = s)) with
    | some j =>
      rw [hx] at h
      simp only [Option.some.injEq, Prod.mk.injEq] at h
      obtain ⟨rfl, rfl⟩ := h
      refine ⟨u, rfl, ?_⟩
      rw [List.findIdx?_eq_some_iff_getElem] at hx
      obtain ⟨h1, h2, _⟩ := hx
      rw [List.getElem?_eq_getElem h1]
      simpa using h2
    | none =>
      rw [hx] at h
      cases hf : firstP l s with
      | none => rw [hf] at h; cases h
      | some p =>
        rw [hf] at h
        simp only [Option.map_some, Option.some.injEq, Prod.mk.injEq] at h
        obtain ⟨rfl, rfl⟩ := h
        obtain ⟨t, h1, h2⟩ := firstP_at hf
        exact ⟨t, by simpa using h1, h2⟩
theorem firstP_some : ∀ {l : List Tk} {s : ByteArray} {a b : Nat} {t : Tk}, l[a]? = some t → t.seals[b]? = some s → ∃ p, firstP l s = some p
  | [], _, a, _, _, h, _ => by simp at h
  | u :: l, s, a, b, t, h, hs => by
    rw [firstP]
    cases hx : u.seals.findIdx? (fun x => decide (x = s)) with
    | some j => exact ⟨_, rfl⟩
    | none =>
      cases a with
      | zero =>
        simp at h; subst h
        exact absurd (List.mem_of_getElem? hs) (findIdx_none.1 hx)
      | succ a =>
        obtain ⟨p, hp⟩ := firstP_some (l := l) (a := a) (by simpa using h) hs
        rw [hp]
        exact ⟨_, rfl⟩
end Go.Proofs.YtkabghifdedmfaaGreatDoor
