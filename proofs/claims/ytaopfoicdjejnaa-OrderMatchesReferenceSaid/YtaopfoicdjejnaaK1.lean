/- A map from states to steps that the call has made. -/
import Derived.Test.YtaopfoicdjejnaaC7
import Derived.Maps.OwnOps
set_option linter.unusedVariables false
set_option linter.unusedSimpArgs false
namespace Go.Proofs.Ytaopfoicdjejnaa
open Go.RowKit

abbrev sv (st : Stt) : Value := .agg #[.int .u32 (st.done : Int), .int .i64 (offI st.off)]
abbrev pv (p : Stp) : Value := .agg #[.int .i64 p.time, .int .i64 (p.unit : Int), .int .i64 (offI p.off)]
theorem offI_inj {a b : Option Nat} : offI a = offI b ↔ a = b := by
  cases a <;> cases b <;> simp [offI] <;> omega
theorem stt_eq {x y : Stt} : x = y ↔ x.done = y.done ∧ x.off = y.off := by
  obtain ⟨a, b⟩ := x; obtain ⟨c, d⟩ := y; simp
theorem run_eql_st (x y : Stt) (w : World) : (binOp .eql 54 (sv x) (sv y)).run Try.prog w = .ok (.bool (decide (x = y))) w := by
  have e1 : ((x.done : Int) = (y.done : Int)) ↔ x.done = y.done := by omega
  have e2 := @offI_inj x.off y.off
  by_cases h1 : x.done = y.done <;> by_cases h2 : x.off = y.off <;> simp [go_sem, stt_eq, e1, e2, h1, h2]
theorem run_equal_st (x y : Stt) (w : World) : (Op.equal 54 (sv x) (sv y)).run Try.prog w = .ok (decide (x = y)) w := by
  have h : (do let b ← Op.equal 54 (sv x) (sv y); pure (Value.bool b) : Sem Value).run Try.prog w = .ok (.bool (decide (x = y))) w := run_eql_st x y w
  rw [Sem.run_bind] at h
  revert h
  cases hr : (Op.equal 54 (sv x) (sv y)).run Try.prog w with
  | ok b w' =>
    intro h
    simp only [Result.andThen_ok, Sem.run_pure] at h
    injection h with h1 h2
    injection h1 with h1
    rw [h1, h2]
  | halt e w' => intro h; cases h
theorem run_checkKey_st (b : Bool) (x : Stt) (w : World) : (Instr.checkKey b 10000 54 (sv x)).run Try.prog w = .ok () w := by
  cases b <;> kernel_rfl
theorem zero_step (w : World) : (zeroValue 88).run Try.prog w = .ok (.agg #[.int .i64 0, .int .i64 0, .int .i64 0]) w := by kernel_rfl
/-- The first entry of a key. -/
def findL : List (Stt × Stp) → Stt → Nat → Option (Nat × Stp)
  | [], _, _ => none
  | (k, v) :: t, x, i => if x = k then some (i, v) else findL t x (i + 1)
theorem run_find (x : Stt) (w : World) : ∀ (es : List MapEntry) (L : List (Stt × Stp)) (i : Nat), es.map (fun e => (e.key, e.val)) = L.map (fun e => (sv e.1, pv e.2)) →
    (Instr.findAsking 54 (sv x) es i).run Try.prog w = .ok ((findL L x i).map fun r => (r.1, pv r.2)) w
  | [], [], i, _ => rfl
  | [], _ :: _, _, h => by cases h
  | _ :: _, [], _, h => by cases h
  | e :: es, (k, v) :: L, i, h => by
    simp only [List.map_cons, List.cons.injEq, Prod.mk.injEq] at h
    obtain ⟨⟨h1, h2⟩, h3⟩ := h
    rw [Instr.findAsking, h1]
    simp only [Sem.run_bind, run_equal_st, Result.andThen_ok]
    rw [findL]
    by_cases hx : x = k
    · simp [hx, h2]
    · simp only [hx, decide_false, Bool.false_eq_true, if_false]
      exact run_find x w es L (i + 1) h3
theorem run_findKey_st (x : Stt) (w : World) (es : List MapEntry) (L : List (Stt × Stp)) (h : es.map (fun e => (e.key, e.val)) = L.map (fun e => (sv e.1, pv e.2))) :
    (Instr.findKey 54 (sv x) es).run Try.prog w = .ok ((findL L x 0).map fun r => (r.1, pv r.2)) w := by
  unfold Instr.findKey
  simp only [Sem.run_bind, run_underlying Try.underlying54, Result.andThen_ok]
  cases es with
  | nil => cases L with
    | nil => rfl
    | cons a t => cases h
  | cons e es =>
    have := run_find x w (e :: es) L 0 h
    simp only [Instr.findNow, Instr.sameNow]
    exact this
/-- Block b is a map that reads as L. -/
def MpAt (w : World) (b : Nat) (L : List (Stt × Stp)) : Prop := ∃ es clock, w.heap[b]? = some (.map es clock) ∧ es.toList.map (fun e => (e.key, e.val)) = L.map (fun e => (sv e.1, pv e.2))
theorem MpAt.lt {w : World} {b : Nat} {L : List (Stt × Stp)} (h : MpAt w b L) : b < w.heap.size := by
  obtain ⟨es, c, h1, _⟩ := h; exact lt_of_block h1
theorem MpAt.block {w w' : World} {b : Nat} {L : List (Stt × Stp)} (h : MpAt w b L) (hb : w'.heap[b]? = w.heap[b]?) : MpAt w' b L := by
  obtain ⟨es, c, h1, h2⟩ := h; exact ⟨es, c, hb.trans h1, h2⟩
theorem MpAt.next {w w' : World} {b : Nat} {L : List (Stt × Stp)} (h : MpAt w b L) (hb : Below w.heap.size w w') : MpAt w' b L := h.block (hb.block b h.lt)
theorem MpAt.set {w : World} {b : Nat} {L : List (Stt × Stp)} (h : MpAt w b L) {a : Addr} (ha : a.block ≠ b) (v : Value) : MpAt (w.setCell a v) b L := h.block (Below.heap_setCell _ _ _ _ (fun e => ha e.symm))
theorem MpAt.lookup {w : World} {b : Nat} {L : List (Stt × Stp)} (h : MpAt w b L) (x : Stt) (c : Bool) : (Instr.lookup 89 (.map (some b)) (sv x) c).run Try.prog w =
    .ok (match findL L x 0 with
      | some r => if c then .tuple #[pv r.2, .bool true] else pv r.2
      | none => if c then .tuple #[.agg #[.int .i64 0, .int .i64 0, .int .i64 0], .bool false] else .agg #[.int .i64 0, .int .i64 0, .int .i64 0]) w := by
  obtain ⟨es, cl, hb, hL⟩ := h
  unfold Instr.lookup
  simp only [Sem.run_bind, run_underlying Try.underlying89, Result.andThen_ok, MapKept.run_getObj_map hb, Sem.run_pure, run_checkKey_st, run_findKey_st x w es.toList L hL]
  cases findL L x 0 with
  | none => simp [zero_step, Result.andThen]
  | some r => simp
/-- What a list of entries says. -/
def find2 : List (Stt × Stp) → Stt → Option Stp
  | [], _ => none
  | (k, v) :: t, x => if x = k then some v else find2 t x
theorem findL_2 : ∀ (L : List (Stt × Stp)) (x : Stt) (i : Nat), (findL L x i).map (·.2) = find2 L x
  | [], x, i => rfl
  | (k, v) :: t, x, i => by
    rw [findL, find2]
    split
    · rfl
    · exact findL_2 t x (i + 1)
theorem findL_at : ∀ (L : List (Stt × Stp)) (x : Stt) (i : Nat) (r : Nat × Stp), findL L x i = some r → i ≤ r.1 ∧ L[r.1 - i]? = some (x, r.2)
  | [], x, i, r, h => by cases h
  | (k, v) :: t, x, i, r, h => by
    rw [findL] at h
    split at h
    · rename_i e; injection h with h; subst h; subst e; simp
    · obtain ⟨h1, h2⟩ := findL_at t x (i + 1) r h
      refine ⟨by omega, ?_⟩
      rw [show r.1 - i = (r.1 - (i + 1)) + 1 by omega, List.getElem?_cons_succ]; exact h2
def putL (L : List (Stt × Stp)) (x : Stt) (p : Stp) : List (Stt × Stp) := match findL L x 0 with
  | some r => L.set r.1 (x, p)
  | none => L ++ [(x, p)]
theorem find2_set : ∀ (L : List (Stt × Stp)) (x : Stt) (i : Nat) (r : Nat × Stp) (p : Stp) (y : Stt), findL L x i = some r → find2 (L.set (r.1 - i) (x, p)) y = if y = x then some p else find2 L y
  | [], x, i, r, p, y, h => by cases h
  | (k, v) :: t, x, i, r, p, y, h => by
    rw [findL] at h
    split at h
    · rename_i e; injection h with h; subst h; subst e
      simp only [Nat.sub_self, List.set_cons_zero, find2]
      by_cases hy : y = x <;> simp [hy]
    · rename_i e
      obtain ⟨h1, _⟩ := findL_at t x (i + 1) r h
      rw [show r.1 - i = (r.1 - (i + 1)) + 1 by omega, List.set_cons_succ, find2, find2_set t x (i + 1) r p y h, find2]
      by_cases hy : y = k
      · rw [if_pos hy, if_pos hy, if_neg (fun e2 : y = x => e (e2 ▸ hy))]
      · rw [if_neg hy, if_neg hy]
theorem find2_snoc : ∀ (L : List (Stt × Stp)) (x : Stt) (p : Stp) (y : Stt), find2 L x = none → find2 (L ++ [(x, p)]) y = if y = x then some p else find2 L y
  | [], x, p, y, _ => by simp [find2]
  | (k, v) :: t, x, p, y, h => by
    rw [find2] at h
    split at h
    · cases h
    · rename_i e
      rw [List.cons_append, find2, find2_snoc t x p y h, find2]
      by_cases hy : y = k
      · rw [if_pos hy, if_pos hy, if_neg (fun e2 : y = x => e (e2 ▸ hy))]
      · rw [if_neg hy, if_neg hy]
theorem find2_put (L : List (Stt × Stp)) (x : Stt) (p : Stp) : find2 (putL L x p) = putF (find2 L) x p := by
  funext y
  unfold putL putF
  cases h : findL L x 0 with
  | none =>
    simp only
    have h2 : find2 L x = none := by rw [← findL_2 L x 0, h]; rfl
    exact find2_snoc L x p y h2
  | some r =>
    simp only
    have := find2_set L x 0 r p y h
    rwa [Nat.sub_zero] at this
theorem stays_st (x : Stt) (w : World) : (Instr.keyThatStays (sv x) (sv x)).run Try.prog w = .ok (sv x) w := by
  unfold Instr.keyThatStays
  rw [if_pos]
  · rfl
  · simp [Instr.sameBits]
theorem MpAt.update {w : World} {b : Nat} {L : List (Stt × Stp)} (h : MpAt w b L) (x : Stt) (p : Stp) : ∃ w', (Instr.mapUpdate 89 (.map (some b)) (sv x) (pv p)).run Try.prog w = .ok () w' ∧ MpAt w' b (putL L x p) ∧ w.grownBy w' (some b) := by
  have hlt := h.lt
  obtain ⟨es, cl, hb, hL⟩ := h
  unfold Instr.mapUpdate putL
  simp only [Sem.run_bind, run_underlying Try.underlying89, Result.andThen_ok, MapKept.run_getObj_map hb, Sem.run_pure, run_checkKey_st, run_findKey_st x w es.toList L hL]
  have hlen : es.size = L.length := by have := congrArg List.length hL; simpa using this
  have hset : ∀ o : Obj, w.grownBy (ChangeMaps.setBlock w b o) (some b) := fun o => ⟨rfl, rfl, rfl, by simp [ChangeMaps.setBlock], fun k hk hne => by
    show (w.heap.setIfInBounds b o)[k]? = _
    rw [Array.getElem?_setIfInBounds, if_neg (fun e => hne (by rw [e]))]⟩
  have hget : ∀ o : Obj, (ChangeMaps.setBlock w b o).heap[b]? = some o := fun o => by
    show (w.heap.setIfInBounds b o)[b]? = _
    rw [Array.getElem?_setIfInBounds, if_pos rfl, if_pos hlt]
  cases hf : findL L x 0 with
  | none =>
    refine ⟨_, MapKept.run_setObj_map _ hb, ⟨_, _, hget _, ?_⟩, hset _⟩
    simp only [Array.toList_push, List.map_append, List.map_cons, List.map_nil, hL]
  | some r =>
    obtain ⟨h1, h2⟩ := findL_at L x 0 r hf
    rw [Nat.sub_zero] at h2
    have hr : r.1 < es.size := by rw [hlen]; exact (List.getElem?_eq_some_iff.1 h2).1
    have hkey : (es[r.1]).key = sv x := by
      have := congrArg (fun l => l[r.1]?) hL
      simp only [List.getElem?_map, h2] at this
      rw [Array.getElem?_toList, Array.getElem?_eq_getElem hr] at this
      simp at this
      exact this.1
    simp only [Option.map_some]
    rw [Array.getElem?_eq_getElem hr]
    simp only [Option.map_some, Option.getD_some, hkey, Sem.run_bind, stays_st, Result.andThen_ok]
    refine ⟨_, MapKept.run_setObj_map _ hb, ⟨_, _, hget _, ?_⟩, hset _⟩
    rw [Array.toList_modify, List.map_set, ← hL]
    apply List.ext_getElem?
    intro i
    rw [List.getElem?_map, List.getElem?_modify, List.getElem?_set, List.length_map]
    by_cases hi : r.1 = i
    · subst hi
      rw [if_pos rfl, if_pos (by simpa using hr)]
      rw [Array.getElem?_toList, Array.getElem?_eq_getElem hr]
      simp
    · rw [if_neg hi, List.getElem?_map]
      simp [hi]
end Go.Proofs.Ytaopfoicdjejnaa
