import Derived.Test.YtkbdkkllfaljlaaC1
import Derived.WideMake
import Derived.ChangeMaps5
set_option linter.unusedVariables false
set_option linter.unusedSimpArgs false
namespace Go.Proofs.Ytkbdkkllfaljlaa
open Go.RowKit Go.ChangeMaps

/-- The entries of a map from strings to strings, in the order in which they were laid. -/
def esOf (l : List (ByteArray × ByteArray)) : Array MapEntry := (l.mapIdx fun i p => ⟨.string p.1, .string p.2, i⟩).toArray
theorem esOf_push (l : List (ByteArray × ByteArray)) (k v : ByteArray) : (esOf l).push ⟨.string k, .string v, l.length⟩ = esOf (l ++ [(k, v)]) := by
  simp [esOf]
theorem find_es (s : ByteArray) (l : List (ByteArray × ByteArray)) : ∃ r, Instr.findNow .string (.string s) (esOf l).toList 0 = some r ∧ r.map (·.2) = (l.find? (fun p => s == p.1)).map (fun p => Value.string p.2) := by
  have H : ∀ (l : List (ByteArray × ByteArray)) (f : Nat → Nat) (i : Nat), ∃ r, Instr.findNow .string (.string s) (l.mapIdx fun i p => (⟨.string p.1, .string p.2, f i⟩ : MapEntry)) i = some r ∧ r.map (·.2) = (l.find? (fun p => s == p.1)).map (fun p => Value.string p.2) := by
    intro l
    induction l with
    | nil => intro f i; exact ⟨none, rfl, rfl⟩
    | cons p t ih =>
      intro f i
      rw [List.mapIdx_cons]
      unfold Instr.findNow
      cases e : (s == p.1) with
      | true =>
        simp only [Instr.sameNow, e]
        exact ⟨_, rfl, by simp [List.find?_cons, e]⟩
      | false =>
        simp only [Instr.sameNow, e]
        obtain ⟨r, h1, h2⟩ := ih (fun i => f (i + 1)) (i + 1)
        exact ⟨r, h1, by rw [h2, List.find?_cons, e]⟩
  exact H l (fun i => i) 0
/-- A map from strings to strings under way: what is in it; nothing old has turned. -/
structure MapSt (w0 : World) (g : Nat) (l : List (ByteArray × ByteArray)) (w : World) : Prop where
  ge : w0.heap.size ≤ g
  heap : w.heap[g]? = some (.map (esOf l) l.length)
  below : Below w0.heap.size w0 w
theorem MapSt.new (w : World) : MapSt w w.heap.size [] (w.alloc (.map #[] 0)) := ⟨Nat.le_refl _, heap_alloc_new w _, balloc (Below.refl _ _) _⟩
theorem und63 : Try.prog.underlying 63 = some (.map 9 9) := by kernel_rfl
theorem MapSt.insert {w0 w : World} {g : Nat} {l : List (ByteArray × ByteArray)} (h : MapSt w0 g l w) (k v : ByteArray) (hk : l.find? (fun p => k == p.1) = none) :
    ∃ w', (Instr.mapUpdate 63 (.map (some g)) (.string k) (.string v)).run Try.prog w = .ok () w' ∧ MapSt w0 g (l ++ [(k, v)]) w' := by
  obtain ⟨r, h1, h2⟩ := find_es k l
  rw [hk] at h2
  have h3 : r = none := by cases r <;> simp at h2 ⊢
  rw [h3] at h1
  have hc : (Instr.checkKey false 10000 9 (.string k)).run Try.prog w = .ok () w := MapKept.run_checkKey (k := .string k) Try.underlying9 (by simp [MapKept.IsKey]) false 9999
  refine ⟨setBlock w g (.map (esOf (l ++ [(k, v)])) (l.length + 1)), ?_, ?_⟩
  · simp [Instr.mapUpdate, run_underlying und63, MapKept.run_getObj_map h.heap, hc, MapKept.run_findKey Try.underlying9 h1, MapKept.run_setObj_map _ h.heap, Result.andThen, setBlock, esOf_push]
  · refine ⟨h.ge, ?_, ?_⟩
    · rw [heap_setBlock_same h.heap, List.length_append]; rfl
    · exact h.below.trans ⟨rfl, rfl, rfl, by simp [setBlock], fun i hi => heap_setBlock_other h.heap _ (by have := h.ge; omega)⟩
theorem MapSt.lookup {w0 w : World} {g : Nat} {l : List (ByteArray × ByteArray)} (h : MapSt w0 g l w) (s : ByteArray) :
    (Instr.lookup 63 (.map (some g)) (.string s) true).run Try.prog w = .ok (.tuple #[.string (((l.find? (fun p => s == p.1)).map (·.2)).getD ⟨#[]⟩), .bool (l.find? (fun p => s == p.1)).isSome]) w := by
  obtain ⟨r, h1, h2⟩ := find_es s l
  have hc : ∀ b, (Instr.checkKey b 10000 9 (.string s)).run Try.prog w = .ok () w := fun b => MapKept.run_checkKey (k := .string s) Try.underlying9 (by simp [MapKept.IsKey]) b 9999
  have hz : Sem.run Try.prog (zeroValue 9) w = .ok (.string ⟨#[]⟩) w := by kernel_rfl
  cases hf : l.find? (fun p => s == p.1) with
  | none =>
    rw [hf] at h2
    have h3 : r = none := by cases r <;> simp at h2 ⊢
    rw [h3] at h1
    simp [Instr.lookup, run_underlying und63, MapKept.run_getObj_map h.heap, hc, MapKept.run_findKey Try.underlying9 h1, Result.andThen, hz]
  | some p =>
    rw [hf] at h2
    obtain ⟨i, rfl⟩ : ∃ i, r = some (i, .string p.2) := by
      cases r with
      | none => simp at h2
      | some x => refine ⟨x.1, ?_⟩; simp at h2; rw [← h2]
    simp [Instr.lookup, run_underlying und63, MapKept.run_getObj_map h.heap, hc, MapKept.run_findKey Try.underlying9 h1, Result.andThen]
theorem wpList_insert {w0 w : World} {ops : Array Oper} {rest : List Oper} {o : Oper} {a : Act} {Q : Exit → Act → World → Prop} (hg : o.guard = none) (m x v : Operand) (hop : o.op = Op.insert 63 m x v)
    (g : Nat) (l : List (ByteArray × ByteArray)) (k u : ByteArray) (hm : a.eval m = .map (some g)) (h : MapSt w0 g l w) (hx : a.eval x = .string k) (hv : a.eval v = .string u) (hk : l.find? (fun p => k == p.1) = none)
    (hK : ∀ w', MapSt w0 g (l ++ [(k, u)]) w' → wpList Try.prog ops Q rest (a.put o.dst undef) w') :
    wpList Try.prog ops Q (o :: rest) a w := by
  refine wpList_plain hg fun K' hK' => ?_
  obtain ⟨w', hrun, h2⟩ := h.insert k u hk
  unfold Oper.wp
  simp [execOp, hop, hm, hx, hv, hrun, Result.andThen]
  exact hK' _ _ (hK w' h2)
/-- What the last words become. -/
def endL : List (ByteArray × ByteArray) := [(⟨#[115, 116, 114, 101, 101, 116]⟩, ⟨#[115, 116]⟩), (⟨#[115, 116, 114, 46]⟩, ⟨#[115, 116]⟩), (⟨#[115, 116, 114]⟩, ⟨#[115, 116]⟩), (⟨#[115, 116, 46]⟩, ⟨#[115, 116]⟩), (⟨#[114, 111, 97, 100]⟩, ⟨#[114, 100]⟩), (⟨#[114, 100, 46]⟩, ⟨#[114, 100]⟩), (⟨#[97, 118, 101, 110, 117, 101]⟩, ⟨#[97, 118, 101]⟩), (⟨#[97, 118, 101, 46]⟩, ⟨#[97, 118, 101]⟩), (⟨#[108, 97, 110, 101]⟩, ⟨#[108, 110]⟩), (⟨#[108, 110, 46]⟩, ⟨#[108, 110]⟩), (⟨#[115, 113, 117, 97, 114, 101]⟩, ⟨#[115, 113]⟩), (⟨#[115, 113, 46]⟩, ⟨#[115, 113]⟩)]
set_option maxRecDepth 100000 in
set_option maxHeartbeats 1000000 in
theorem endings_c (w : World) (R) (hR : ∀ w', MapSt w w.heap.size endL w' → R (.returned (.map (some w.heap.size))) w') : Calls Try.prog 30 #[] w R := by
  have HR := hide hR; clear hR
  have hmk := run_makeMap_plain (P := Try.prog) w 63
  have hmap := MapSt.new w
  go_enter Try.func30, Try.ntmps30
  go_wp2_with (refine wpList_insert rfl _ _ _ rfl _ _ _ _ rfl hmap rfl rfl (by kernel_rfl) ?_; clear hmap; intro w1 hmap)
  exact HR.out _ hmap
end Go.Proofs.Ytkbdkkllfaljlaa
