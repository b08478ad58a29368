/- The map of containers as it lies in memory. A range over an iterator that makes blocks and writes none that was there; the caller's rounds write some blocks of their own. -/
import Derived.Test.YtkabghifdedmfaaGreatDoorB6
import Derived.RangeFuncNested
import Derived.RangeFuncBound
import Derived.RangeFuncCalls
import Derived.RangeFuncLeaves
import Derived.RangeFuncBox
import Derived.RangeFuncWrites
import Derived.Shelf.Abstract
import Derived.Shelf.RegionOpen
import Derived.OwnWalkIn
import Derived.TacticsInMore
import Derived.LoopNIn
import Derived.LoopIn
import Derived.Maps.AppendAt
set_option linter.unusedVariables false
set_option linter.unusedSimpArgs false
namespace Go.Proofs.YtkabghifdedmfaaGreatDoor
open Go.RowKit

/-- Blocks that hold what they held. -/
theorem own_same {w w' : World} {base e size n : Nat} {v : Value} {xs : List Value} (h : w.ownsRow base e size v n xs) (hg : ∀ k, v.ownBlock = some k → w'.heap[k]? = w.heap[k]?) : w'.ownsRow base e size v n xs := by
  refine ⟨h.1, ?_⟩
  rcases h.2 with ⟨hv, h0⟩ | ⟨g', cap', cur, hv, hb, hh, rest⟩
  · exact .inl ⟨hv, h0⟩
  · subst hv
    exact .inr ⟨g', cap', cur, rfl, hb, (hg g' rfl).trans hh, rest⟩
theorem own_lt {w : World} {base e size n : Nat} {v : Value} {xs : List Value} (h : w.ownsRow base e size v n xs) {k : Nat} (hk : v.ownBlock = some k) : base ≤ k ∧ k < w.heap.size := by
  rcases h.2 with ⟨hv, h0⟩ | ⟨g', cap', cur, hv, hb, hh, rest⟩
  · subst hv; cases hk
  · subst hv
    cases hk
    exact ⟨hb, lt_of_block hh⟩
theorem Blk.same {w w' : World} {g : Nat} {cs : Array Value} {t : TypeId} (h : Blk w g cs t) (hg : w'.heap[g]? = w.heap[g]?) : Blk w' g cs t := hg.trans h

structure Ct where
  s : ByteArray
  g : Nat
  a : Stp
  b : Stp
  i : Nat
  j : Nat
  v : Value
  ins : List Nat
def Ct.cells (c : Ct) : List Value := [.int .i64 c.a.office, .int .i64 c.a.arrive, .int .i64 c.a.depart, .int .i64 c.a.line, .int .i64 c.b.office, .int .i64 c.b.arrive, .int .i64 c.b.depart, .int .i64 c.b.line, .int .i64 (c.i : Int), .int .i64 (c.j : Int), c.v]
def Ct.ptr (c : Ct) : Value := .pointer (some ⟨c.g, 0, none⟩)
def Ct.Own (c : Ct) (k : Nat) : Prop := k = c.g ∨ c.v.ownBlock = some k
abbrev strK : ByteArray → Value := fun s => .string s
abbrev natsV (l : List Nat) : List Value := l.map fun (i : Nat) => Value.int .i64 (i : Int)
structure CtsAt (w : World) (base gm : Nat) (L : List Ct) : Prop where
  map : MpAt strK w gm (L.map fun c => (c.s, c.ptr))
  blk : ∀ c ∈ L, Blk w c.g c.cells.toArray 145
  row : ∀ c ∈ L, w.ownsRow base 3 1 c.v c.ins.length (natsV c.ins)
  self : ∀ c ∈ L, c.v.ownBlock ≠ some c.g
  dis : L.Pairwise (fun c d => ∀ k, c.Own k → ¬ d.Own k)
  off : ∀ c ∈ L, ∀ k, c.Own k → k ≠ gm ∧ base ≤ k
  gmb : base ≤ gm
section
variable {w w' : World} {base gm : Nat} {L : List Ct}
theorem CtsAt.lt (h : CtsAt w base gm L) {c : Ct} (hc : c ∈ L) {k : Nat} (hk : c.Own k) : k < w.heap.size := by
  rcases hk with rfl | hk
  · exact (h.blk c hc).lt
  · exact (own_lt (h.row c hc) hk).2
theorem CtsAt.keep (h : CtsAt w base gm L) (hm : w'.heap[gm]? = w.heap[gm]?) (hk : ∀ c ∈ L, ∀ k, c.Own k → w'.heap[k]? = w.heap[k]?) : CtsAt w' base gm L :=
  ⟨h.map.block hm, fun c hc => (h.blk c hc).same (hk c hc _ (.inl rfl)), fun c hc => own_same (h.row c hc) fun k hb => hk c hc k (.inr hb), h.self, h.dis, h.off, h.gmb⟩
theorem CtsAt.next (h : CtsAt w base gm L) (hb : Below w.heap.size w w') : CtsAt w' base gm L :=
  h.keep (hb.block _ h.map.lt) fun c hc k hk => hb.block _ (h.lt hc hk)
theorem CtsAt.new (w : World) {base : Nat} (hb : base ≤ w.heap.size) : CtsAt (w.alloc (.map #[] 0)) base w.heap.size [] :=
  ⟨MpAt.new w, by simp, by simp, by simp, List.Pairwise.nil, by simp, hb⟩
theorem find2_cts (s : ByteArray) : ∀ L : List Ct, find2 (L.map fun c => (c.s, c.ptr)) s = (L.find? fun c => decide (c.s = s)).map Ct.ptr
  | [] => rfl
  | c :: L => by
    rw [List.map_cons, find2, List.find?_cons]
    by_cases h : s = c.s
    · rw [if_pos h]; simp [h]
    · rw [if_neg h, find2_cts s L]
      have : decide (c.s = s) = false := by simpa using fun e : c.s = s => h e.symm
      rw [this]
/-- A new container. -/
theorem CtsAt.add (h : CtsAt w base gm L) (hb : base ≤ w.heap.size) (s : ByteArray) (a b : Stp) (i j : Nat) (hs : L.find? (fun c => decide (c.s = s)) = none) (hs2 : Blk w' w.heap.size (Ct.cells ⟨s, w.heap.size, a, b, i, j, .slice none 0 0, []⟩).toArray 145)
    (hm : MpAt strK w' gm (putL (L.map fun c => (c.s, c.ptr)) s (.pointer (some ⟨w.heap.size, 0, none⟩)))) (hg : ∀ k, k < w.heap.size → k ≠ gm → w'.heap[k]? = w.heap[k]?) :
    CtsAt w' base gm (L ++ [⟨s, w.heap.size, a, b, i, j, .slice none 0 0, []⟩]) := by
  have hn : find2 (L.map fun c => (c.s, c.ptr)) s = none := by rw [find2_cts, hs]; rfl
  rw [putL_new hn] at hm
  have hold : ∀ c ∈ L, ∀ k, c.Own k → w'.heap[k]? = w.heap[k]? := fun c hc k hk => hg k (h.lt hc hk) (h.off c hc k hk).1
  have hown : ∀ k, Ct.Own ⟨s, w.heap.size, a, b, i, j, .slice none 0 0, []⟩ k → k = w.heap.size := fun k hk => by
    rcases hk with hk | hk
    · exact hk
    · cases hk
  refine ⟨by rw [List.map_append]; exact hm, fun c hc => ?_, fun c hc => ?_, fun c hc => ?_, ?_, fun c hc k hk => ?_, h.gmb⟩
  · rcases List.mem_append.1 hc with hc | hc
    · exact (h.blk c hc).same (hold c hc _ (.inl rfl))
    · rw [List.mem_singleton.1 hc]; exact hs2
  · rcases List.mem_append.1 hc with hc | hc
    · exact own_same (h.row c hc) fun k hb => hold c hc k (.inr hb)
    · rw [List.mem_singleton.1 hc]; exact World.ownsRow_nil _ _ _ _
  · rcases List.mem_append.1 hc with hc | hc
    · exact h.self c hc
    · rw [List.mem_singleton.1 hc]; simp [Value.ownBlock]
  · rw [List.pairwise_append]
    refine ⟨h.dis, by simp, fun c hc d hd k hk hk2 => ?_⟩
    rw [List.mem_singleton.1 hd] at hk2
    have h1 := hown k hk2
    have h2 := h.lt hc hk
    omega
  · rcases List.mem_append.1 hc with hc | hc
    · exact h.off c hc k hk
    · rw [List.mem_singleton.1 hc] at hk
      have h1 := hown k hk
      have h2 := h.map.lt
      exact ⟨by omega, by omega⟩
/-- A container gets a further track. -/
theorem CtsAt.app {A B : List Ct} {c : Ct} {w1 : World} {v' : Value} (i : Nat) (h : CtsAt w base gm (A ++ c :: B)) (hgr : w.grownBy w1 c.v.ownBlock) (hown : w1.ownsRow base 3 1 v' (c.ins.length + 1) (natsV c.ins ++ [.int .i64 (i : Int)])) (hbase : base ≤ w.heap.size)
    (hw : v'.ownBlock = c.v.ownBlock ∨ ∀ k, v'.ownBlock = some k → w.heap.size ≤ k) :
    CtsAt (w1.setCell ⟨c.g, 10, none⟩ v') base gm (A ++ { c with v := v', ins := c.ins ++ [i] } :: B) := by
  have hc : c ∈ A ++ c :: B := by simp
  have hcg : c.v.ownBlock ≠ some c.g := h.self c hc
  have hg2 : c.g < w.heap.size := h.lt hc (.inl rfl)
  have hdis := h.dis
  rw [List.pairwise_append, List.pairwise_cons] at hdis
  obtain ⟨d1, ⟨d2, d3⟩, d4⟩ := hdis
  have hset : ∀ k, k ≠ c.g → (w1.setCell ⟨c.g, 10, none⟩ v').heap[k]? = w1.heap[k]? := fun k hk => Below.heap_setCell _ _ _ _ hk
  have hk1 : ∀ k, k < w.heap.size → c.v.ownBlock ≠ some k → w1.heap[k]? = w.heap[k]? := fun k hk hne => hgr.block k hk (fun e => hne e.symm)
  have hother : ∀ d ∈ A ++ c :: B, (∀ k, d.Own k → ¬ c.Own k) → ∀ k, d.Own k → (w1.setCell ⟨c.g, 10, none⟩ v').heap[k]? = w.heap[k]? := fun d hd hdc k hk => by
    rw [hset k (fun e => hdc k hk (.inl e)), hk1 k (h.lt hd hk) (fun e => hdc k hk (.inr e))]
  have hA : ∀ d ∈ A, ∀ k, d.Own k → ¬ c.Own k := fun d hd k hk => d4 d hd c (by simp) k hk
  have hB : ∀ d ∈ B, ∀ k, d.Own k → ¬ c.Own k := fun d hd k hk hk2 => d2 d hd k hk2 hk
  have hrest : ∀ d, d ∈ A ∨ d ∈ B → ∀ k, d.Own k → (w1.setCell ⟨c.g, 10, none⟩ v').heap[k]? = w.heap[k]? := fun d hd => by
    rcases hd with hd | hd
    · exact hother d (by simp [hd]) (hA d hd)
    · exact hother d (by simp [hd]) (hB d hd)
  have hv'g : v'.ownBlock ≠ some c.g := fun e => by
    rcases hw with hw | hw
    · exact hcg (hw ▸ e)
    · have := hw _ e; omega
  have hnew : ∀ k, Ct.Own { c with v := v', ins := c.ins ++ [i] } k → c.Own k ∨ w.heap.size ≤ k := fun k hk => by
    rcases hk with hk | hk
    · exact .inl (.inl hk)
    · rcases hw with hw | hw
      · exact .inl (.inr (hw ▸ hk))
      · exact .inr (hw k hk)
  have hmem : ∀ d, d ∈ A ++ { c with v := v', ins := c.ins ++ [i] } :: B → (d ∈ A ∨ d ∈ B) ∨ d = { c with v := v', ins := c.ins ++ [i] } := fun d hd => by
    rcases List.mem_append.1 hd with hd | hd
    · exact .inl (.inl hd)
    · rcases List.mem_cons.1 hd with rfl | hd
      · exact .inr rfl
      · exact .inl (.inr hd)
  have hin : ∀ d, d ∈ A ∨ d ∈ B → d ∈ A ++ c :: B := fun d hd => by rcases hd with hd | hd <;> simp [hd]
  have hgm := h.off c hc
  refine ⟨?_, fun d hd => ?_, fun d hd => ?_, fun d hd => ?_, ?_, fun d hd k hk => ?_, h.gmb⟩
  · have := h.map.block (w' := w1.setCell ⟨c.g, 10, none⟩ v') (by
      rw [hset gm (fun e => (hgm c.g (.inl rfl)).1 e.symm), hk1 gm h.map.lt (fun e => (hgm gm (.inr e)).1 rfl)])
    simpa [Ct.ptr] using this
  · rcases hmem d hd with hd | rfl
    · exact (h.blk d (hin d hd)).same (hrest d hd _ (.inl rfl))
    · have h1 : Blk w1 c.g c.cells.toArray 145 := (h.blk c hc).same (hk1 _ hg2 hcg)
      have := h1.set 10 v'
      simpa [Ct.cells] using this
  · rcases hmem d hd with hd | rfl
    · exact own_same (h.row d (hin d hd)) fun k hb => hrest d hd k (.inr hb)
    · have := own_same hown (w' := w1.setCell ⟨c.g, 10, none⟩ v') (fun k hk => hset k (fun e => hv'g (e ▸ hk)))
      simpa [natsV] using this
  · rcases hmem d hd with hd | rfl
    · exact h.self d (hin d hd)
    · exact hv'g
  · rw [List.pairwise_append, List.pairwise_cons]
    refine ⟨d1, ⟨fun d hd k hk hk2 => ?_, d3⟩, fun d hd e he k hk hk2 => ?_⟩
    · rcases hnew k hk with hk | hk
      · exact hB d hd k hk2 hk
      · have := h.lt (hin d (.inr hd)) hk2; omega
    · rcases List.mem_cons.1 he with rfl | he
      · rcases hnew k hk2 with hk2 | hk2
        · exact hA d hd k hk hk2
        · have := h.lt (hin d (.inl hd)) hk; omega
      · exact d4 d hd e (by simp [he]) k hk hk2
  · rcases hmem d hd with hd | rfl
    · exact h.off d (hin d hd) k hk
    · rcases hnew k hk with hk | hk
      · exact hgm k hk
      · have := h.map.lt; exact ⟨by omega, by omega⟩
end
end Go.Proofs.YtkabghifdedmfaaGreatDoor

namespace Go.Proofs.YtkabghifdedmfaaGreatDoor
open Go.RowKit

/-- What is not bad lies as it lay, and stays so. -/
def Kpb (bad : World → Nat → Prop) (A B : World) : Prop := A.heap.size ≤ B.heap.size ∧ ∀ k, k < A.heap.size → ¬ bad A k → B.heap[k]? = A.heap[k]? ∧ ¬ bad B k
theorem Kpb.refl (bad : World → Nat → Prop) (A : World) : Kpb bad A A := ⟨Nat.le_refl _, fun _ _ h => ⟨rfl, h⟩⟩
theorem Kpb.trans {bad : World → Nat → Prop} {A B C : World} (h : Kpb bad A B) (k : Kpb bad B C) : Kpb bad A C :=
  ⟨Nat.le_trans h.1 k.1, fun j hj hb => by
    obtain ⟨h1, h2⟩ := h.2 j hj hb
    obtain ⟨k1, k2⟩ := k.2 j (Nat.lt_of_lt_of_le hj h.1) h2
    exact ⟨k1.trans h1, k2⟩⟩
theorem Kpb.more {bad : World → Nat → Prop} {A B : World} (l : Nat) (h : Kpb bad A B) : Kpb (fun W k => k = l ∨ bad W k) A B :=
  ⟨h.1, fun j hj hb => by
    obtain ⟨h1, h2⟩ := h.2 j hj (fun hh => hb (.inr hh))
    exact ⟨h1, fun hh => by rcases hh with hh | hh; exact hb (.inl hh); exact h2 hh⟩⟩

/-- An iterator that makes blocks, and writes none that was there, whose caller never stops it. K: blocks that it reads; Px: what it lays for an element. -/
def SeqB {α : Type} (F : Fence) (n : Nat) (P : Program) (g : Nat) (lb : Array Value) (encs : α → Array Value) (Px : α → World → Prop) (K : Nat → Prop) (S : List α → Prop) (N : Nat) (w : World) : Prop :=
  ∀ (l : Nat) (J : List α → World → Prop) (bad : World → Nat → Prop) (W : World), Below w.heap.size w W →
    (∀ s A B, J s A → Below A.heap.size A B → J s B ∧ ∀ k, bad B k → bad A k ∧ k < A.heap.size) → (∀ k, K k → ¬ bad W k) →
    (∀ pre x W1, J pre W1 → Px x W1 → pre.length < N → YieldAt F (n - 1) P l (encs x) W1 fun e W' => e = .returned (.bool true) ∧ J (pre ++ [x]) W' ∧ Kpb bad W1 W') →
    J [] W →
    CallsIn F n P g (#[.func (.yield l) #[] #[]] ++ lb) W fun e W' => (∃ v, e = .returned v) ∧ ∃ xs, S xs ∧ J xs W'

/-- What the caller's word must abide: new blocks, and turns of objects that are no cells and lie from B on. -/
def OwnB {β : Type} (B : Nat) (I : β → World → Prop) : Prop :=
  ∀ s W W' row, I s W → W.grownBy W' row → (∀ r, row = some r → B ≤ r ∧ ∃ o : Obj, W.heap[r]? = some o ∧ o.isCells = false) → I s W'
def BadB {β : Type} (B : Nat) (I : β → World → Prop) (bad : World → Nat → Prop) : Prop :=
  ∀ s W W' row, I s W → W.grownBy W' row → (∀ r, row = some r → B ≤ r ∧ ∃ o : Obj, W.heap[r]? = some o ∧ o.isCells = false) → ∀ k, bad W' k → bad W k ∧ k < W.heap.size
theorem grown_of_below {A B : World} (h : Below A.heap.size A B) : A.grownBy B none := ⟨h.os, h.tape, h.output, h.size, fun k hk _ => h.block k hk⟩

end Go.Proofs.YtkabghifdedmfaaGreatDoor
