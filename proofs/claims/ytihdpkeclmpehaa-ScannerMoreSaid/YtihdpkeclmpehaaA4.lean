/- Plain: what the map of containers holds while it is filled. The map of containers as it lies in memory. A range over an iterator that makes blocks and writes none that was there; the caller's rounds write some blocks of their own. The map of containers is made. -/
import Derived.Test.YtihdpkeclmpehaaA1
import Derived.Test.YtihdpkeclmpehaaA2
import Derived.RangeFuncNested
import Derived.RangeFuncBound
import Derived.RangeFuncCalls
import Derived.RangeFuncLeaves
import Derived.RangeFuncBox
import Derived.RangeFuncWrites
import Derived.Shelf.Abstract
import Derived.Shelf.RegionOpen
import Derived.OwnWalkIn
import Derived.TacticsInMore
import Derived.LoopNIn
import Derived.LoopIn
import Derived.Maps.AppendAt
set_option linter.unusedVariables false
set_option linter.unusedSimpArgs false
namespace Go.Proofs.Ytihdpkeclmpehaa

abbrev hereP (t : Tk) (j : Nat) (s : ByteArray) : Option Nat := (t.seals.take j).findIdx? (fun x => decide (x = s))
theorem findIdx_none {l : List ByteArray} {s : ByteArray} : l.findIdx? (fun x => decide (x = s)) = none ↔ s ∉ l := by
  rw [List.findIdx?_eq_none_iff]
  constructor
  · intro h hs; have := h s hs; simp at this
  · intro h x hx
    simp only [decide_eq_false_iff_not]
    rintro rfl; exact h hx
theorem findIdx_snoc (l : List ByteArray) (e s : ByteArray) : (l ++ [e]).findIdx? (fun x => decide (x = s)) = match l.findIdx? (fun x => decide (x = s)) with | some j => some j | none => if e = s then some l.length else none := by
  rw [List.findIdx?_append]
  cases l.findIdx? (fun x => decide (x = s)) with
  | some j => rfl
  | none =>
    by_cases h : e = s
    · simp [h, List.findIdx?_cons]
    · simp [h, List.findIdx?_cons]
theorem hereP_succ {t : Tk} {j : Nat} {e : ByteArray} (he : t.seals[j]? = some e) (s : ByteArray) : hereP t (j + 1) s = match hereP t j s with | some b => some b | none => if e = s then some j else none := by
  have hj := (List.getElem?_eq_some_iff.1 he).1
  unfold hereP
  rw [List.take_add_one, he]
  show ((t.seals.take j) ++ [e]).findIdx? _ = _
  rw [findIdx_snoc]
  have : (t.seals.take j).length = j := by rw [List.length_take]; omega
  rw [this]
theorem firstP_snoc (s : ByteArray) (t : Tk) : ∀ l : List Tk, firstP (l ++ [t]) s = match firstP l s with | some p => some p | none => (t.seals.findIdx? (fun x => decide (x = s))).map fun j => (l.length, j)
  | [] => by
    rw [List.nil_append, firstP, firstP, firstP]
    cases t.seals.findIdx? (fun x => decide (x = s)) <;> rfl
  | u :: l => by
    rw [List.cons_append, firstP, firstP]
    cases u.seals.findIdx? (fun x => decide (x = s)) with
    | some j => rfl
    | none =>
      simp only
      rw [firstP_snoc s t l]
      cases firstP l s with
      | some p => rfl
      | none => cases t.seals.findIdx? (fun x => decide (x = s)) <;> rfl
theorem insideP_snoc (s : ByteArray) (t : Tk) (l : List Tk) : insideP (l ++ [t]) s = insideP l s ++ if t.seals.any (fun x => decide (x = s)) then [l.length] else [] := by
  unfold insideP
  rw [List.length_append, List.length_singleton, List.range_succ, List.filter_append]
  congr 1
  · apply List.filter_congr
    intro i hi
    rw [List.mem_range] at hi
    rw [List.getElem?_append_left hi]
  · simp only [List.filter_cons, List.filter_nil, List.getElem?_concat_length]
theorem insideP_lt {l : List Tk} {s : ByteArray} {i : Nat} (h : i ∈ insideP l s) : i < l.length := by
  unfold insideP at h
  rw [List.mem_filter, List.mem_range] at h
  exact h.1
theorem insideP_len (l : List Tk) (s : ByteArray) : (insideP l s).length ≤ l.length := by
  unfold insideP
  have := List.length_filter_le (fun i => match l[i]? with | some t => t.seals.any (fun x => decide (x = s)) | none => false) (List.range l.length)
  rwa [List.length_range] at this
/-- What the map says when the tracks before i, and the seals before j of track i, are done. -/
def specC (ts : List Tk) (i : Nat) (t : Tk) (j : Nat) (s : ByteArray) : Option (Nat × Nat × List Nat) :=
  match firstP (ts.take i) s with
  | some p => some (p.1, p.2, insideP (ts.take i) s ++ if (hereP t j s).isSome then [i] else [])
  | none => (hereP t j s).map fun b => (i, b, [i])
/-- What it says when the tracks before i are done. -/
def specD (ts : List Tk) (i : Nat) (s : ByteArray) : Option (Nat × Nat × List Nat) := (firstP (ts.take i) s).map fun p => (p.1, p.2, insideP (ts.take i) s)
theorem specD_zero (ts : List Tk) (s : ByteArray) : specD ts 0 s = none := rfl
theorem specC_zero (ts : List Tk) (i : Nat) (t : Tk) (s : ByteArray) : specC ts i t 0 s = specD ts i s := by
  unfold specC specD hereP
  cases firstP (ts.take i) s <;> simp
theorem specD_all (ts : List Tk) (s : ByteArray) : specD ts ts.length s = (firstP ts s).map fun p => (p.1, p.2, insideP ts s) := by
  unfold specD; rw [List.take_length]
theorem specC_next {ts : List Tk} {i : Nat} {t : Tk} (ht : ts[i]? = some t) (s : ByteArray) : specC ts i t t.seals.length s = specD ts (i + 1) s := by
  have hi := (List.getElem?_eq_some_iff.1 ht).1
  unfold specC specD
  rw [List.take_add_one, ht]
  show _ = (firstP (ts.take i ++ [t]) s).map _
  rw [firstP_snoc]
  rw [show insideP (ts.take i ++ (some t).toList) s = insideP (ts.take i ++ [t]) s from rfl, insideP_snoc]
  have hl : (ts.take i).length = i := by rw [List.length_take]; omega
  rw [hl]
  unfold hereP
  rw [List.take_length]
  have ha : t.seals.any (fun x => decide (x = s)) = (t.seals.findIdx? (fun x => decide (x = s))).isSome := List.findIdx?_isSome.symm
  cases hf : firstP (ts.take i) s with
  | some p => simp only [Option.map_some, ha]
  | none =>
    simp only
    cases hh : t.seals.findIdx? (fun x => decide (x = s)) with
    | none => rfl
    | some b =>
      simp only [Option.map_some]
      rw [ha, hh]
      have : insideP (ts.take i) s = [] := by
        cases hin : insideP (ts.take i) s with
        | nil => rfl
        | cons k r =>
          exfalso
          have hk : k ∈ insideP (ts.take i) s := by rw [hin]; simp
          exact inside_first hf hk
      rw [this]; rfl
where
  inside_first {l : List Tk} {s : ByteArray} {k : Nat} (hf : firstP l s = none) (hk : k ∈ insideP l s) : False := by
    unfold insideP at hk
    rw [List.mem_filter, List.mem_range] at hk
    obtain ⟨h1, h2⟩ := hk
    induction l generalizing k with
    | nil => simp at h1
    | cons t l ih =>
      rw [firstP] at hf
      cases hx : t.seals.findIdx? (fun x => decide (x = s)) with
      | some j => rw [hx] at hf; cases hf
      | none =>
        rw [hx] at hf
        simp only [Option.map_eq_none_iff] at hf
        cases k with
        | zero =>
          simp only [List.getElem?_cons_zero] at h2
          rw [← List.findIdx?_isSome, hx] at h2
          cases h2
        | succ k => exact ih hf (k := k) (by simp only [List.length_cons] at h1; omega) (by simpa using h2)
theorem specC_step {ts : List Tk} {i : Nat} {t : Tk} {j : Nat} {e : ByteArray} (hi : i ≤ ts.length) (he : t.seals[j]? = some e) (s : ByteArray) :
    specC ts i t (j + 1) s = if s = e then (match specC ts i t j e with | some (a, b, ins) => some (a, b, if ins.getLast? = some i then ins else ins ++ [i]) | none => some (i, j, [i])) else specC ts i t j s := by
  have hl : (ts.take i).length = i := by rw [List.length_take]; omega
  by_cases h : s = e
  · subst h
    rw [if_pos rfl]
    unfold specC
    rw [hereP_succ he]
    cases hf : firstP (ts.take i) s with
    | some p =>
      simp only
      have hn : (insideP (ts.take i) s).getLast? ≠ some i := fun hh => by
        have := insideP_lt (List.mem_of_getLast? hh)
        omega
      cases hh : hereP t j s with
      | none => simp [hn]
      | some b => simp
    | none =>
      simp only
      cases hh : hereP t j s with
      | none => simp
      | some b => simp
  · rw [if_neg h]
    unfold specC
    have e1 : hereP t (j + 1) s = hereP t j s := by
      rw [hereP_succ he]
      cases hereP t j s with
      | some b => rfl
      | none => simp only; rw [if_neg (fun e' : e = s => h e'.symm)]
    rw [e1]
theorem specC_few {ts : List Tk} {i : Nat} {t : Tk} {j : Nat} {s : ByteArray} {a b : Nat} {ins : List Nat} (h : specC ts i t j s = some (a, b, ins)) : ins.length ≤ ts.length + 1 := by
  unfold specC at h
  have h1 := insideP_len (ts.take i) s
  rw [List.length_take] at h1
  cases hf : firstP (ts.take i) s with
  | some p =>
    rw [hf] at h
    simp only [Option.some.injEq, Prod.mk.injEq] at h
    obtain ⟨_, _, rfl⟩ := h
    rw [List.length_append]
    split <;> simp <;> omega
  | none =>
    rw [hf] at h
    cases hh : hereP t j s with
    | none => rw [hh] at h; cases h
    | some b =>
      rw [hh] at h
      simp only [Option.map_some, Option.some.injEq, Prod.mk.injEq] at h
      obtain ⟨_, _, rfl⟩ := h
      simp
theorem firstP_at : ∀ {l : List Tk} {s : ByteArray} {a b : Nat}, firstP l s = some (a, b) → ∃ t, l[a]? = some t ∧ t.seals[b]? = some s
  | [], _, _, _, h => by cases h
  | u :: l, s, a, b, h => by
    rw [firstP] at h
    cases hx : u.seals.findIdx? (fun x => decide (x = s)) with
    | some j =>
      rw [hx] at h
      simp only [Option.some.injEq, Prod.mk.injEq] at h
      obtain ⟨rfl, rfl⟩ := h
      refine ⟨u, rfl, ?_⟩
      rw [List.findIdx?_eq_some_iff_getElem] at hx
      obtain ⟨h1, h2, _⟩ := hx
      rw [List.getElem?_eq_getElem h1]
      simpa using h2
    | none =>
      rw [hx] at h
      cases hf : firstP l s with
      | none => rw [hf] at h; cases h
      | some p =>
        rw [hf] at h
        simp only [Option.map_some, Option.some.injEq, Prod.mk.injEq] at h
        obtain ⟨rfl, rfl⟩ := h
        obtain ⟨t, h1, h2⟩ := firstP_at hf
        exact ⟨t, by simpa using h1, h2⟩
theorem firstP_some : ∀ {l : List Tk} {s : ByteArray} {a b : Nat} {t : Tk}, l[a]? = some t → t.seals[b]? = some s → ∃ p, firstP l s = some p
  | [], _, a, _, _, h, _ => by simp at h
  | u :: l, s, a, b, t, h, hs => by
    rw [firstP]
    cases hx : u.seals.findIdx? (fun x => decide (x = s)) with
    | some j => exact ⟨_, rfl⟩
    | none =>
      cases a with
      | zero =>
        simp at h; subst h
        exact absurd (List.mem_of_getElem? hs) (findIdx_none.1 hx)
      | succ a =>
        obtain ⟨p, hp⟩ := firstP_some (l := l) (a := a) (by simpa using h) hs
        rw [hp]
        exact ⟨_, rfl⟩
end Go.Proofs.Ytihdpkeclmpehaa

namespace Go.Proofs.Ytihdpkeclmpehaa
open Go.RowKit

/-- Blocks that hold what they held. -/
theorem own_same {w w' : World} {base e size n : Nat} {v : Value} {xs : List Value} (h : w.ownsRow base e size v n xs) (hg : ∀ k, v.ownBlock = some k → w'.heap[k]? = w.heap[k]?) : w'.ownsRow base e size v n xs := by
  refine ⟨h.1, ?_⟩
  rcases h.2 with ⟨hv, h0⟩ | ⟨g', cap', cur, hv, hb, hh, rest⟩
  · exact .inl ⟨hv, h0⟩
  · subst hv
    exact .inr ⟨g', cap', cur, rfl, hb, (hg g' rfl).trans hh, rest⟩
theorem own_lt {w : World} {base e size n : Nat} {v : Value} {xs : List Value} (h : w.ownsRow base e size v n xs) {k : Nat} (hk : v.ownBlock = some k) : base ≤ k ∧ k < w.heap.size := by
  rcases h.2 with ⟨hv, h0⟩ | ⟨g', cap', cur, hv, hb, hh, rest⟩
  · subst hv; cases hk
  · subst hv
    cases hk
    exact ⟨hb, lt_of_block hh⟩
theorem Blk.same {w w' : World} {g : Nat} {cs : Array Value} {t : TypeId} (h : Blk w g cs t) (hg : w'.heap[g]? = w.heap[g]?) : Blk w' g cs t := hg.trans h

structure Ct where
  s : ByteArray
  g : Nat
  a : Stp
  b : Stp
  i : Nat
  j : Nat
  v : Value
  ins : List Nat
def Ct.cells (c : Ct) : List Value := [.int .i64 c.a.office, .int .i64 c.a.arrive, .int .i64 c.a.depart, .int .i64 c.a.line, .int .i64 c.b.office, .int .i64 c.b.arrive, .int .i64 c.b.depart, .int .i64 c.b.line, .int .i64 (c.i : Int), .int .i64 (c.j : Int), c.v]
def Ct.ptr (c : Ct) : Value := .pointer (some ⟨c.g, 0, none⟩)
def Ct.Own (c : Ct) (k : Nat) : Prop := k = c.g ∨ c.v.ownBlock = some k
abbrev strK : ByteArray → Value := fun s => .string s
abbrev natsV (l : List Nat) : List Value := l.map fun (i : Nat) => Value.int .i64 (i : Int)
structure CtsAt (w : World) (base gm : Nat) (L : List Ct) : Prop where
  map : MpAt strK w gm (L.map fun c => (c.s, c.ptr))
  blk : ∀ c ∈ L, Blk w c.g c.cells.toArray 83
  row : ∀ c ∈ L, w.ownsRow base 3 1 c.v c.ins.length (natsV c.ins)
  self : ∀ c ∈ L, c.v.ownBlock ≠ some c.g
  dis : L.Pairwise (fun c d => ∀ k, c.Own k → ¬ d.Own k)
  off : ∀ c ∈ L, ∀ k, c.Own k → k ≠ gm ∧ base ≤ k
  gmb : base ≤ gm
section
variable {w w' : World} {base gm : Nat} {L : List Ct}
theorem CtsAt.lt (h : CtsAt w base gm L) {c : Ct} (hc : c ∈ L) {k : Nat} (hk : c.Own k) : k < w.heap.size := by
  rcases hk with rfl | hk
  · exact (h.blk c hc).lt
  · exact (own_lt (h.row c hc) hk).2
theorem CtsAt.keep (h : CtsAt w base gm L) (hm : w'.heap[gm]? = w.heap[gm]?) (hk : ∀ c ∈ L, ∀ k, c.Own k → w'.heap[k]? = w.heap[k]?) : CtsAt w' base gm L :=
  ⟨h.map.block hm, fun c hc => (h.blk c hc).same (hk c hc _ (.inl rfl)), fun c hc => own_same (h.row c hc) fun k hb => hk c hc k (.inr hb), h.self, h.dis, h.off, h.gmb⟩
theorem CtsAt.next (h : CtsAt w base gm L) (hb : Below w.heap.size w w') : CtsAt w' base gm L :=
  h.keep (hb.block _ h.map.lt) fun c hc k hk => hb.block _ (h.lt hc hk)
theorem CtsAt.new (w : World) {base : Nat} (hb : base ≤ w.heap.size) : CtsAt (w.alloc (.map #[] 0)) base w.heap.size [] :=
  ⟨MpAt.new w, by simp, by simp, by simp, List.Pairwise.nil, by simp, hb⟩
theorem find2_cts (s : ByteArray) : ∀ L : List Ct, find2 (L.map fun c => (c.s, c.ptr)) s = (L.find? fun c => decide (c.s = s)).map Ct.ptr
  | [] => rfl
  | c :: L => by
    rw [List.map_cons, find2, List.find?_cons]
    by_cases h : s = c.s
    · rw [if_pos h]; simp [h]
    · rw [if_neg h, find2_cts s L]
      have : decide (c.s = s) = false := by simpa using fun e : c.s = s => h e.symm
      rw [this]
/-- A new container. -/
theorem CtsAt.add (h : CtsAt w base gm L) (hb : base ≤ w.heap.size) (s : ByteArray) (a b : Stp) (i j : Nat) (hs : L.find? (fun c => decide (c.s = s)) = none) (hs2 : Blk w' w.heap.size (Ct.cells ⟨s, w.heap.size, a, b, i, j, .slice none 0 0, []⟩).toArray 83)
    (hm : MpAt strK w' gm (putL (L.map fun c => (c.s, c.ptr)) s (.pointer (some ⟨w.heap.size, 0, none⟩)))) (hg : ∀ k, k < w.heap.size → k ≠ gm → w'.heap[k]? = w.heap[k]?) :
    CtsAt w' base gm (L ++ [⟨s, w.heap.size, a, b, i, j, .slice none 0 0, []⟩]) := by
  have hn : find2 (L.map fun c => (c.s, c.ptr)) s = none := by rw [find2_cts, hs]; rfl
  rw [putL_new hn] at hm
  have hold : ∀ c ∈ L, ∀ k, c.Own k → w'.heap[k]? = w.heap[k]? := fun c hc k hk => hg k (h.lt hc hk) (h.off c hc k hk).1
  have hown : ∀ k, Ct.Own ⟨s, w.heap.size, a, b, i, j, .slice none 0 0, []⟩ k → k = w.heap.size := fun k hk => by
    rcases hk with hk | hk
    · exact hk
    · cases hk
  refine ⟨by rw [List.map_append]; exact hm, fun c hc => ?_, fun c hc => ?_, fun c hc => ?_, ?_, fun c hc k hk => ?_, h.gmb⟩
  · rcases List.mem_append.1 hc with hc | hc
    · exact (h.blk c hc).same (hold c hc _ (.inl rfl))
    · rw [List.mem_singleton.1 hc]; exact hs2
  · rcases List.mem_append.1 hc with hc | hc
    · exact own_same (h.row c hc) fun k hb => hold c hc k (.inr hb)
    · rw [List.mem_singleton.1 hc]; exact World.ownsRow_nil _ _ _ _
  · rcases List.mem_append.1 hc with hc | hc
    · exact h.self c hc
    · rw [List.mem_singleton.1 hc]; simp [Value.ownBlock]
  · rw [List.pairwise_append]
    refine ⟨h.dis, by simp, fun c hc d hd k hk hk2 => ?_⟩
    rw [List.mem_singleton.1 hd] at hk2
    have h1 := hown k hk2
    have h2 := h.lt hc hk
    omega
  · rcases List.mem_append.1 hc with hc | hc
    · exact h.off c hc k hk
    · rw [List.mem_singleton.1 hc] at hk
      have h1 := hown k hk
      have h2 := h.map.lt
      exact ⟨by omega, by omega⟩
/-- A container gets a further track. -/
theorem CtsAt.app {A B : List Ct} {c : Ct} {w1 : World} {v' : Value} (i : Nat) (h : CtsAt w base gm (A ++ c :: B)) (hgr : w.grownBy w1 c.v.ownBlock) (hown : w1.ownsRow base 3 1 v' (c.ins.length + 1) (natsV c.ins ++ [.int .i64 (i : Int)])) (hbase : base ≤ w.heap.size)
    (hw : v'.ownBlock = c.v.ownBlock ∨ ∀ k, v'.ownBlock = some k → w.heap.size ≤ k) :
    CtsAt (w1.setCell ⟨c.g, 10, none⟩ v') base gm (A ++ { c with v := v', ins := c.ins ++ [i] } :: B) := by
  have hc : c ∈ A ++ c :: B := by simp
  have hcg : c.v.ownBlock ≠ some c.g := h.self c hc
  have hg2 : c.g < w.heap.size := h.lt hc (.inl rfl)
  have hdis := h.dis
  rw [List.pairwise_append, List.pairwise_cons] at hdis
  obtain ⟨d1, ⟨d2, d3⟩, d4⟩ := hdis
  have hset : ∀ k, k ≠ c.g → (w1.setCell ⟨c.g, 10, none⟩ v').heap[k]? = w1.heap[k]? := fun k hk => Below.heap_setCell _ _ _ _ hk
  have hk1 : ∀ k, k < w.heap.size → c.v.ownBlock ≠ some k → w1.heap[k]? = w.heap[k]? := fun k hk hne => hgr.block k hk (fun e => hne e.symm)
  have hother : ∀ d ∈ A ++ c :: B, (∀ k, d.Own k → ¬ c.Own k) → ∀ k, d.Own k → (w1.setCell ⟨c.g, 10, none⟩ v').heap[k]? = w.heap[k]? := fun d hd hdc k hk => by
    rw [hset k (fun e => hdc k hk (.inl e)), hk1 k (h.lt hd hk) (fun e => hdc k hk (.inr e))]
  have hA : ∀ d ∈ A, ∀ k, d.Own k → ¬ c.Own k := fun d hd k hk => d4 d hd c (by simp) k hk
  have hB : ∀ d ∈ B, ∀ k, d.Own k → ¬ c.Own k := fun d hd k hk hk2 => d2 d hd k hk2 hk
  have hrest : ∀ d, d ∈ A ∨ d ∈ B → ∀ k, d.Own k → (w1.setCell ⟨c.g, 10, none⟩ v').heap[k]? = w.heap[k]? := fun d hd => by
    rcases hd with hd | hd
    · exact hother d (by simp [hd]) (hA d hd)
    · exact hother d (by simp [hd]) (hB d hd)
  have hv'g : v'.ownBlock ≠ some c.g := fun e => by
    rcases hw with hw | hw
    · exact hcg (hw ▸ e)
    · have := hw _ e; omega
  have hnew : ∀ k, Ct.Own { c with v := v', ins := c.ins ++ [i] } k → c.Own k ∨ w.heap.size ≤ k := fun k hk => by
    rcases hk with hk | hk
    · exact .inl (.inl hk)
    · rcases hw with hw | hw
      · exact .inl (.inr (hw ▸ hk))
      · exact .inr (hw k hk)
  have hmem : ∀ d, d ∈ A ++ { c with v := v', ins := c.ins ++ [i] } :: B → (d ∈ A ∨ d ∈ B) ∨ d = { c with v := v', ins := c.ins ++ [i] } := fun d hd => by
    rcases List.mem_append.1 hd with hd | hd
    · exact .inl (.inl hd)
    · rcases List.mem_cons.1 hd with rfl | hd
      · exact .inr rfl
      · exact .inl (.inr hd)
  have hin : ∀ d, d ∈ A ∨ d ∈ B → d ∈ A ++ c :: B := fun d hd => by rcases hd with hd | hd <;> simp [hd]
  have hgm := h.off c hc
  refine ⟨?_, fun d hd => ?_, fun d hd => ?_, fun d hd => ?_, ?_, fun d hd k hk => ?_, h.gmb⟩
  · have := h.map.block (w' := w1.setCell ⟨c.g, 10, none⟩ v') (by
      rw [hset gm (fun e => (hgm c.g (.inl rfl)).1 e.symm), hk1 gm h.map.lt (fun e => (hgm gm (.inr e)).1 rfl)])
    simpa [Ct.ptr] using this
  · rcases hmem d hd with hd | rfl
    · exact (h.blk d (hin d hd)).same (hrest d hd _ (.inl rfl))
    · have h1 : Blk w1 c.g c.cells.toArray 83 := (h.blk c hc).same (hk1 _ hg2 hcg)
      have := h1.set 10 v'
      simpa [Ct.cells] using this
  · rcases hmem d hd with hd | rfl
    · exact own_same (h.row d (hin d hd)) fun k hb => hrest d hd k (.inr hb)
    · have := own_same hown (w' := w1.setCell ⟨c.g, 10, none⟩ v') (fun k hk => hset k (fun e => hv'g (e ▸ hk)))
      simpa [natsV] using this
  · rcases hmem d hd with hd | rfl
    · exact h.self d (hin d hd)
    · exact hv'g
  · rw [List.pairwise_append, List.pairwise_cons]
    refine ⟨d1, ⟨fun d hd k hk hk2 => ?_, d3⟩, fun d hd e he k hk hk2 => ?_⟩
    · rcases hnew k hk with hk | hk
      · exact hB d hd k hk2 hk
      · have := h.lt (hin d (.inr hd)) hk2; omega
    · rcases List.mem_cons.1 he with rfl | he
      · rcases hnew k hk2 with hk2 | hk2
        · exact hA d hd k hk hk2
        · have := h.lt (hin d (.inl hd)) hk; omega
      · exact d4 d hd e (by simp [he]) k hk hk2
  · rcases hmem d hd with hd | rfl
    · exact h.off d (hin d hd) k hk
    · rcases hnew k hk with hk | hk
      · exact hgm k hk
      · have := h.map.lt; exact ⟨by omega, by omega⟩
end
end Go.Proofs.Ytihdpkeclmpehaa

namespace Go.Proofs.Ytihdpkeclmpehaa
open Go.RowKit

/-- What is not bad lies as it lay, and stays so. -/
def Kpb (bad : World → Nat → Prop) (A B : World) : Prop := A.heap.size ≤ B.heap.size ∧ ∀ k, k < A.heap.size → ¬ bad A k → B.heap[k]? = A.heap[k]? ∧ ¬ bad B k
theorem Kpb.refl (bad : World → Nat → Prop) (A : World) : Kpb bad A A := ⟨Nat.le_refl _, fun _ _ h => ⟨rfl, h⟩⟩
theorem Kpb.trans {bad : World → Nat → Prop} {A B C : World} (h : Kpb bad A B) (k : Kpb bad B C) : Kpb bad A C :=
  ⟨Nat.le_trans h.1 k.1, fun j hj hb => by
    obtain ⟨h1, h2⟩ := h.2 j hj hb
    obtain ⟨k1, k2⟩ := k.2 j (Nat.lt_of_lt_of_le hj h.1) h2
    exact ⟨k1.trans h1, k2⟩⟩
theorem Kpb.more {bad : World → Nat → Prop} {A B : World} (l : Nat) (h : Kpb bad A B) : Kpb (fun W k => k = l ∨ bad W k) A B :=
  ⟨h.1, fun j hj hb => by
    obtain ⟨h1, h2⟩ := h.2 j hj (fun hh => hb (.inr hh))
    exact ⟨h1, fun hh => by rcases hh with hh | hh; exact hb (.inl hh); exact h2 hh⟩⟩

/-- An iterator that makes blocks, and writes none that was there, whose caller never stops it. K: blocks that it reads; Px: what it lays for an element. -/
def SeqB {α : Type} (F : Fence) (n : Nat) (P : Program) (g : Nat) (lb : Array Value) (encs : α → Array Value) (Px : α → World → Prop) (K : Nat → Prop) (S : List α → Prop) (N : Nat) (w : World) : Prop :=
  ∀ (l : Nat) (J : List α → World → Prop) (bad : World → Nat → Prop) (W : World), Below w.heap.size w W →
    (∀ s A B, J s A → Below A.heap.size A B → J s B ∧ ∀ k, bad B k → bad A k ∧ k < A.heap.size) → (∀ k, K k → ¬ bad W k) →
    (∀ pre x W1, J pre W1 → Px x W1 → pre.length < N → YieldAt F (n - 1) P l (encs x) W1 fun e W' => e = .returned (.bool true) ∧ J (pre ++ [x]) W' ∧ Kpb bad W1 W') →
    J [] W →
    CallsIn F n P g (#[.func (.yield l) #[] #[]] ++ lb) W fun e W' => (∃ v, e = .returned v) ∧ ∃ xs, S xs ∧ J xs W'

/-- What the caller's word must abide: new blocks, and turns of objects that are no cells and lie from B on. -/
def OwnB {β : Type} (B : Nat) (I : β → World → Prop) : Prop :=
  ∀ s W W' row, I s W → W.grownBy W' row → (∀ r, row = some r → B ≤ r ∧ ∃ o : Obj, W.heap[r]? = some o ∧ o.isCells = false) → I s W'
def BadB {β : Type} (B : Nat) (I : β → World → Prop) (bad : World → Nat → Prop) : Prop :=
  ∀ s W W' row, I s W → W.grownBy W' row → (∀ r, row = some r → B ≤ r ∧ ∃ o : Obj, W.heap[r]? = some o ∧ o.isCells = false) → ∀ k, bad W' k → bad W k ∧ k < W.heap.size
theorem grown_of_below {A B : World} (h : Below A.heap.size A B) : A.grownBy B none := ⟨h.os, h.tape, h.output, h.size, fun k hk _ => h.block k hk⟩

end Go.Proofs.Ytihdpkeclmpehaa

namespace Go.Proofs.Ytihdpkeclmpehaa
open Go.RowKit

def viewC (L : List Ct) (s : ByteArray) : Option (Nat × Nat × List Nat) := (L.find? fun c => decide (c.s = s)).map fun c => (c.i, c.j, c.ins)
/-- The containers at hand say what f says. -/
structure CI (w0 w : World) (gm : Nat) (l : List Trk) (L : List Ct) (f : ByteArray → Option (Nat × Nat × List Nat)) : Prop where
  cts : CtsAt w w0.heap.size gm L
  view : ∀ s, viewC L s = f s
  st : ∀ c ∈ L, ∃ t, (l.map Trk.tk)[c.i]? = some t ∧ t.stops[c.j]? = some c.a ∧ t.stops[c.j + 1]? = some c.b
  below : Below w0.heap.size w0 w
theorem CI.next {w0 w w' : World} {gm : Nat} {l : List Trk} {L : List Ct} {f} (h : CI w0 w gm l L f) (hb : Below w.heap.size w w') : CI w0 w' gm l L f :=
  ⟨h.cts.next hb, h.view, h.st, bseq h.below hb⟩
theorem CI.like {w0 w : World} {gm : Nat} {l : List Trk} {L : List Ct} {f f'} (h : CI w0 w gm l L f) (he : ∀ s, f s = f' s) : CI w0 w gm l L f' := ⟨h.cts, fun s => (h.view s).trans (he s), h.st, h.below⟩
theorem CI.new (w : World) (l : List Trk) : CI w (w.alloc (.map #[] 0)) w.heap.size l [] (fun _ => none) := ⟨CtsAt.new w (Nat.le_refl _), fun _ => rfl, by simp, balloc (Below.refl _ _) _⟩

theorem specC_ne {ts : List Tk} {i : Nat} {t : Tk} {j : Nat} {s : ByteArray} {a b : Nat} {ins : List Nat} (h : specC ts i t j s = some (a, b, ins)) : ins ≠ [] := by
  unfold specC at h
  cases hf : firstP (ts.take i) s with
  | some p =>
    rw [hf] at h
    simp only [Option.some.injEq, Prod.mk.injEq] at h
    obtain ⟨_, _, rfl⟩ := h
    obtain ⟨u, h1, h2⟩ := firstP_at (a := p.1) (b := p.2) hf
    intro e
    have hm : p.1 ∈ insideP (ts.take i) s := by
      unfold insideP
      rw [List.mem_filter, List.mem_range]
      refine ⟨(List.getElem?_eq_some_iff.1 h1).1, ?_⟩
      rw [h1]
      simp only [List.any_eq_true, decide_eq_true_eq]
      exact ⟨s, List.mem_of_getElem? h2, rfl⟩
    rw [(List.append_eq_nil_iff.1 e).1] at hm
    cases hm
  | none =>
    rw [hf] at h
    cases hh : hereP t j s with
    | none => rw [hh] at h; cases h
    | some b =>
      rw [hh] at h
      simp only [Option.map_some, Option.some.injEq, Prod.mk.injEq] at h
      obtain ⟨_, _, rfl⟩ := h
      simp
theorem viewC_put (A B : List Ct) (c : Ct) (hA : ∀ x ∈ A, decide (x.s = c.s) = false) (v' : Value) (ins' : List Nat) (s : ByteArray) : viewC (A ++ { c with v := v', ins := ins' } :: B) s = if s = c.s then some (c.i, c.j, ins') else viewC (A ++ c :: B) s := by
  unfold viewC
  rw [List.find?_append, List.find?_append, List.find?_cons, List.find?_cons]
  by_cases h : s = c.s
  · subst h
    have : A.find? (fun x => decide (x.s = c.s)) = none := List.find?_eq_none.2 fun x hx => by rw [hA x hx]; simp
    rw [this]; simp
  · have : decide (c.s = s) = false := by simpa using fun e : c.s = s => h e.symm
    simp only [this, if_neg h]
theorem viewC_add (L : List Ct) (c : Ct) (hL : L.find? (fun x => decide (x.s = c.s)) = none) (s : ByteArray) : viewC (L ++ [c]) s = if s = c.s then some (c.i, c.j, c.ins) else viewC L s := by
  unfold viewC
  rw [List.find?_append]
  by_cases h : s = c.s
  · subst h
    rw [hL]; simp
  · have : decide (c.s = s) = false := by simpa using fun e : c.s = s => h e.symm
    rw [if_neg h]
    simp [List.find?_cons, this]
/-- A found container. -/
theorem CI.found {w0 w : World} {gm : Nat} {l : List Trk} {L : List Ct} {f} (h : CI w0 w gm l L f) {s : ByteArray} {r} (hf : f s = some r) : ∃ A c B, L = A ++ c :: B ∧ (∀ x ∈ A, decide (x.s = c.s) = false) ∧ c.s = s ∧ L.find? (fun c => decide (c.s = s)) = some c ∧ (c.i, c.j, c.ins) = r := by
  have hv := h.view s
  rw [hf] at hv
  unfold viewC at hv
  cases hfd : L.find? (fun c => decide (c.s = s)) with
  | none => rw [hfd] at hv; cases hv
  | some c =>
    rw [hfd] at hv
    obtain ⟨h1, A, B, h2, h3⟩ := List.find?_eq_some_iff_append.1 hfd
    have h1 : c.s = s := by simpa using h1
    refine ⟨A, c, B, h2, fun x hx => ?_, h1, rfl, by simpa using hv⟩
    have := h3 x hx
    rw [h1]; simpa using this
theorem CI.unfound {w0 w : World} {gm : Nat} {l : List Trk} {L : List Ct} {f} (h : CI w0 w gm l L f) {s : ByteArray} (hf : f s = none) : L.find? (fun c => decide (c.s = s)) = none := by
  have hv := h.view s
  rw [hf] at hv
  unfold viewC at hv
  simpa using hv
/-- A container gets a further track. -/
theorem CI.app {w0 w w1 : World} {gm : Nat} {l : List Trk} {A B : List Ct} {c : Ct} {f} {v' : Value} (i : Nat) (h : CI w0 w gm l (A ++ c :: B) f) (hA : ∀ x ∈ A, decide (x.s = c.s) = false)
    (hgr : w.grownBy w1 c.v.ownBlock) (hown : w1.ownsRow w0.heap.size 3 1 v' (c.ins.length + 1) (natsV c.ins ++ [.int .i64 (i : Int)]))
    (hw : v'.ownBlock = c.v.ownBlock ∨ ∀ k, v'.ownBlock = some k → w.heap.size ≤ k) : CI w0 (w1.setCell ⟨c.g, 10, none⟩ v') gm l (A ++ { c with v := v', ins := c.ins ++ [i] } :: B) (fun s => if s = c.s then some (c.i, c.j, c.ins ++ [i]) else f s) := by
  have hc : c ∈ A ++ c :: B := by simp
  refine ⟨h.cts.app i hgr hown h.below.size hw, fun s => ?_, fun d hd => ?_, ?_⟩
  · rw [viewC_put A B c hA]
    split
    · rfl
    · exact h.view s
  · rcases List.mem_append.1 hd with hd | hd
    · exact h.st d (by simp [hd])
    · rcases List.mem_cons.1 hd with rfl | hd
      · exact h.st c hc
      · exact h.st d (by simp [hd])
  · have h1 := h.cts.off c hc
    have h2 : Below w0.heap.size w0 w1 := h.below.grown hgr h.below.size (fun k hk => (h1 k (.inr hk)).2)
    exact h2.setCell (p := ⟨c.g, 10, none⟩) (h1 _ (.inl rfl)).2 _
theorem CI.add {w0 w w' : World} {gm : Nat} {l : List Trk} {L : List Ct} {f} (h : CI w0 w gm l L f) (s : ByteArray) (a b : Stp) (i j : Nat) (t : Tk) (hs : f s = none) (ht : (l.map Trk.tk)[i]? = some t) (ha : t.stops[j]? = some a) (hb : t.stops[j + 1]? = some b)
    (hs2 : Blk w' w.heap.size (Ct.cells ⟨s, w.heap.size, a, b, i, j, .slice none 0 0, []⟩).toArray 83)
    (hm : MpAt strK w' gm (putL (L.map fun c => (c.s, c.ptr)) s (.pointer (some ⟨w.heap.size, 0, none⟩)))) (hg : ∀ k, k < w.heap.size → k ≠ gm → w'.heap[k]? = w.heap[k]?) (hbl : Below w0.heap.size w0 w') :
    CI w0 w' gm l (L ++ [⟨s, w.heap.size, a, b, i, j, .slice none 0 0, []⟩]) (fun x => if x = s then some (i, j, []) else f x) := by
  have hn := h.unfound hs
  refine ⟨h.cts.add h.below.size s a b i j hn hs2 hm hg, fun x => ?_, fun d hd => ?_, hbl⟩
  · rw [viewC_add L _ hn]
    show (if x = s then some (i, j, []) else _) = _
    split
    · rfl
    · exact h.view x
  · rcases List.mem_append.1 hd with hd | hd
    · exact h.st d hd
    · rw [List.mem_singleton.1 hd]
      exact ⟨t, ht, ha, hb⟩
theorem Blk.off_row {w : World} {b base e size n : Nat} {cs : Array Value} {T : TypeId} {v : Value} {xs : List Value} (h : Blk w b cs T) (hr : w.ownsRow base e size v n xs) (hne : T ≠ e) : v.ownBlock ≠ some b := fun hk => by
  rcases hr.2 with ⟨hv, _⟩ | ⟨g', cap', cur, hv, hb, hh, rest⟩
  · subst hv; cases hk
  · subst hv
    cases hk
    unfold Blk at h
    rw [hh] at h
    injection h with h
    injection h with _ h
    exact hne h.symm
theorem Blk.ne {w : World} {b b' : Nat} {cs cs' : Array Value} {T T' : TypeId} (h : Blk w b cs T) (h' : Blk w b' cs' T') (hne : T ≠ T') : b ≠ b' := fun e => by
  subst e
  unfold Blk at h h'
  rw [h'] at h
  injection h with h
  injection h with _ h
  exact hne h.symm
theorem Try.info3 : (Try.prog.info? 3).map (fun i => (i.zero, i.size, i.bytes)) = some (some (.int .i64 0), 1, 8) := by kernel_rfl

set_option maxRecDepth 100000 in
set_option maxHeartbeats 4000000 in
theorem containers_c (p : Option Addr) (cap n : Nat) (l : List Trk) (w : World) (R) (hn : l.length = n) (hl : n ≤ 8) (h : TrksAt w p l) (hk : ∀ t ∈ l, TkOk t.tk)
    (hR : ∀ w' gm L, CI w w' gm l L (specD (l.map Trk.tk) n) → R (.returned (.map (some gm))) w') : Calls Try.prog 34 #[.slice p n cap] w R := by
  have HR := hide hR; have H := hide h; have Hk := hide hk; have Hn := hide hn
  have hmm := @run_makeMap Try.prog
  have HC0 := hide (CI.new w l)
  clear hR h hk hn
  go_enter Try.func34, Try.ntmps34
  go_wp2
  go_loopw [13] (fun si wr => ∃ (i : Nat) (L : List Ct), i ≤ n ∧ si = .int .i64 i ∧ Hid (CI w wr w.heap.size l L (specD (l.map Trk.tk) i))) (fun si _ => n - (intOf si).toNat)
  case atStart => exact ⟨0, [], Nat.zero_le _, rfl, hide (HC0.out.like fun s => rfl)⟩
  case round =>
    obtain ⟨i, L, hi, rfl, HC⟩ := hrel
    by_cases hlt : i < n
    · obtain ⟨b, o, t, rfl, hx, ht, x0, x1, x2, x3, x4, x5, x6, x7, x8, x9⟩ := (H.out.keep (Keeps.of_below HC.out.below)).trk (i := i) (by rw [Hn.out]; exact hlt)
      have Ht := hide ht
      have Hok := hide (Hk.out t (List.mem_of_getElem? hx))
      have Hx := hide hx
      have HC2 := hide (HC.out.next (balloc (Below.refl _ _) (.cells t.cells.toArray 40)))
      clear hx ht HC HC0
      obtain ⟨W0, rfl⟩ : ∃ W0, W0 = wr := ⟨wr, rfl⟩
      obtain ⟨i0, hi0, hz0, hz1, hz2⟩ := info_parts Try.info3
      have HI := hide (And.intro hi0 (And.intro hz0 (And.intro hz1 hz2)))
      obtain ⟨W1, hW1⟩ : ∃ W1, W0.alloc (.cells t.cells.toArray 40) = W1 := ⟨_, rfl⟩
      have HW1 := hide hW1
      have HBW := hide (show Below W0.heap.size W0 W1 from hW1 ▸ balloc (Below.refl _ _) _)
      have HC3 := HC2
      rw [hW1] at HC3
      clear hi0 hz0 hz1 hz2 hW1 HC2
      unfold Trk.cells at HW1
      obtain ⟨m, hm⟩ : ∃ m, t.seals.length = m := ⟨_, rfl⟩
      have Hm := hide hm
      rw [hm] at x9
      have hms : m + 1 = t.stops.length := by rw [← hm]; exact Hok.out.seals
      have Hms := hide hms
      have hm20 : m ≤ 20 := by have := Hok.out.few.1; have : t.stops.length ≤ 20 := this; omega
      rw [hm] at HW1
      clear hm hms
      obtain ⟨bx, hbx⟩ : ∃ bx : Array Value, bx = #[.string t.label0, .int .i64 t.from0, .int .i64 t.to0, .int .i64 t.class0, .int .i64 t.accept, .slice t.sp t.stops.length t.sc, .bool t.lost, .slice t.np t.since.length t.nc, .slice t.lp t.label.length t.lc, .slice t.ep m t.ec] := ⟨_, rfl⟩
      have Hbx := hide hbx
      clear hbx
      go_wp2
      go_loopw [21] (fun sj wj => ∃ (j : Nat) (L2 : List Ct), j ≤ m ∧ sj = .int .i64 j ∧ Hid (CI w wj w.heap.size l L2 (specC (l.map Trk.tk) i t.tk j)) ∧ Hid (Blk wj W0.heap.size bx 40)) (fun sj _ => m - (intOf sj).toNat)
      case atStart => exact ⟨0, L, Nat.zero_le _, rfl, hide (by rw [HW1.out]; exact HC3.out.like fun s => (specC_zero _ _ _ _).symm), hide (by rw [Hbx.out]; exact Blk.new _ _ _)⟩
      case round =>
        clear x0 x1 x2 x3 x4 x5 x6 x7 x8 x9
        obtain ⟨j, L2, hj, rfl, HJ, HBJ⟩ := hrel
        by_cases hjm : j < m
        · obtain ⟨b9, o9, e, hp9, he, cse, hse⟩ := (((H.out.keep (Keeps.of_below HJ.out.below)).2 t (List.mem_of_getElem? Hx.out))).seals.at_ (i := j) (by rw [Hm.out]; exact hjm)
          have c5 : wr.cell? ⟨W0.heap.size, 5, none⟩ = some (.slice t.sp t.stops.length t.sc) := HBJ.out.cell (k := 5) (by rw [Hbx.out]; rfl)
          have He := hide he
          rw [hp9]
          clear he hp9
          have Hstep := hide (fun s => specC_step (ts := l.map Trk.tk) (i := i) (t := t.tk) (j := j) (e := e) (by rw [List.length_map, Hn.out]; omega) He.out s)
          cases hsp : specC (l.map Trk.tk) i t.tk j e with
          | some r =>
            obtain ⟨A, c, B, rfl, hA, hcs, hfd, hr⟩ := HJ.out.found hsp
            obtain ⟨ra, rb, rins⟩ := r
            simp only [Prod.mk.injEq] at hr
            obtain ⟨rfl, rfl, rfl⟩ := hr
            have hne := specC_ne hsp
            have hfew := specC_few hsp
            rw [List.length_map, Hn.out] at hfew
            have hcm : c ∈ A ++ c :: B := by simp
            have hrow := HJ.out.cts.row c hcm
            have hblk := HJ.out.cts.blk c hcm
            obtain ⟨xs, x, hxs⟩ : ∃ xs x, c.ins = xs ++ [x] := ⟨c.ins.dropLast, c.ins.getLast hne, (List.dropLast_concat_getLast hne).symm⟩
            obtain ⟨q, hq⟩ : ∃ q, xs.length = q := ⟨_, rfl⟩
            have hlen : c.ins.length = q + 1 := by rw [hxs]; simp [hq]
            obtain ⟨g', cap', hv⟩ : ∃ g' cap', c.v = .slice (some ⟨g', 0, none⟩) (q + 1) cap' := by
              rw [hlen] at hrow
              exact ownsRow_succ hrow
            have cell10 : wr.cell? ⟨c.g, 10, none⟩ = some (.slice (some ⟨g', 0, none⟩) (q + 1) cap') := hv ▸ hblk.cell (k := 10) rfl
            have cellL : wr.cell? ⟨g', q, none⟩ = some (.int .i64 (x : Int)) := by
              rw [hv, hlen] at hrow
              rw [hrow.cellAt q (by omega), hxs]
              simp [natsV, hq]
            obtain ⟨N, hN⟩ : ∃ N, q + 1 = N := ⟨_, rfl⟩
            rw [hN] at cell10
            have hwz : IntKind.i64.wrap ((N : Int) - 1) = (q : Int) := by rw [IntWalk.i64_in _ (by omega)]; omega
            have hN0 : ((N : Int) == 0) = false := by simp; omega
            have hN40 : (N : Int) < 40 := by omega
            have hqN : (q : Int) < (N : Int) := by omega
            have hlk := HJ.out.cts.map.lookup mlaw79 e true
            rw [if_pos rfl, find2_cts, hfd] at hlk
            simp only [Option.map_some, Option.getD_some, Option.isSome_some, Ct.ptr] at hlk
            have HF := hide (And.intro hA (And.intro hcs (And.intro hxs (And.intro hq (And.intro hN (And.intro hv (And.intro hlen hsp)))))))
            have Hrow := hide hrow
            clear hA hcs hfd hne hxs hq hN hv hlen hsp hblk hrow
            by_cases hxi : x = i
            · have hne1 : ((x : Int) != (i : Int)) = false := by simp [hxi]
              have HS2 := hide (HJ.out.like (f' := specC (l.map Trk.tk) i t.tk (j + 1)) (fun s => by
                rw [Hstep.out s]
                split
                · rename_i e1
                  subst e1
                  obtain ⟨h1, h2, h3, h4, h5, h6, h7, h8⟩ := HF.out
                  rw [h8]
                  simp only
                  rw [if_pos (by rw [h3, List.getLast?_concat, hxi])]
                · rfl))
              clear hxi
              go_wp2
              go_quiet (fail)
              go_wp2
              go_roundw
              case rel => exact ⟨j + 1, A ++ c :: B, by omega, by go_num, hide (HS2.out.next (below_drewN' (Below.refl _ _) _)), hide (HBJ.out.drewN _)⟩
              case measure => simp [intOf]; omega
            · have hne1 : ((x : Int) != (i : Int)) = true := by simp; omega
              have Hxi := hide hxi
              clear hxi
              go_wp2
              go_quiet (fail)
              rename Nat => nq
              have c10 : ((wr.drewN nq).alloc (.cells #[.int .i64 (i : Int)] 3)).cell? ⟨c.g, 10, none⟩ = some (.slice (some ⟨g', 0, none⟩) N cap') := cell_later (balloc (Below.refl (wr.drewN nq).heap.size _) _) cell10
              have HJ5 := hide (HJ.out.next (w' := (wr.drewN nq).alloc (.cells #[.int .i64 (i : Int)] 3)) (bseq (below_drewN' (Below.refl _ _) nq) (balloc (Below.refl _ _) _)))
              have HB5 := hide ((HBJ.out.drewN nq).alloc (.cells #[.int .i64 (i : Int)] 3))
              clear cellL
              have hsf := HJ5.out.cts.self c hcm
              have hrow5 := HJ5.out.cts.row c hcm
              have HK5 := hide (HJ5.out.cts.blk c hcm)
              have hcl5 := HJ5.out.cts.lt hcm (.inl rfl)
              have Hs5 := hide (And.intro hsf (And.intro hrow5 hcl5))
              clear hsf hrow5 hcl5
              go_wp2_with (at_builtin; refine Stop.out ?_)
              refine Stop.go ?_
              obtain ⟨hi0, hz0, hz1, hz2⟩ := HI.out
              refine wpList_append_where rfl (.tmp 86) (.tmp 88) 32 rfl w.heap.size 3 i0 _ 1 8 Try.underlying32 hi0 hz0 hz1 hz2 rfl (by omega) c.v c.ins.length (natsV c.ins) (by obtain ⟨_, _, _, _, h5, h6, _⟩ := HF.out; rw [h6, h5]; rfl) Hs5.out.2.1 ⟨(wr.drewN nq).heap.size, 0, none⟩ 1 1 [.int .i64 (i : Int)] rfl rfl (cell_one_new _ _ _) (by intro u hu; obtain rfl := List.mem_singleton.1 hu; rfl) (by unfold maxLen; omega) (by omega) HJ5.out.below.size ?_
              clear hi0 hz0 hz1 hz2
              intro v7 w7 hown hg hw
              have HA7 := hide (HJ5.out.app i HF.out.1 hg hown hw)
              have hK7 : Blk w7 c.g c.cells.toArray 83 := (hg.block c.g Hs5.out.2.2 (fun e => Hs5.out.1 e.symm)).trans HK5.out
              have HX7 := hide (((show Blk w7 W0.heap.size _ 40 from (hg.block W0.heap.size HB5.out.lt (fun e => HB5.out.off_row Hs5.out.2.1 (by decide) e.symm)).trans HB5.out)).set_other (a := ⟨c.g, 10, none⟩) (hK7.ne (show Blk w7 W0.heap.size _ 40 from (hg.block W0.heap.size HB5.out.lt (fun e => HB5.out.off_row Hs5.out.2.1 (by decide) e.symm)).trans HB5.out) (by decide)) v7)
              have d10 : w7.cell? ⟨c.g, 10, none⟩ = some c.v := hK7.cell (k := 10) rfl
              have f10 := hK7.free 10
              obtain ⟨g7, cap7, rfl⟩ := ownsRow_succ hown
              have HF7 := hide (HA7.out.like (f' := specC (l.map Trk.tk) i t.tk (j + 1)) (fun s => by
                rw [Hstep.out s]
                obtain ⟨h1, h2, h3, h4, h5, h6, h7, h8⟩ := HF.out
                show (if s = c.s then _ else _) = _
                rw [h2]
                split
                · rename_i e1
                  subst e1
                  rw [h8]
                  simp only
                  rw [if_neg (by rw [h3, List.getLast?_concat]; intro e2; injection e2 with e2; exact Hxi.out e2)]
                · rfl))
              clear hown hg hw hK7
              go_wp2
              go_roundw
              case rel => exact ⟨j + 1, _, by omega, by go_num, HF7, HX7⟩
              case measure => simp [intOf]; omega
          | none =>
            have HT2 := hide ((H.out.keep (Keeps.of_below HJ.out.below)).2 t (List.mem_of_getElem? Hx.out))
            obtain ⟨bs, os, s0, hps, hs0, y0, y1, y2, y3⟩ := HT2.out.stops.stp (i := j) (by have := Hms.out; omega)
            obtain ⟨bs', os', s1, hps', hs1, z0, z1, z2, z3⟩ := HT2.out.stops.stp (i := j + 1) (by have := Hms.out; omega)
            obtain ⟨rfl, rfl⟩ : bs = bs' ∧ os = os' := by rw [hps] at hps'; injection hps' with hp'; injection hp' with h1 h2; exact ⟨h1, h2⟩
            have hlk := HJ.out.cts.map.lookup mlaw79 e true
            rw [if_pos rfl, find2_cts, HJ.out.unfound hsp] at hlk
            simp only [Option.map_none, Option.getD_none, Option.isSome_none] at hlk
            obtain ⟨w5, hw5⟩ : ∃ w5, (wr.alloc (.cells (Ct.cells ⟨e, wr.heap.size, s0, s1, i, j, .slice none 0 0, []⟩).toArray 83)).drew = w5 := ⟨_, rfl⟩
            have HJ5 := hide (HJ.out.next (w' := w5) (by rw [← hw5]; exact (balloc (Below.refl _ _) _).drew))
            obtain ⟨w6, hu, hM6, hg6, hs6⟩ := HJ5.out.cts.map.update mlaw79 e (.pointer (some ⟨wr.heap.size, 0, none⟩))
            have hsz5 : wr.heap.size < w5.heap.size := by rw [← hw5]; simp
            have hold : ∀ k, k < wr.heap.size → w5.heap[k]? = wr.heap[k]? := fun k hk => by rw [← hw5]; exact (balloc (Below.refl wr.heap.size wr) _).drew.block k hk
            have hgm : w.heap.size < wr.heap.size := HJ.out.cts.map.lt
            have hK5 : Blk w5 wr.heap.size (Ct.cells ⟨e, wr.heap.size, s0, s1, i, j, .slice none 0 0, []⟩).toArray 83 := by rw [← hw5]; exact (Blk.new _ _ _).drew
            have hK6 : Blk w6 wr.heap.size (Ct.cells ⟨e, wr.heap.size, s0, s1, i, j, .slice none 0 0, []⟩).toArray 83 := (hg6.block _ hsz5 (by intro e2; injection e2 with e2; omega)).trans hK5
            have HC6 := hide (HJ.out.add (w' := w6) e s0 s1 i j t.tk hsp (by rw [List.getElem?_map, Hx.out]; rfl) hs0 hs1 hK6 hM6 (fun k hk hne => (hg6.block k (by omega) (fun e2 => hne (by injection e2))).trans (hold k hk))
              (HJ5.out.below.grown hg6 HJ5.out.below.size (fun k hk => by injection hk with hk; omega)))
            have hbx : W0.heap.size ≠ w.heap.size := by
              have := HC3.out.cts.map.lt
              have := HJ.out.cts.gmb
              intro e2
              have h9 := HJ.out.cts.map
              obtain ⟨es, cl, hh, _⟩ := h9
              have h8 := HBJ.out
              unfold Blk at h8
              rw [e2] at h8
              rw [h8] at hh
              cases hh
            have HB6 := hide (show Blk w6 W0.heap.size bx 40 from (hg6.block _ (by have := HBJ.out.lt; omega) (by intro e2; injection e2 with e2; exact hbx e2)).trans ((hold _ HBJ.out.lt).trans HBJ.out))
            have HJ7 := hide (HC6.out.next (w' := w6.alloc (.cells #[.int .i64 (i : Int)] 3)) (balloc (Below.refl _ _) _))
            have d10 : w6.cell? ⟨wr.heap.size, 10, none⟩ = some (.slice none 0 0) := hK6.cell (k := 10) rfl
            simp only [Ct.cells] at hw5
            obtain ⟨M, hM⟩ : ∃ M, t.stops.length = M := ⟨_, rfl⟩
            rw [hps, hM] at c5
            obtain ⟨j1, hj1⟩ : ∃ j1, j + 1 = j1 := ⟨_, rfl⟩
            rw [hj1] at z0 z1 z2 z3
            have hw1 : IntKind.i64.wrap ((j : Int) + 1) = (j1 : Int) := by rw [IntWalk.i64_in _ (by omega)]; omega
            have hjM : (j : Int) < (M : Int) := by have := Hms.out; omega
            have hj1M : (j1 : Int) < (M : Int) := by have := Hms.out; omega
            have Hj1 := hide hj1
            have Hsp := hide hsp
            clear hps' hps hs0 hs1 HJ5 hM6 hg6 hs6 hsz5 hold hgm hK5 hK6 hbx hsp hM hj1
            go_wp2
            go_still_tail 14, (by kernel_rfl)
            go_wp2
            go_quiet (fail)
            rename Nat => nq
            have HJ8 := hide (HC6.out.next (w' := (w6.drewN nq).alloc (.cells #[.int .i64 (i : Int)] 3)) (bseq (below_drewN' (Below.refl _ _) nq) (balloc (Below.refl _ _) _)))
            have HB8 := hide ((HB6.out.drewN nq).alloc (.cells #[.int .i64 (i : Int)] 3))
            have hcm : (⟨e, wr.heap.size, s0, s1, i, j, .slice none 0 0, []⟩ : Ct) ∈ L2 ++ [⟨e, wr.heap.size, s0, s1, i, j, .slice none 0 0, []⟩] := by simp
            have hsf := HJ8.out.cts.self _ hcm
            have hrow5 := HJ8.out.cts.row _ hcm
            have HK8 := hide (HJ8.out.cts.blk _ hcm)
            have hcl5 := HJ8.out.cts.lt hcm (.inl rfl)
            have Hs5 := hide (And.intro hsf (And.intro hrow5 hcl5))
            clear hsf hrow5 hcl5 HJ7 hu hlk y0 y1 y2 y3 z0 z1 z2 z3 hw5
            go_wp2_with (at_builtin; refine Stop.out ?_)
            refine Stop.go ?_
            obtain ⟨hi0, hz0, hz1, hz2⟩ := HI.out
            refine wpList_append_where rfl (.tmp 86) (.tmp 88) 32 rfl w.heap.size 3 i0 _ 1 8 Try.underlying32 hi0 hz0 hz1 hz2 rfl (by omega) (.slice none 0 0) 0 [] rfl Hs5.out.2.1 ⟨(w6.drewN nq).heap.size, 0, none⟩ 1 1 [.int .i64 (i : Int)] rfl rfl (cell_one_new _ _ _) (by intro u hu; obtain rfl := List.mem_singleton.1 hu; rfl) (by unfold maxLen; omega) (by omega) HJ8.out.below.size ?_
            clear hi0 hz0 hz1 hz2
            intro v7 w7 hown hg hw
            have hun := HJ.out.unfound Hsp.out
            have HA7 := hide (HJ8.out.app i (fun x hx => by have := List.find?_eq_none.1 hun x hx; simpa using this) hg hown hw)
            have hK7 : Blk w7 wr.heap.size _ 83 := (hg.block wr.heap.size Hs5.out.2.2 (by simp [Value.ownBlock])).trans HK8.out
            have hX7 : Blk w7 W0.heap.size bx 40 := (hg.block W0.heap.size HB8.out.lt (by simp [Value.ownBlock])).trans HB8.out
            have HX7 := hide (hX7.set_other (a := ⟨wr.heap.size, 10, none⟩) (hK7.ne hX7 (by decide)) v7)
            have d11 : w7.cell? ⟨wr.heap.size, 10, none⟩ = some (.slice none 0 0) := hK7.cell (k := 10) rfl
            have f11 := hK7.free 10
            obtain ⟨g7, cap7, rfl⟩ := ownsRow_succ hown
            have HF7 := hide (HA7.out.like (f' := specC (l.map Trk.tk) i t.tk (j + 1)) (fun s => by
              rw [Hstep.out s, Hsp.out]
              show (if s = e then _ else if s = e then _ else _) = _
              split <;> rfl))
            clear hown hg hw hK7 hX7
            go_wp2
            go_roundw
            case rel => exact ⟨j1, _, by have := Hj1.out; omega, by have := Hj1.out; first | rfl | (congr 1; omega), by rw [← Hj1.out]; exact HF7, HX7⟩
            case measure => have := Hj1.out; simp [intOf]; omega
        · obtain rfl : j = m := by omega
          have HJ2 := hide (HJ.out.like (f' := specD (l.map Trk.tk) (i + 1)) (fun s => by have := specC_next (ts := l.map Trk.tk) (i := i) (t := t.tk) (by rw [List.getElem?_map, Hx.out]; rfl) s; rw [← this]; show _ = specC _ _ _ t.seals.length s; rw [Hm.out]))
          go_wp2
          go_roundw
          case rel => exact ⟨i + 1, L2, by omega, by go_num, HJ2⟩
          case measure => simp [intOf]; omega
    · obtain rfl : i = n := by omega
      go_wp2
      exact HR.out _ _ _ HC.out
end Go.Proofs.Ytihdpkeclmpehaa
