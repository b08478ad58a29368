/- MatchStreets: a further street leaves the candidates among the first ones as they were. -/
import Derived.Test.YtkbdkkllfaljlaaH
import Derived.Test.YtkbdkkllfaljlaaF2
import Derived.Test.YtkbdkkllfaljlaaQ1
set_option linter.unusedVariables false
set_option linter.unusedSimpArgs false
namespace Go.Proofs.Ytkbdkkllfaljlaa
open Go.ChangeShapes Go.WideShapes Go.ChangeAt Go.RowKit Go.Sort

theorem Src.sts {w : World} {p : Option Addr} {l : List Sv} {n : Nat} (hn : l.length = n) (h : StsAt w p l) : Src w p n 8 (l.flatMap Sv.cells) := by
  refine ⟨by rw [flat_len (k := 8) (fun _ => rfl), hn], fun h0 => ?_⟩
  obtain ⟨b, o, rfl, hc⟩ := h (by omega)
  refine ⟨_, rfl, fun j u hu => ?_⟩
  have hj := (List.getElem?_eq_some_iff.1 hu).1
  rw [flat_len (k := 8) (fun _ => rfl)] at hj
  have hi : j / 8 < l.length := by omega
  have hx : l[j / 8]? = some l[j / 8] := List.getElem?_eq_getElem hi
  have c1 := (hc _ _ hx).1
  have h4 : j % 8 < 8 := Nat.mod_lt _ (by decide)
  have e := flat_at (enc := Sv.cells) (k := 8) (fun _ => rfl) l (j / 8) (j % 8) _ hx h4
  have ej : j / 8 * 8 + j % 8 = j := by omega
  rw [ej, hu] at e
  have := c1 (j % 8) u e.symm
  rw [Addr.add_lit]
  rw [show o + j / 8 * 8 + j % 8 = o + j by omega] at this
  exact this
theorem sts_oneCell (l : List Sv) : ∀ u ∈ l.flatMap Sv.cells, u.oneCell' = true := by
  intro u hu
  obtain ⟨s, _, hs⟩ := List.mem_flatMap.1 hu
  simp only [Sv.cells, List.mem_cons, List.not_mem_nil, or_false] at hs
  rcases hs with rfl | rfl | rfl | rfl | rfl | rfl | rfl | rfl <;> rfl
/-- Streets that lie in a row of the call's own; their aliases lie where they lay. -/
theorem StsAt.of_own {w : World} {base : Nat} {p : Option Addr} {n cap : Nat} {l : List Sv} (h : w.ownsRow base 49 8 (.slice p n cap) n (l.flatMap Sv.cells)) (ha : ∀ s ∈ l, StrsAt w s.ap s.al) : StsAt w p l := fun hl => by
  have hn : l.length = n := by
    have h1 := h.1
    rw [flat_len (k := 8) (fun _ => rfl)] at h1
    omega
  rcases h.2 with ⟨hv, h0⟩ | ⟨g, cap', cur, hv, _, hh, _⟩
  · omega
  · injection hv with h1 h2 h3
    subst h1
    refine ⟨g, 0, rfl, fun i x hx => ⟨fun c v hv => ?_, ha x (List.mem_of_getElem? hx)⟩⟩
    have hc8 : c < 8 := by have := (List.getElem?_eq_some_iff.1 hv).1; simpa [Sv.cells] using this
    have a := flat_at (enc := Sv.cells) (k := 8) (fun _ => rfl) l i c x hx hc8
    have := h.cells (g := g) rfl (i * 8 + c) v (by rw [a]; exact hv)
    rw [Addr.add_lit] at this
    simpa using this
theorem StsAt.als {w : World} {p : Option Addr} {l : List Sv} (h : StsAt w p l) : ∀ s ∈ l, StrsAt w s.ap s.al := fun s hs => by
  obtain ⟨b, o, _, hc⟩ := h (List.length_pos_of_mem hs)
  obtain ⟨i, hi⟩ := List.getElem?_of_mem hs
  exact (hc i s hi).2
theorem Try.info49 : (Try.prog.info? 49).map (fun i => (i.zero, i.size, i.bytes)) = some (some (.agg #[.string ⟨#[]⟩, .string ⟨#[]⟩, .string ⟨#[]⟩, .slice none 0 0, .int .i64 0, .int .i64 0, .int .i64 0, .bool false]), 8, 104) := by kernel_rfl

/-! ### the law -/
def isOwn (n : Nat) (x : Cnd) : Bool := x.i == n
def zeroI (x : Cnd) : Cnd := ⟨0, x.num, x.cost⟩
theorem mem_found_lt {a : Av} {most : Int} {l : List Sv} {k : Nat} {x : Cnd} (h : x ∈ found a most k l) : k ≤ x.i ∧ x.i < k + l.length := by
  obtain ⟨i, s, h1, h2⟩ := mem_found.1 h
  have := (mem_one.1 h2).1
  have := (List.getElem?_eq_some_iff.1 h1).1
  omega
theorem streets_rest {a : Av} {most : Int} {l : List Sv} {s : Sv} {M N : List Cnd} (hM : isCnds a most l M) (hN : isCnds a most (l ++ [s]) N) : N.filter (fun x => !isOwn l.length x) = M := by
  refine srt_eq (Srt.filter hN.2 _) hM.2 ((hN.1.filter _).trans ?_)
  rw [found_append, List.filter_append]
  have e1 : (found a most 0 l).filter (fun x => !isOwn l.length x) = found a most 0 l := by
    rw [List.filter_eq_self]
    intro x hx
    have := mem_found_lt hx
    unfold isOwn
    simp; omega
  have e2 : (found a most (0 + l.length) [s]).filter (fun x => !isOwn l.length x) = [] := by
    rw [List.filter_eq_nil_iff]
    intro x hx
    have := mem_found_lt hx
    unfold isOwn
    simp at this ⊢; omega
  rw [e1, e2, List.append_nil]
  exact hM.1.symm
theorem one_zero (a : Av) (most : Int) (i : Nat) (s : Sv) : (one a most i s).map zeroI = one a most 0 s := by
  unfold one
  cases costP s a with
  | none => rfl
  | some n => simp only; split <;> rfl
theorem streets_own {a : Av} {most : Int} {l : List Sv} {s : Sv} {E N : List Cnd} (hE : isCnds a most [s] E) (hN : isCnds a most (l ++ [s]) N) : (N.filter (isOwn l.length)).map zeroI = E := by
  have h1 : (N.filter (isOwn l.length)).Perm (one a most l.length s) := (hN.1.filter _).trans (by
    rw [found_append, List.filter_append]
    have e1 : (found a most 0 l).filter (isOwn l.length) = [] := by
      rw [List.filter_eq_nil_iff]
      intro x hx
      have := mem_found_lt hx
      unfold isOwn
      simp; omega
    have e2 : (found a most (0 + l.length) [s]).filter (isOwn l.length) = one a most l.length s := by
      rw [found_cons, found, List.append_nil, Nat.zero_add, List.filter_eq_self]
      intro x hx
      have := (mem_one.1 hx).1
      unfold isOwn
      simp; omega
    rw [e1, e2, List.nil_append])
  have h2 := h1.map zeroI
  rw [one_zero] at h2
  have h3 : E.Perm (one a most 0 s) := by have := hE.1; rw [found_cons, found, List.append_nil] at this; exact this
  have h4 := h2.trans h3.symm
  have hl : (one a most 0 s).length ≤ 1 := by
    unfold one
    cases costP s a with
    | none => simp
    | some n => simp only; split <;> simp
  match hF : one a most 0 s, hl, h2, h3 with
  | [], _, h2, h3 => rw [h2.eq_nil, h3.eq_nil]
  | [x], _, h2, h3 => rw [List.perm_singleton.1 h2, List.perm_singleton.1 h3]
theorem closed_none {a : Av} {most : Int} {s : Sv} {E : List Cnd} (hE : isCnds a most [s] E) (h : s.opn = false) : E = [] := by
  have := hE.1
  rw [found_cons, found, List.append_nil] at this
  have e : one a most 0 s = [] := by
    unfold one
    cases costP s a with
    | none => rfl
    | some n => simp [fits, h]
  rw [e] at this
  exact this.eq_nil
end Go.Proofs.Ytkbdkkllfaljlaa
