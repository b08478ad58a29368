/- Streets and addresses that came in. -/
import Derived.Test.YtkbdkkllfaljlaaFr
import Derived.Test.YtkbdkkllfaljlaaOp
import Derived.Test.YtkbdkkllfaljlaaC8
import Derived.ChangeMaps5
set_option linter.unusedVariables false
set_option linter.unusedSimpArgs false
namespace Go.Proofs.Ytkbdkkllfaljlaa
open Go.ChangeShapes Go.WideShapes Go.ChangeAt Go.RowKit Go.Deep

theorem opens_string {P : Program} {t : TypeId} (ht : P.underlying t = some .string) (hc : P.cellsOf t = 1) : Opens P t Rep.str :=
  ⟨hc, fun enc w fuel cs x h => by
    obtain ⟨s, rfl, _, hs⟩ := DataW.trod_string ht h
    exact ⟨s, rfl, hs⟩⟩
/-- A struct that came in by value. -/
theorem open_stc {α : Type} {H : Type} {enc : TypeId × Value → H} {P : Program} {w : World} {r' : Reach} {b0 : Nat} {t : TypeId} {fs : Array Field} {r : Rep α} {v : Value} {d : DataW H} {p : List MemPlace} (ht : P.underlying t = some (.struct fs)) (ho : Opens P t r)
    (hv : Value.okWide P w r' b0 t v) (h : DataW.Trod enc P w 0 (fun _ => true) true t v d p) : ∃ cs a, v = .agg cs ∧ r.rd w cs.toList a := by
  obtain ⟨cs, rfl, _⟩ := okWide_struct ht hv
  obtain ⟨fuel, hf⟩ := h
  obtain ⟨a, ha⟩ := ho.2 enc w fuel _ _ hf
  exact ⟨cs, a, rfl, by simpa [Value.cells] using ha⟩
theorem opens_i : Opens Try.prog 3 (Rep.int .i64) := opens_int Try.underlying3 (by kernel_rfl)
theorem opens_b : Opens Try.prog 4 Rep.bool := opens_bool Try.underlying4 (by kernel_rfl)
theorem opens_s : Opens Try.prog 9 Rep.str := opens_string Try.underlying9 (by kernel_rfl)
theorem opens_ss : Opens Try.prog 36 (Rep.slice Rep.str) := opens_slice Try.underlying36 (by kernel_rfl) opens_s (by decide)
abbrev SvT : Type := ByteArray × ByteArray × ByteArray × List ByteArray × Int × Int × Int × Bool × Unit
def repSv : Rep SvT := Rep.str.pair (Rep.str.pair (Rep.str.pair ((Rep.slice Rep.str).pair ((Rep.int .i64).pair ((Rep.int .i64).pair ((Rep.int .i64).pair (Rep.bool.pair Rep.unit)))))))
theorem opens_sv : Opens Try.prog 49 repSv := opens_struct Try.underlying49 (by kernel_rfl) (opensF_cons rfl opens_s (opensF_cons rfl opens_s (opensF_cons rfl opens_s (opensF_cons rfl opens_ss (opensF_cons rfl opens_i (opensF_cons rfl opens_i (opensF_cons rfl opens_i (opensF_cons rfl opens_b opensF_nil))))))))
theorem opens_svs : Opens Try.prog 22 (Rep.slice repSv) := opens_slice Try.underlying22 (by kernel_rfl) opens_sv (by decide)
abbrev AvT : Type := ByteArray × ByteArray × Int × ByteArray × ByteArray × Unit
def repAv : Rep AvT := Rep.str.pair (Rep.str.pair ((Rep.int .i64).pair (Rep.str.pair (Rep.str.pair Rep.unit))))
theorem opens_av : Opens Try.prog 24 repAv := opens_struct Try.underlying24 (by kernel_rfl) (opensF_cons rfl opens_s (opensF_cons rfl opens_s (opensF_cons rfl opens_i (opensF_cons rfl opens_s (opensF_cons rfl opens_s opensF_nil)))))
/-- A well-formed street, and address. -/
def SWf (s : Sv) : Prop := (Lit.int .i64 s.low).wf = true ∧ (Lit.int .i64 s.high).wf = true ∧ (Lit.int .i64 s.shift).wf = true ∧ s.al.length ≤ maxLen ∧ s.al.length ≤ s.ac ∧ s.ac ≤ maxLen
def AWf (a : Av) : Prop := (Lit.int .i64 a.number).wf = true
theorem strsAt_els {w : World} {p : Option Addr} {l : List ByteArray} (h : Rep.str.els w p l) : StrsAt w p l := fun hl => by
  obtain ⟨b, o, hp, hc⟩ := h hl
  refine ⟨b, o, hp, fun i x hx => ?_⟩
  obtain ⟨cs, ⟨rfl, _⟩, h2⟩ := hc i x hx
  have := h2 0 _ rfl
  simpa [Rep.str] using this
theorem sv_rd {w : World} {cs : List Value} {x : SvT} (h : repSv.rd w cs x) : ∃ s : Sv, cs = s.cells ∧ StrsAt w s.ap s.al ∧ SWf s := by
  obtain ⟨c1, d1, rfl, ⟨rfl, h1⟩, c2, d2, rfl, ⟨rfl, h2⟩, c3, d3, rfl, ⟨rfl, h3⟩, c4, d4, rfl, ⟨p, cap, rfl, h4, h4', h4''⟩, c5, d5, rfl, ⟨rfl, h5⟩, c6, d6, rfl, ⟨rfl, h6⟩, c7, d7, rfl, ⟨rfl, h7⟩, c8, d8, rfl, rfl, rfl⟩ := h
  exact ⟨⟨x.1, x.2.1, x.2.2.1, p, cap, x.2.2.2.1, x.2.2.2.2.1, x.2.2.2.2.2.1, x.2.2.2.2.2.2.1, x.2.2.2.2.2.2.2.1⟩, rfl, strsAt_els h4'', h5, h6, h7, Nat.le_trans h4 h4', h4, h4'⟩
theorem list_of {α : Type} (P : Nat → α → Prop) : ∀ n, (∀ i, i < n → ∃ s, P i s) → ∃ l : List α, l.length = n ∧ ∀ i s, l[i]? = some s → P i s
  | 0, _ => ⟨[], rfl, fun i s h => by simp at h⟩
  | n + 1, h => by
    obtain ⟨l, hl, hp⟩ := list_of P n (fun i hi => h i (by omega))
    obtain ⟨s, hs⟩ := h n (by omega)
    refine ⟨l ++ [s], by simp [hl], fun i x hx => ?_⟩
    rcases Nat.lt_or_ge i l.length with h1 | h1
    · rw [List.getElem?_append_left h1] at hx; exact hp i x hx
    · rw [List.getElem?_append_right h1] at hx
      have : i - l.length = 0 := by
        rcases Nat.eq_zero_or_pos (i - l.length) with h0 | h0
        · exact h0
        · rw [List.getElem?_eq_none (by simp; omega)] at hx; cases hx
      rw [this] at hx
      injection hx with hx; subst hx
      have : i = n := by omega
      rw [this]; exact hs
theorem stsAt_els {w : World} {p : Option Addr} {l : List SvT} (h : repSv.els w p l) : ∃ m : List Sv, m.length = l.length ∧ StsAt w p m ∧ ∀ s ∈ m, SWf s := by
  rcases Nat.eq_zero_or_pos l.length with h0 | h0
  · exact ⟨[], by rw [h0]; rfl, fun h => absurd h (by simp), fun s hs => by simp at hs⟩
  · obtain ⟨b, o, hp, hc⟩ := h h0
    obtain ⟨m, hm, hP⟩ := list_of (fun i (s : Sv) => (∀ c v, s.cells[c]? = some v → w.cell? ⟨b, o + i * 8 + c, none⟩ = some v) ∧ StrsAt w s.ap s.al ∧ SWf s) l.length (fun i hi => by
      obtain ⟨cs, hrd, h2⟩ := hc i l[i] (List.getElem?_eq_getElem hi)
      obtain ⟨s, rfl, h3, h4⟩ := sv_rd hrd
      exact ⟨s, fun c v hv => h2 c v hv, h3, h4⟩)
    refine ⟨m, hm, fun _ => ⟨b, o, hp, fun i x hx => ⟨(hP i x hx).1, (hP i x hx).2.1⟩⟩, fun s hs => ?_⟩
    obtain ⟨i, hi⟩ := List.getElem?_of_mem hs
    exact (hP i s hi).2.2
theorem open_sts {H : Type} {enc : TypeId × Value → H} {w : World} {r' : Reach} {b0 : Nat} {v : Value} {d : DataW H} {p : List MemPlace}
    (hv : Value.okWide Try.prog w r' b0 22 v) (h : DataW.Trod enc Try.prog w 0 (fun _ => true) true 22 v d p) :
    ∃ a n cap l, v = .slice a n cap ∧ l.length = n ∧ n ≤ maxLen ∧ StsAt w a l ∧ (a = none → n = 0) ∧ ∀ s ∈ l, SWf s := by
  obtain ⟨a, n, cap, l, hv, hl, hn, he, hz⟩ := open_slc Try.underlying22 opens_svs hv h
  obtain ⟨m, hm, h1, h2⟩ := stsAt_els he
  exact ⟨a, n, cap, m, hv, by rw [hm]; exact hl, hn, h1, hz, h2⟩
theorem open_st {H : Type} {enc : TypeId × Value → H} {w : World} {r' : Reach} {b0 : Nat} {v : Value} {d : DataW H} {p : List MemPlace}
    (hv : Value.okWide Try.prog w r' b0 49 v) (h : DataW.Trod enc Try.prog w 0 (fun _ => true) true 49 v d p) : ∃ s : Sv, v = .agg s.cells.toArray ∧ (StrsAt w s.ap s.al ∧ SWf s) := by
  obtain ⟨cs, x, rfl, hrd⟩ := open_stc Try.underlying49 opens_sv hv h
  obtain ⟨s, h1, h2, h3⟩ := sv_rd hrd
  refine ⟨s, ?_, h2, h3⟩
  rw [← h1]
theorem open_adr {H : Type} {enc : TypeId × Value → H} {w : World} {r' : Reach} {b0 : Nat} {v : Value} {d : DataW H} {p : List MemPlace}
    (hv : Value.okWide Try.prog w r' b0 24 v) (h : DataW.Trod enc Try.prog w 0 (fun _ => true) true 24 v d p) : ∃ a : Av, v = .agg a.cells.toArray ∧ AWf a := by
  obtain ⟨cs, x, rfl, hrd⟩ := open_stc Try.underlying24 opens_av hv h
  obtain ⟨c1, d1, h0, ⟨rfl, h1⟩, c2, d2, rfl, ⟨rfl, h2⟩, c3, d3, rfl, ⟨rfl, h3⟩, c4, d4, rfl, ⟨rfl, h4⟩, c5, d5, rfl, ⟨rfl, h5⟩, rfl⟩ := hrd
  refine ⟨⟨x.1, x.2.1, x.2.2.1, x.2.2.2.1, x.2.2.2.2.1⟩, ?_, h3⟩
  obtain ⟨cs⟩ := cs
  simp at h0
  rw [h0]; rfl
end Go.Proofs.Ytkbdkkllfaljlaa
