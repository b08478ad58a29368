/- Distances, events and legs that came in. -/
import Derived.Test.YtaopfoicdjejnaaFr
import Derived.Test.YtaopfoicdjejnaaOp
import Derived.Test.YtaopfoicdjejnaaW1
set_option linter.unusedVariables false
set_option linter.unusedSimpArgs false
namespace Go.Proofs.Ytaopfoicdjejnaa
open Go.ChangeShapes Go.WideShapes Go.ChangeAt Go.RowKit Go.Deep

theorem open_slcC {α : Type} {H : Type} {enc : TypeId × Value → H} {P : Program} {w : World} {r' : Reach} {b0 : Nat} {t e : TypeId} {r : Rep α} {v : Value} {d : DataW H} {p : List MemPlace} (ht : P.underlying t = some (.slice e)) (ho : Opens P t (Rep.slice r))
    (hv : Value.okWide P w r' b0 t v) (h : DataW.Trod enc P w 0 (fun _ => true) true t v d p) :
    ∃ a n cap l, v = .slice a n cap ∧ l.length = n ∧ n ≤ maxLen ∧ r.els w a l ∧ n ≤ cap := by
  obtain ⟨a, n, cap, rfl⟩ := okWide_slice ht hv
  obtain ⟨fuel, hf⟩ := h
  obtain ⟨l, q, c, hcs, h1, h2, h3⟩ := ho.2 enc w fuel _ _ hf
  simp [Value.cells] at hcs
  obtain ⟨rfl, rfl, rfl⟩ := hcs
  exact ⟨_, _, _, l, rfl, rfl, Nat.le_trans h1 h2, h3, h1⟩
theorem opens_i : Opens Try.prog 3 (Rep.int .i64) := opens_int Try.underlying3 (by kernel_rfl)
theorem opens_is : Opens Try.prog 25 (Rep.slice (Rep.int .i64)) := opens_slice Try.underlying25 (by kernel_rfl) opens_i (by decide)
theorem opens_rows : Opens Try.prog 22 (Rep.slice (Rep.slice (Rep.int .i64))) := opens_slice Try.underlying22 (by kernel_rfl) opens_is (by decide)
abbrev EvT : Type := Int × Int × Int × List Int × Unit
def repEv : Rep EvT := (Rep.int .i64).pair ((Rep.int .i64).pair ((Rep.int .i64).pair ((Rep.slice (Rep.int .i64)).pair Rep.unit)))
theorem opens_ev : Opens Try.prog 32 repEv := opens_struct Try.underlying32 (by kernel_rfl) (opensF_cons rfl opens_i (opensF_cons rfl opens_i (opensF_cons rfl opens_i (opensF_cons rfl opens_is opensF_nil))))
theorem opens_evs : Opens Try.prog 23 (Rep.slice repEv) := opens_slice Try.underlying23 (by kernel_rfl) opens_ev (by decide)
abbrev LgT : Type := Int × Int × Int × Unit
def repLg : Rep LgT := (Rep.int .i64).pair ((Rep.int .i64).pair ((Rep.int .i64).pair Rep.unit))
theorem opens_lg : Opens Try.prog 39 repLg := opens_struct Try.underlying39 (by kernel_rfl) (opensF_cons rfl opens_i (opensF_cons rfl opens_i (opensF_cons rfl opens_i opensF_nil)))
theorem opens_lgs : Opens Try.prog 24 (Rep.slice repLg) := opens_slice Try.underlying24 (by kernel_rfl) opens_lg (by decide)
theorem list_of {α : Type} (P : Nat → α → Prop) : ∀ n, (∀ i, i < n → ∃ s, P i s) → ∃ l : List α, l.length = n ∧ ∀ i s, l[i]? = some s → P i s
  | 0, _ => ⟨[], rfl, fun i s h => by simp at h⟩
  | n + 1, h => by
    obtain ⟨l, hl, hp⟩ := list_of P n (fun i hi => h i (by omega))
    obtain ⟨s, hs⟩ := h n (by omega)
    refine ⟨l ++ [s], by simp [hl], fun i x hx => ?_⟩
    rcases Nat.lt_or_ge i l.length with h1 | h1
    · rw [List.getElem?_append_left h1] at hx; exact hp i x hx
    · rw [List.getElem?_append_right h1] at hx
      have : i - l.length = 0 := by
        rcases Nat.eq_zero_or_pos (i - l.length) with h0 | h0
        · exact h0
        · rw [List.getElem?_eq_none (by simp; omega)] at hx; cases hx
      rw [this] at hx
      injection hx with hx; subst hx
      have : i = n := by omega
      rw [this]; exact hs
theorem rowsAt_els {w : World} {p : Option Addr} {l : List (List Int)} (h : (Rep.slice (Rep.int .i64)).els w p l) : RowsAt w p l := fun hl => by
  obtain ⟨b, o, hp, hc⟩ := h hl
  refine ⟨b, o, hp, fun i r hr => ?_⟩
  obtain ⟨cs, ⟨q, cap, rfl, h1, h2, h3⟩, h4⟩ := hc i r hr
  have := h4 0 _ rfl
  exact ⟨q, cap, by simpa [Rep.slice] using this, IntsAt.of_els h3, Nat.le_trans h1 h2⟩
theorem ev_rd {w : World} {cs : List Value} {x : EvT} (h : repEv.rd w cs x) : ∃ e : Evt, cs = e.cells := by
  obtain ⟨c1, d1, rfl, ⟨rfl, h1⟩, c2, d2, rfl, ⟨rfl, h2⟩, c3, d3, rfl, ⟨rfl, h3⟩, c4, d4, rfl, ⟨p, cap, rfl, h4, h4', h4''⟩, rfl⟩ := h
  exact ⟨⟨x.1, x.2.1, x.2.2.1, p, x.2.2.2.1.length, cap⟩, rfl⟩
theorem lg_rd {w : World} {cs : List Value} {x : LgT} (h : repLg.rd w cs x) : ∃ g : Lgr, cs = g.cells := by
  obtain ⟨c1, d1, rfl, ⟨rfl, h1⟩, c2, d2, rfl, ⟨rfl, h2⟩, c3, d3, rfl, ⟨rfl, h3⟩, rfl⟩ := h
  exact ⟨⟨x.1, x.2.1, x.2.2.1⟩, rfl⟩
theorem encAt_els {α β : Type} {k : Nat} {enc : β → List Value} {r : Rep α} (hk : r.size = k) (hrd : ∀ {w cs x}, r.rd w cs x → ∃ b : β, cs = enc b) {w : World} {p : Option Addr} {l : List α} (h : r.els w p l) : ∃ m : List β, m.length = l.length ∧ EncAt k enc w p m := by
  rcases Nat.eq_zero_or_pos l.length with h0 | h0
  · exact ⟨[], by rw [h0]; rfl, EncAt.nil⟩
  · obtain ⟨b, o, hp, hc⟩ := h h0
    obtain ⟨m, hm, hP⟩ := list_of (fun i (s : β) => ∀ c v, (enc s)[c]? = some v → w.cell? ⟨b, o + i * k + c, none⟩ = some v) l.length (fun i hi => by
      obtain ⟨cs, h1, h2⟩ := hc i l[i] (List.getElem?_eq_getElem hi)
      obtain ⟨s, rfl⟩ := hrd h1
      exact ⟨s, fun c v hv => by rw [← hk]; exact h2 c v hv⟩)
    exact ⟨m, hm, fun _ => ⟨b, o, hp, hP⟩⟩
section
variable {H : Type} {enc : TypeId × Value → H} {w : World} {r' : Reach} {b0 : Nat} {v : Value} {d : DataW H} {p : List MemPlace}
theorem open_rows (hv : Value.okWide Try.prog w r' b0 22 v) (h : DataW.Trod enc Try.prog w 0 (fun _ => true) true 22 v d p) :
    ∃ a n cap l, v = .slice a n cap ∧ l.length = n ∧ n ≤ maxLen ∧ RowsAt w a l ∧ n ≤ cap ∧ True := by
  obtain ⟨a, n, cap, l, h1, h2, h3, h4, h5⟩ := open_slcC Try.underlying22 opens_rows hv h
  exact ⟨a, n, cap, l, h1, h2, h3, rowsAt_els h4, h5, trivial⟩
theorem open_evs (hv : Value.okWide Try.prog w r' b0 23 v) (h : DataW.Trod enc Try.prog w 0 (fun _ => true) true 23 v d p) :
    ∃ a n cap l, v = .slice a n cap ∧ l.length = n ∧ n ≤ maxLen ∧ EvsAt w a l ∧ n ≤ cap ∧ True := by
  obtain ⟨a, n, cap, l, h1, h2, h3, h4, h5⟩ := open_slcC Try.underlying23 opens_evs hv h
  obtain ⟨m, hm, hE⟩ := encAt_els (k := 4) (enc := Evt.cells) rfl (fun h => ev_rd h) h4
  exact ⟨a, n, cap, m, h1, by omega, h3, hE, h5, trivial⟩
theorem open_lgs (hv : Value.okWide Try.prog w r' b0 24 v) (h : DataW.Trod enc Try.prog w 0 (fun _ => true) true 24 v d p) :
    ∃ a n cap l, v = .slice a n cap ∧ l.length = n ∧ n ≤ maxLen ∧ LgsAt w a l ∧ n ≤ cap ∧ True := by
  obtain ⟨a, n, cap, l, h1, h2, h3, h4, h5⟩ := open_slcC Try.underlying24 opens_lgs hv h
  obtain ⟨m, hm, hE⟩ := encAt_els (k := 3) (enc := Lgr.cells) rfl (fun h => lg_rd h) h4
  exact ⟨a, n, cap, m, h1, by omega, h3, hE, h5, trivial⟩
theorem open_tms (hv : Value.okWide Try.prog w r' b0 25 v) (h : DataW.Trod enc Try.prog w 0 (fun _ => true) true 25 v d p) :
    ∃ a n cap l, v = .slice a n cap ∧ l.length = n ∧ n ≤ maxLen ∧ IntsAt .i64 w a l ∧ n ≤ cap ∧ True := by
  obtain ⟨a, n, cap, l, h1, h2, h3, h4, h5⟩ := open_slcC Try.underlying25 opens_is hv h
  exact ⟨a, n, cap, l, h1, h2, h3, IntsAt.of_els h4, h5, trivial⟩
end
end Go.Proofs.Ytaopfoicdjejnaa
