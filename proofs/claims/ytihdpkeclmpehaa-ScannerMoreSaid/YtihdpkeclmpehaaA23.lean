/- Scanners, tracks, records and slips that came in. -/
import Derived.Test.YtihdpkeclmpehaaFr
import Derived.Test.YtihdpkeclmpehaaOp
import Derived.Test.YtihdpkeclmpehaaA13
import Derived.ChangeMaps5
set_option linter.unusedVariables false
set_option linter.unusedSimpArgs false
set_option maxRecDepth 100000
namespace Go.Proofs.Ytihdpkeclmpehaa
open Go.ChangeShapes Go.WideShapes Go.ChangeAt Go.RowKit Go.Deep

theorem opens_string {P : Program} {t : TypeId} (ht : P.underlying t = some .string) (hc : P.cellsOf t = 1) : Opens P t Rep.str :=
  ⟨hc, fun enc w fuel cs x h => by
    obtain ⟨s, rfl, _, hs⟩ := DataW.trod_string ht h
    exact ⟨s, rfl, hs⟩⟩
/-- A struct that came in by value. -/
theorem open_stc {α : Type} {H : Type} {enc : TypeId × Value → H} {P : Program} {w : World} {r' : Reach} {b0 : Nat} {t : TypeId} {fs : Array Field} {r : Rep α} {v : Value} {d : DataW H} {p : List MemPlace} (ht : P.underlying t = some (.struct fs)) (ho : Opens P t r)
    (hv : Value.okWide P w r' b0 t v) (h : DataW.Trod enc P w 0 (fun _ => true) true t v d p) : ∃ cs a, v = .agg cs ∧ r.rd w cs.toList a := by
  obtain ⟨cs, rfl, _⟩ := okWide_struct ht hv
  obtain ⟨fuel, hf⟩ := h
  obtain ⟨a, ha⟩ := ho.2 enc w fuel _ _ hf
  exact ⟨cs, a, rfl, by simpa [Value.cells] using ha⟩
theorem open_slcC {α : Type} {H : Type} {enc : TypeId × Value → H} {P : Program} {w : World} {r' : Reach} {b0 : Nat} {t e : TypeId} {r : Rep α} {v : Value} {d : DataW H} {p : List MemPlace} (ht : P.underlying t = some (.slice e)) (ho : Opens P t (Rep.slice r))
    (hv : Value.okWide P w r' b0 t v) (h : DataW.Trod enc P w 0 (fun _ => true) true t v d p) :
    ∃ a n cap l, v = .slice a n cap ∧ l.length = n ∧ n ≤ maxLen ∧ r.els w a l ∧ n ≤ cap := by
  obtain ⟨a, n, cap, rfl⟩ := okWide_slice ht hv
  obtain ⟨fuel, hf⟩ := h
  obtain ⟨l, q, c, hcs, h1, h2, h3⟩ := ho.2 enc w fuel _ _ hf
  simp [Value.cells] at hcs
  obtain ⟨rfl, rfl, rfl⟩ := hcs
  exact ⟨_, _, _, l, rfl, rfl, Nat.le_trans h1 h2, h3, h1⟩
theorem opens_i : Opens Try.prog 3 (Rep.int .i64) := opens_int Try.underlying3 (by kernel_rfl)
theorem opens_b : Opens Try.prog 4 Rep.bool := opens_bool Try.underlying4 (by kernel_rfl)
theorem opens_s : Opens Try.prog 9 Rep.str := opens_string Try.underlying9 (by kernel_rfl)
theorem opens_is : Opens Try.prog 32 (Rep.slice (Rep.int .i64)) := opens_slice Try.underlying32 (by kernel_rfl) opens_i (by decide)
theorem opens_ss : Opens Try.prog 29 (Rep.slice Rep.str) := opens_slice Try.underlying29 (by kernel_rfl) opens_s (by decide)
abbrev I1 := Rep.int .i64
def repScn : Rep (Int × Int × Int × Unit) := I1.pair (I1.pair (I1.pair Rep.unit))
theorem opens_scn : Opens Try.prog 35 repScn := opens_struct Try.underlying35 (by kernel_rfl) (opensF_cons rfl opens_i (opensF_cons rfl opens_i (opensF_cons rfl opens_i opensF_nil)))
theorem opens_scns : Opens Try.prog 22 (Rep.slice repScn) := opens_slice Try.underlying22 (by kernel_rfl) opens_scn (by decide)
def repStp : Rep (Int × Int × Int × Int × Unit) := I1.pair (I1.pair (I1.pair (I1.pair Rep.unit)))
theorem opens_stp : Opens Try.prog 42 repStp := opens_struct Try.underlying42 (by kernel_rfl) (opensF_cons rfl opens_i (opensF_cons rfl opens_i (opensF_cons rfl opens_i (opensF_cons rfl opens_i opensF_nil))))
theorem opens_stps : Opens Try.prog 38 (Rep.slice repStp) := opens_slice Try.underlying38 (by kernel_rfl) opens_stp (by decide)
abbrev PostT : Type := ByteArray × Int × Int × Int × Int × Unit
def repPost : Rep PostT := Rep.str.pair (I1.pair (I1.pair (I1.pair (I1.pair Rep.unit))))
theorem opens_post : Opens Try.prog 37 repPost := opens_struct Try.underlying37 (by kernel_rfl) (opensF_cons rfl opens_s (opensF_cons rfl opens_i (opensF_cons rfl opens_i (opensF_cons rfl opens_i (opensF_cons rfl opens_i opensF_nil)))))
abbrev TrkT : Type := PostT × List (Int × Int × Int × Int × Unit) × Bool × List Int × List ByteArray × List ByteArray × Unit
def repTrk : Rep TrkT := repPost.pair ((Rep.slice repStp).pair (Rep.bool.pair ((Rep.slice I1).pair ((Rep.slice Rep.str).pair ((Rep.slice Rep.str).pair Rep.unit)))))
theorem opens_trk : Opens Try.prog 40 repTrk := opens_struct Try.underlying40 (by kernel_rfl) (opensF_cons rfl opens_post (opensF_cons rfl opens_stps (opensF_cons rfl opens_b (opensF_cons rfl opens_is (opensF_cons rfl opens_ss (opensF_cons rfl opens_ss opensF_nil))))))
theorem opens_trks : Opens Try.prog 23 (Rep.slice repTrk) := opens_slice Try.underlying23 (by kernel_rfl) opens_trk (by decide)
abbrev RecT : Type := Int × Int × Int × Int × ByteArray × List ByteArray × Unit
def repRec : Rep RecT := I1.pair (I1.pair (I1.pair (I1.pair (Rep.str.pair ((Rep.slice Rep.str).pair Rep.unit)))))
theorem opens_rec : Opens Try.prog 31 repRec := opens_struct Try.underlying31 (by kernel_rfl) (opensF_cons rfl opens_i (opensF_cons rfl opens_i (opensF_cons rfl opens_i (opensF_cons rfl opens_i (opensF_cons rfl opens_s (opensF_cons rfl opens_ss opensF_nil))))))
abbrev SlT : Type := Int × Int × Int × ByteArray × RecT × Unit
def repSl : Rep SlT := I1.pair (I1.pair (I1.pair (Rep.str.pair (repRec.pair Rep.unit))))
theorem opens_sl : Opens Try.prog 47 repSl := opens_struct Try.underlying47 (by kernel_rfl) (opensF_cons rfl opens_i (opensF_cons rfl opens_i (opensF_cons rfl opens_i (opensF_cons rfl opens_s (opensF_cons rfl opens_rec opensF_nil)))))
theorem opens_sls : Opens Try.prog 45 (Rep.slice repSl) := opens_slice Try.underlying45 (by kernel_rfl) opens_sl (by decide)
theorem list_of {α : Type} (P : Nat → α → Prop) : ∀ n, (∀ i, i < n → ∃ s, P i s) → ∃ l : List α, l.length = n ∧ ∀ i s, l[i]? = some s → P i s
  | 0, _ => ⟨[], rfl, fun i s h => by simp at h⟩
  | n + 1, h => by
    obtain ⟨l, hl, hp⟩ := list_of P n (fun i hi => h i (by omega))
    obtain ⟨s, hs⟩ := h n (by omega)
    refine ⟨l ++ [s], by simp [hl], fun i x hx => ?_⟩
    rcases Nat.lt_or_ge i l.length with h1 | h1
    · rw [List.getElem?_append_left h1] at hx; exact hp i x hx
    · rw [List.getElem?_append_right h1] at hx
      have : i - l.length = 0 := by
        rcases Nat.eq_zero_or_pos (i - l.length) with h0 | h0
        · exact h0
        · rw [List.getElem?_eq_none (by simp; omega)] at hx; cases hx
      rw [this] at hx
      injection hx with hx; subst hx
      have : i = n := by omega
      rw [this]; exact hs
theorem encAt_els {α β : Type} {k : Nat} {enc : β → List Value} {r : Rep α} (Q : World → β → Prop) (hk : r.size = k) (hrd : ∀ {w cs x}, r.rd w cs x → ∃ b : β, cs = enc b ∧ Q w b) {w : World} {p : Option Addr} {l : List α} (h : r.els w p l) : ∃ m : List β, m.length = l.length ∧ EncAt k enc w p m ∧ ∀ x ∈ m, Q w x := by
  rcases Nat.eq_zero_or_pos l.length with h0 | h0
  · exact ⟨[], by rw [h0]; rfl, EncAt.nil, by simp⟩
  · obtain ⟨b, o, hp, hc⟩ := h h0
    obtain ⟨m, hm, hP⟩ := list_of (fun i (s : β) => (∀ c v, (enc s)[c]? = some v → w.cell? ⟨b, o + i * k + c, none⟩ = some v) ∧ Q w s) l.length (fun i hi => by
      obtain ⟨cs, h1, h2⟩ := hc i l[i] (List.getElem?_eq_getElem hi)
      obtain ⟨s, rfl, hq⟩ := hrd h1
      exact ⟨s, fun c v hv => by rw [← hk]; exact h2 c v hv, hq⟩)
    refine ⟨m, hm, fun _ => ⟨b, o, hp, fun i x hx => (hP i x hx).1⟩, fun x hx => ?_⟩
    obtain ⟨i, hi⟩ := List.getElem?_of_mem hx
    exact (hP i x hi).2
theorem strsAt_els {w : World} {p : Option Addr} {l : List ByteArray} (h : Rep.str.els w p l) : StrsAt w p l := by
  refine ⟨fun h0 => ?_, fun s hs => ?_⟩
  · obtain ⟨b, o, hp, hc⟩ := h h0
    refine ⟨b, o, hp, fun i x hx c v hv => ?_⟩
    obtain ⟨cs, ⟨rfl, _⟩, h2⟩ := hc i x hx
    exact h2 c v hv
  · obtain ⟨b, o, hp, hc⟩ := h (List.length_pos_of_mem hs)
    obtain ⟨i, hi⟩ := List.getElem?_of_mem hs
    obtain ⟨cs, ⟨_, h1⟩, _⟩ := hc i s hi
    exact h1
theorem scn_rd {w : World} {cs : List Value} {x : Int × Int × Int × Unit} (h : repScn.rd w cs x) : ∃ e : Scn, cs = e.cells ∧ True := by
  obtain ⟨c1, d1, rfl, ⟨rfl, h1⟩, c2, d2, rfl, ⟨rfl, h2⟩, c3, d3, rfl, ⟨rfl, h3⟩, rfl⟩ := h
  exact ⟨⟨x.1, x.2.1, x.2.2.1⟩, rfl, trivial⟩
theorem stp_rd {w : World} {cs : List Value} {x : Int × Int × Int × Int × Unit} (h : repStp.rd w cs x) : ∃ e : Stp, cs = e.cells ∧ True := by
  obtain ⟨c1, d1, rfl, ⟨rfl, h1⟩, c2, d2, rfl, ⟨rfl, h2⟩, c3, d3, rfl, ⟨rfl, h3⟩, c4, d4, rfl, ⟨rfl, h4⟩, rfl⟩ := h
  exact ⟨⟨x.1, x.2.1, x.2.2.1, x.2.2.2.1⟩, rfl, trivial⟩
theorem trk_rd {w : World} {cs : List Value} {x : TrkT} (h : repTrk.rd w cs x) : ∃ t : Trk, cs = t.cells ∧ TrkAt w t := by
  obtain ⟨cp, dp, rfl, ⟨c0, d0, rfl, ⟨rfl, h0⟩, c1, d1, rfl, ⟨rfl, h1⟩, c2, d2, rfl, ⟨rfl, h2⟩, c3, d3, rfl, ⟨rfl, h3⟩, c4, d4, rfl, ⟨rfl, h4⟩, rfl⟩, c5, d5, rfl, ⟨p5, k5, rfl, a5, b5, e5⟩, c6, d6, rfl, rfl, c7, d7, rfl, ⟨p7, k7, rfl, a7, b7, e7⟩, c8, d8, rfl, ⟨p8, k8, rfl, a8, b8, e8⟩, c9, d9, rfl, ⟨p9, k9, rfl, a9, b9, e9⟩, rfl⟩ := h
  obtain ⟨m, hm, hE, _⟩ := encAt_els (k := 4) (enc := Stp.cells) (fun _ _ => True) rfl (fun h => stp_rd h) e5
  refine ⟨⟨x.1.1, x.1.2.1, x.1.2.2.1, x.1.2.2.2.1, x.1.2.2.2.2.1, p5, m, k5, x.2.2.1, p7, x.2.2.2.1, k7, p8, x.2.2.2.2.1, k8, p9, x.2.2.2.2.2.1, k9⟩, ?_, hE, IntsAt.of_els e7, strsAt_els e8, strsAt_els e9, ?_⟩
  · unfold Trk.cells; rw [hm]; rfl
  · refine ⟨?_, Nat.le_trans a7 b7, Nat.le_trans a8 b8, Nat.le_trans a9 b9⟩
    show m.length ≤ maxLen
    rw [hm]; exact Nat.le_trans a5 b5
abbrev RecAt (w : World) (r : Rec) : Prop := StrsAt w r.cp r.contents ∧ r.contents.length ≤ maxLen
theorem rec_rd {w : World} {cs : List Value} {x : RecT} (h : repRec.rd w cs x) : ∃ r : Rec, cs = r.cells ∧ RecAt w r := by
  obtain ⟨c1, d1, rfl, ⟨rfl, h1⟩, c2, d2, rfl, ⟨rfl, h2⟩, c3, d3, rfl, ⟨rfl, h3⟩, c4, d4, rfl, ⟨rfl, h4⟩, c5, d5, rfl, ⟨rfl, h5⟩, c6, d6, rfl, ⟨p6, k6, rfl, a6, b6, e6⟩, rfl⟩ := h
  exact ⟨⟨x.1, x.2.1, x.2.2.1, x.2.2.2.1, x.2.2.2.2.1, p6, x.2.2.2.2.2.1, k6⟩, rfl, strsAt_els e6, Nat.le_trans a6 b6⟩
theorem sl_rd {w : World} {cs : List Value} {x : SlT} (h : repSl.rd w cs x) : ∃ s : Sl, cs = s.cells ∧ RecAt w s.r := by
  obtain ⟨c1, d1, rfl, ⟨rfl, h1⟩, c2, d2, rfl, ⟨rfl, h2⟩, c3, d3, rfl, ⟨rfl, h3⟩, c4, d4, rfl, ⟨rfl, h4⟩, c5, d5, rfl, h5, rfl⟩ := h
  obtain ⟨r, rfl, hr⟩ := rec_rd h5
  exact ⟨⟨x.1, x.2.1, x.2.2.1, x.2.2.2.1, r⟩, by rw [List.append_nil]; rfl, hr⟩
section
variable {H : Type} {enc : TypeId × Value → H} {w : World} {r' : Reach} {b0 : Nat} {v : Value} {d : DataW H} {p : List MemPlace}
theorem open_scns (hv : Value.okWide Try.prog w r' b0 22 v) (h : DataW.Trod enc Try.prog w 0 (fun _ => true) true 22 v d p) :
    ∃ a n cap l, v = .slice a n cap ∧ l.length = n ∧ n ≤ maxLen ∧ ScnsAt w a l ∧ n ≤ cap ∧ True := by
  obtain ⟨a, n, cap, l, h1, h2, h3, h4, h5⟩ := open_slcC Try.underlying22 opens_scns hv h
  obtain ⟨m, hm, hE, _⟩ := encAt_els (k := 3) (enc := Scn.cells) (fun _ _ => True) rfl (fun h => scn_rd h) h4
  exact ⟨a, n, cap, m, h1, by omega, h3, hE, h5, trivial⟩
theorem open_trks (hv : Value.okWide Try.prog w r' b0 23 v) (h : DataW.Trod enc Try.prog w 0 (fun _ => true) true 23 v d p) :
    ∃ a n cap l, v = .slice a n cap ∧ l.length = n ∧ n ≤ maxLen ∧ TrksAt w a l ∧ n ≤ cap ∧ True := by
  obtain ⟨a, n, cap, l, h1, h2, h3, h4, h5⟩ := open_slcC Try.underlying23 opens_trks hv h
  obtain ⟨m, hm, hE, hQ⟩ := encAt_els (k := 10) (enc := Trk.cells) TrkAt rfl (fun h => trk_rd h) h4
  exact ⟨a, n, cap, m, h1, by omega, h3, ⟨hE, hQ⟩, h5, trivial⟩
theorem open_sls (hv : Value.okWide Try.prog w r' b0 45 v) (h : DataW.Trod enc Try.prog w 0 (fun _ => true) true 45 v d p) :
    ∃ a n cap l, v = .slice a n cap ∧ l.length = n ∧ n ≤ maxLen ∧ SlsAt w a l ∧ n ≤ cap ∧ ∀ s ∈ l, s.r.contents.length ≤ maxLen := by
  obtain ⟨a, n, cap, l, h1, h2, h3, h4, h5⟩ := open_slcC Try.underlying45 opens_sls hv h
  obtain ⟨m, hm, hE, hQ⟩ := encAt_els (k := 10) (enc := Sl.cells) (fun w s => RecAt w s.r) rfl (fun h => sl_rd h) h4
  exact ⟨a, n, cap, m, h1, by omega, h3, ⟨hE, fun s hs => (hQ s hs).1⟩, h5, fun s hs => (hQ s hs).2⟩
theorem open_rec (hv : Value.okWide Try.prog w r' b0 31 v) (h : DataW.Trod enc Try.prog w 0 (fun _ => true) true 31 v d p) : ∃ r : Rec, v = .agg r.cells.toArray ∧ RecAt w r := by
  obtain ⟨cs, x, rfl, hrd⟩ := open_stc Try.underlying31 opens_rec hv h
  obtain ⟨r, h1, h2⟩ := rec_rd hrd
  exact ⟨r, by rw [← h1], h2⟩
theorem open_trk (hv : Value.okWide Try.prog w r' b0 40 v) (h : DataW.Trod enc Try.prog w 0 (fun _ => true) true 40 v d p) : ∃ t : Trk, v = .agg t.cells.toArray ∧ TrkAt w t := by
  obtain ⟨cs, x, rfl, hrd⟩ := open_stc Try.underlying40 opens_trk hv h
  obtain ⟨t, h1, h2⟩ := trk_rd hrd
  exact ⟨t, by rw [← h1], h2⟩
end
end Go.Proofs.Ytihdpkeclmpehaa
