/- TopTampered: if a network and a range of days compile, then the certificate is read back from its own text and accepted together with the plan; with exactly one of its numbers, or its seal, replaced by another number, the text is still read and refused with ErrSeal. Conditions: those that the law tests itself (at most 6 offices, 9 days; at any other input the law asks its fixed example alone); the variables that the row lists hold what the program's text lays into them (a tied card). Parts of this text: Networks and posts that came in, with the form's reach. TopTampered: closed facts of her row. TopTampered: a closed fact of her row. TopTampered: her row and her card. -/
import Derived.Test.YtgfhcmidnbahjaaGreatDoorQT48
import Derived.Test.YtgfhcmidnbahjaaGreatDoorQT1
import Derived.Test.YtgfhcmidnbahjaaGreatDoorQT4
import Derived.ChangeMaps5
import Derived.SizedLaws
import Derived.Test.YtgfhcmidnbahjaaGreatDoorCards
import Derived.ProofKit
import Derived.Test.YtgfhcmidnbahjaaGreatDoorTie
import Derived.Lib.LaidTab
import Derived.Lib.LaidU8
import Derived.Lib.SmallJoins
import Derived.Lay
import Derived.LaidMore
import Derived.Stop.Joined
import Derived.HandedShaped
import Derived.Shelf.Vars
set_option linter.unusedVariables false
set_option linter.unusedSimpArgs false
set_option maxRecDepth 100000
namespace Go.Proofs.YtgfhcmidnbahjaaGreatDoor
open Go.ChangeShapes Go.WideShapes Go.ChangeAt Go.RowKit Go.Deep
theorem opens_string {P : Program} {t : TypeId} (ht : P.underlying t = some .string) (hc : P.cellsOf t = 1) : Opens P t Rep.str :=
  ⟨hc, fun enc w fuel cs x h => by
    obtain ⟨s, rfl, _, hs⟩ := DataW.trod_string ht h
    exact ⟨s, rfl, hs⟩⟩
theorem list_of {α : Type} (P : Nat → α → Prop) : ∀ n, (∀ i, i < n → ∃ s, P i s) → ∃ l : List α, l.length = n ∧ ∀ i s, l[i]? = some s → P i s
  | 0, _ => ⟨[], rfl, fun i s h => by simp at h⟩
  | n + 1, h => by
    obtain ⟨l, hl, hp⟩ := list_of P n (fun i hi => h i (by omega))
    obtain ⟨s, hs⟩ := h n (by omega)
    refine ⟨l ++ [s], by simp [hl], fun i x hx => ?_⟩
    rcases Nat.lt_or_ge i l.length with h1 | h1
    · rw [List.getElem?_append_left h1] at hx; exact hp i x hx
    · rw [List.getElem?_append_right h1] at hx
      have : i - l.length = 0 := by
        rcases Nat.eq_zero_or_pos (i - l.length) with h0 | h0
        · exact h0
        · rw [List.getElem?_eq_none (by simp; omega)] at hx; cases hx
      rw [this] at hx
      injection hx with hx; subst hx
      have : i = n := by omega
      rw [this]; exact hs
theorem encAt_els {α β : Type} {k : Nat} {enc : β → List Value} {r : Rep α} (Q : World → β → Prop) (hk : r.size = k) (hrd : ∀ {w cs x}, r.rd w cs x → ∃ b : β, cs = enc b ∧ Q w b) {w : World} {p : Option Addr} {l : List α} (h : r.els w p l) : ∃ m : List β, m.length = l.length ∧ EncAt k enc w p m ∧ ∀ x ∈ m, Q w x := by
  rcases Nat.eq_zero_or_pos l.length with h0 | h0
  · exact ⟨[], by rw [h0]; rfl, EncAt.nil, by simp⟩
  · obtain ⟨b, o, hp, hc⟩ := h h0
    obtain ⟨m, hm, hP⟩ := list_of (fun i (s : β) => (∀ c v, (enc s)[c]? = some v → w.cell? ⟨b, o + i * k + c, none⟩ = some v) ∧ Q w s) l.length (fun i hi => by
      obtain ⟨cs, h1, h2⟩ := hc i l[i] (List.getElem?_eq_getElem hi)
      obtain ⟨s, rfl, hq⟩ := hrd h1
      exact ⟨s, fun c v hv => by rw [← hk]; exact h2 c v hv, hq⟩)
    refine ⟨m, hm, fun _ => ⟨b, o, hp, fun i x hx => (hP i x hx).1⟩, fun x hx => ?_⟩
    obtain ⟨i, hi⟩ := List.getElem?_of_mem hx
    exact (hP i x hi).2
def OpensW {α : Type} (P : Program) (t : TypeId) (r : Rep α) : Prop :=
  P.cellsOf t = r.size ∧ ∀ {H : Type} (enc : TypeId × Value → H) (w : World) (fuel : Nat) (cs : List Value) (x : DataW H × List MemPlace),
    DataW.trod enc P w 0 (fun _ => true) true fuel t cs = some x → (∀ n ∈ x.1.weights P t, n ≤ reachBytes) → ∃ a, r.rd w cs a
theorem Opens.w {α : Type} {P : Program} {t : TypeId} {r : Rep α} (h : Opens P t r) : OpensW P t r := ⟨h.1, fun enc w fuel cs x hx _ => h.2 enc w fuel cs x hx⟩
def Rep.sliceB {α : Type} (k : Nat) (r : Rep α) : Rep (List α) where
  size := 1
  rd := fun w cs l => ∃ p cap, cs = [.slice p l.length cap] ∧ l.length ≤ cap ∧ cap ≤ maxLen ∧ r.els w p l ∧ cap * k ≤ reachBytes
  len := by rintro w cs a ⟨p, cap, rfl, _⟩; rfl
  keep := by
    rintro w w' cs a hk ⟨p, cap, h1, h2, h3, h4, h5⟩
    exact ⟨p, cap, h1, h2, h3, Rep.els_keep hk h4, h5⟩
theorem weightsAll_mem {H : Type} {P : Program} {e : TypeId} {d : DataW H} {n : Nat} : ∀ {l : List (DataW H)}, d ∈ l → n ∈ d.weights P e → n ∈ DataW.weightsAll P e l
  | [], h, _ => by cases h
  | x :: l, h, hn => by
    rw [DataW.weightsAll, List.mem_append]
    rcases List.mem_cons.1 h with rfl | h
    · exact .inl hn
    · exact .inr (weightsAll_mem h hn)
theorem opensW_slice {α : Type} {P : Program} {t e : TypeId} {k : Nat} {r : Rep α} (ht : P.underlying t = some (.slice e)) (hc : P.cellsOf t = 1) (hk : P.bytesOf e = k) (hr : OpensW P e r) (h1 : 0 < r.size) : OpensW P t (Rep.sliceB k r) :=
  ⟨hc, fun {H} enc w fuel cs x h hw => by
    rcases open_slice ht h with ⟨rfl, _⟩ | ⟨a, len, cap, m, n, D, Pl, rfl, _, hl, hm, hmm, hx, hi⟩
    · exact ⟨[], none, 0, rfl, Nat.le_refl _, by decide, fun h => absurd h (by simp), by simp⟩
    · rw [if_pos rfl] at hmm
      subst hmm
      have hcap : m * k ≤ reachBytes := by
        refine hw _ ?_
        rw [hx]
        simp only [DataW.weights, ht, List.mem_cons, List.length_map, List.length_range]
        left
        rw [hk, show len + (m - len) = m by omega]
      have hwi : ∀ i, i < len → ∀ q ∈ (D i).weights P e, q ≤ reachBytes := fun i hil q hq => by
        refine hw _ ?_
        rw [hx]
        simp only [DataW.weights, ht, List.mem_cons, List.mem_append]
        right; left
        exact weightsAll_mem (List.mem_map_of_mem (List.mem_range.2 hil)) hq
      have each : ∀ i, i < len → ∃ y cs', r.rd w cs' y ∧ cs'.length = r.size ∧ ∀ j u, cs'[j]? = some u → w.cell? (a.add (i * r.size + j)) = some u := by
        intro i hil
        obtain ⟨cs', hcs', ht'⟩ := hi i (by omega)
        rw [hr.1] at hcs'
        obtain ⟨_, hlen, hat⟩ := World.cells?_some hcs'
        obtain ⟨y, hy⟩ := hr.2 enc w n cs' _ ht' (hwi i hil)
        refine ⟨y, cs', hy, hlen, fun j u hu => ?_⟩
        have hj : j < r.size := by have := (List.getElem?_eq_some_iff.1 hu).1; omega
        have := hat j hj
        rw [Go.Deep.add_add] at this
        rw [this, hu]
      have build : ∀ k, k ≤ len → ∃ l : List α, l.length = k ∧ ∀ i (y : α), l[i]? = some y → ∃ cs', r.rd w cs' y ∧ ∀ j u, cs'[j]? = some u → w.cell? (a.add (i * r.size + j)) = some u := by
        intro k
        induction k with
        | zero => intro _; exact ⟨[], rfl, fun i y hy => by simp at hy⟩
        | succ k ih =>
          intro hk
          obtain ⟨l, hl', hall⟩ := ih (by omega)
          obtain ⟨y, cs', h2, _, h3⟩ := each k (by omega)
          refine ⟨l ++ [y], by simp [hl'], fun i z hz => ?_⟩
          rw [List.getElem?_append] at hz
          split at hz
          · exact hall i z hz
          · have hik : i = k := by have := (List.getElem?_eq_some_iff.1 hz).1; simp at this; omega
            subst hik
            rw [show i - l.length = 0 by omega] at hz
            simp at hz
            subst hz
            exact ⟨cs', h2, h3⟩
      obtain ⟨l, hll, hall⟩ := build len (Nat.le_refl _)
      refine ⟨l, some a, m, by rw [hll], by omega, hm, fun h0 => ?_, hcap⟩
      obtain ⟨cs', hcs', hcl, hc3⟩ : ∃ cs' : List Value, r.rd w cs' (l[0]'(by omega)) ∧ cs'.length = r.size ∧ ∀ j u, cs'[j]? = some u → w.cell? (a.add (0 * r.size + j)) = some u := by
        obtain ⟨cs', h2, h3⟩ := hall 0 _ (List.getElem?_eq_getElem h0)
        exact ⟨cs', h2, r.len h2, h3⟩
      have h00 := hc3 0 (cs'[0]'(by omega)) (List.getElem?_eq_getElem (by omega))
      rw [Nat.zero_mul, Nat.add_zero, Addr.add_zero'] at h00
      have hx := addr_plain' h00
      refine ⟨a.block, a.off, by rw [← hx], fun i y hy => ?_⟩
      obtain ⟨cs', h2, h3⟩ := hall i y hy
      refine ⟨cs', h2, fun j u hu => ?_⟩
      have := h3 j u hu
      rw [hx, Addr.add_lit] at this
      simpa [Nat.add_assoc] using this⟩
structure OpensFW {α : Type} (P : Program) (fs : List Field) (off : Nat) (r : Rep α) : Prop where
  run : ∀ {H : Type} (enc : TypeId × Value → H) (w : World) (n : Nat) (cs : List Value) (xs : List (DataW H × List MemPlace)), cs.length = off + r.size → xs.length = fs.length →
    (∀ (i : Nat) (f : Field), fs[i]? = some f → DataW.trod enc P w 0 (fun _ => true) true n f.type ((cs.drop f.offset).take (P.cellsOf f.type)) = xs[i]?) →
    (∀ q ∈ DataW.weightsEach P (fs.map (·.type)) (xs.map (·.1)), q ≤ reachBytes) → ∃ a, r.rd w (cs.drop off) a
theorem opensFW_nil {P : Program} {off : Nat} : OpensFW P [] off Rep.unit := ⟨fun enc w n cs xs hl _ _ _ => ⟨(), by
  show cs.drop off = []
  rw [List.drop_eq_nil_iff]
  have : Rep.unit.size = 0 := rfl
  omega⟩⟩
theorem opensFW_cons {α β : Type} {P : Program} {f : Field} {fs : List Field} {off : Nat} {r : Rep α} {s : Rep β} (hf : f.offset = off) (hr : OpensW P f.type r) (hs : OpensFW P fs (off + r.size) s) :
    OpensFW P (f :: fs) off (r.pair s) := ⟨fun {H} enc w n cs xs hl hx h hw => by
  have hsz : (r.pair s).size = r.size + s.size := rfl
  obtain ⟨y, xs', rfl⟩ : ∃ y xs', xs = y :: xs' := by
    cases xs with
    | nil => simp at hx
    | cons y xs' => exact ⟨y, xs', rfl⟩
  have h0 := h 0 f rfl
  rw [hf, hr.1] at h0
  simp only [List.map_cons, DataW.weightsEach, List.mem_append] at hw
  obtain ⟨a, ha⟩ := hr.2 enc w n _ y h0 (fun q hq => hw q (.inl hq))
  obtain ⟨b, hb⟩ := hs.run enc w n cs xs' (by omega) (by simpa using hx) (fun i g hg => by
    have := h (i + 1) g (by simpa using hg)
    simpa using this) (fun q hq => hw q (.inr hq))
  refine ⟨(a, b), (cs.drop off).take r.size, cs.drop (off + r.size), ?_, ha, hb⟩
  rw [← List.drop_drop, List.take_append_drop]⟩
theorem opensW_struct {α : Type} {P : Program} {t : TypeId} {fs : Array Field} {r : Rep α} (ht : P.underlying t = some (.struct fs)) (hc : P.cellsOf t = r.size) (hf : OpensFW P fs.toList 0 r) : OpensW P t r :=
  ⟨hc, fun enc w fuel cs x h hw => by
    obtain ⟨xs, n, _, hx, hl, hxl, hall⟩ := DataW.trod_struct ht h
    have := hf.run enc w n cs xs (by rw [hl, hc, Nat.zero_add]) (by simpa using hxl) (fun i f hif => hall i f (by simpa using hif)) (fun q hq => hw q (by
      rw [hx]
      simp only [DataW.weights, ht]
      exact hq))
    simpa using this⟩
theorem openW_stc {α : Type} {H : Type} {enc : TypeId × Value → H} {P : Program} {w : World} {r' : Reach} {b0 : Nat} {t : TypeId} {fs : Array Field} {r : Rep α} {v : Value} {d : DataW H} {p : List MemPlace} (ht : P.underlying t = some (.struct fs)) (ho : OpensW P t r)
    (hv : Value.okWide P w r' b0 t v) (h : DataW.Trod enc P w 0 (fun _ => true) true t v d p) (hw : ∀ n ∈ d.weights P t, n ≤ reachBytes) : ∃ cs a, v = .agg cs ∧ r.rd w cs.toList a := by
  obtain ⟨cs, rfl, _⟩ := okWide_struct ht hv
  obtain ⟨fuel, hf⟩ := h
  obtain ⟨a, ha⟩ := ho.2 enc w fuel _ _ hf hw
  exact ⟨cs, a, rfl, by simpa [Value.cells] using ha⟩
abbrev I1 := Rep.int .i64
theorem i64_wf {x : Int} (h : (Lit.int .i64 x).wf = true) : I64 x := by
  simp [Lit.wf] at h; exact h
theorem opens_i : Opens Tryz.prog 3 I1 := opens_int Tryz.underlying3 (by kernel_rfl)
theorem opens_b : Opens Tryz.prog 4 Rep.bool := opens_bool Tryz.underlying4 (by kernel_rfl)
theorem opens_s : Opens Tryz.prog 9 Rep.str := opens_string Tryz.underlying9 (by kernel_rfl)
theorem opens_is : Opens Tryz.prog 40 (Rep.slice I1) := opens_slice Tryz.underlying40 (by kernel_rfl) opens_i (by decide)
theorem opens_bs : Opens Tryz.prog 162 (Rep.slice Rep.bool) := opens_slice Tryz.underlying162 (by kernel_rfl) opens_b (by decide)
theorem opens_ss : Opens Tryz.prog 23 (Rep.slice Rep.str) := opens_slice Tryz.underlying23 (by kernel_rfl) opens_s (by decide)
abbrev CalT : Type := Int × List Bool × List Int × Unit
def repCal : Rep CalT := I1.pair ((Rep.slice Rep.bool).pair ((Rep.slice I1).pair Rep.unit))
theorem opens_cal : Opens Tryz.prog 164 repCal := opens_struct Tryz.underlying164 (by kernel_rfl) (opensF_cons rfl opens_i (opensF_cons rfl opens_bs (opensF_cons rfl opens_is opensF_nil)))
theorem opens_cals : Opens Tryz.prog 22 (Rep.slice repCal) := opens_slice Tryz.underlying22 (by kernel_rfl) opens_cal (by decide)
def repOpr : Rep (ByteArray × Unit) := Rep.str.pair Rep.unit
theorem opens_opr : Opens Tryz.prog 166 repOpr := opens_struct Tryz.underlying166 (by kernel_rfl) (opensF_cons rfl opens_s opensF_nil)
theorem opens_oprs : Opens Tryz.prog 24 (Rep.slice repOpr) := opens_slice Tryz.underlying24 (by kernel_rfl) opens_opr (by decide)
abbrev OffT : Type := ByteArray × Int × Int × Int × Int × Int × List ByteArray × Unit
def repOff : Rep OffT := Rep.str.pair (I1.pair (I1.pair (I1.pair (I1.pair (I1.pair ((Rep.slice Rep.str).pair Rep.unit))))))
theorem opens_off : Opens Tryz.prog 65 repOff := opens_struct Tryz.underlying65 (by kernel_rfl) (opensF_cons rfl opens_s (opensF_cons rfl opens_i (opensF_cons rfl opens_i (opensF_cons rfl opens_i (opensF_cons rfl opens_i (opensF_cons rfl opens_i (opensF_cons rfl opens_ss opensF_nil)))))))
theorem opens_offs : Opens Tryz.prog 25 (Rep.slice repOff) := opens_slice Tryz.underlying25 (by kernel_rfl) opens_off (by decide)
abbrev LinT : Type := ByteArray × Int × Int × Int × Int × Int × Unit
def repLin : Rep LinT := Rep.str.pair (I1.pair (I1.pair (I1.pair (I1.pair (I1.pair Rep.unit)))))
theorem opens_lin : Opens Tryz.prog 55 repLin := opens_struct Tryz.underlying55 (by kernel_rfl) (opensF_cons rfl opens_s (opensF_cons rfl opens_i (opensF_cons rfl opens_i (opensF_cons rfl opens_i (opensF_cons rfl opens_i (opensF_cons rfl opens_i opensF_nil))))))
theorem opensW_lins : OpensW Tryz.prog 26 (Rep.sliceB 56 repLin) := opensW_slice Tryz.underlying26 (by kernel_rfl) (by kernel_rfl) opens_lin.w (by decide)
def repCls : Rep (ByteArray × Int × Int × Unit) := Rep.str.pair (I1.pair (I1.pair Rep.unit))
theorem opens_cls : Opens Tryz.prog 168 repCls := opens_struct Tryz.underlying168 (by kernel_rfl) (opensF_cons rfl opens_s (opensF_cons rfl opens_i (opensF_cons rfl opens_i opensF_nil)))
theorem opens_clss : Opens Tryz.prog 27 (Rep.slice repCls) := opens_slice Tryz.underlying27 (by kernel_rfl) opens_cls (by decide)
abbrev NetT : Type := List CalT × List ByteArray × List (ByteArray × Unit) × List OffT × List LinT × List (ByteArray × Int × Int × Unit) × Unit
def repNet : Rep NetT := (Rep.slice repCal).pair ((Rep.slice Rep.str).pair ((Rep.slice repOpr).pair ((Rep.slice repOff).pair ((Rep.sliceB 56 repLin).pair ((Rep.slice repCls).pair Rep.unit)))))
theorem opensW_net : OpensW Tryz.prog 29 repNet := opensW_struct Tryz.underlying29 (by kernel_rfl) (opensFW_cons rfl opens_cals.w (opensFW_cons rfl opens_ss.w (opensFW_cons rfl opens_oprs.w (opensFW_cons rfl opens_offs.w (opensFW_cons rfl opensW_lins (opensFW_cons rfl opens_clss.w opensFW_nil))))))
theorem strsAt_els {w : World} {p : Option Addr} {l : List ByteArray} (h : Rep.str.els w p l) (hn : l.length ≤ maxLen) : StrsAt w p l := by
  refine ⟨fun h0 => ?_, fun s hs => ?_, hn⟩
  · obtain ⟨b, o, hp, hc⟩ := h h0
    refine ⟨b, o, hp, fun i x hx c v hv => ?_⟩
    obtain ⟨cs, ⟨rfl, _⟩, h2⟩ := hc i x hx
    exact h2 c v hv
  · obtain ⟨b, o, hp, hc⟩ := h (List.length_pos_of_mem hs)
    obtain ⟨i, hi⟩ := List.getElem?_of_mem hs
    obtain ⟨cs, ⟨_, h1⟩, _⟩ := hc i s hi
    exact h1
theorem oprs_els {w : World} {p : Option Addr} {l : List (ByteArray × Unit)} (h : repOpr.els w p l) (hn : l.length ≤ maxLen) : StrsAt w p (l.map (·.1)) := by
  refine ⟨fun h0 => ?_, fun s hs => ?_, by simpa using hn⟩
  · obtain ⟨b, o, hp, hc⟩ := h (by simpa using h0)
    refine ⟨b, o, hp, fun i x hx c v hv => ?_⟩
    rw [List.getElem?_map] at hx
    obtain ⟨y, hy, rfl⟩ := Option.map_eq_some_iff.1 hx
    obtain ⟨cs, ⟨c1, d1, rfl, ⟨rfl, h1⟩, rfl⟩, h2⟩ := hc i y hy
    exact h2 c v hv
  · obtain ⟨y, hy, rfl⟩ := List.mem_map.1 hs
    obtain ⟨b, o, hp, hc⟩ := h (List.length_pos_of_mem hy)
    obtain ⟨i, hi⟩ := List.getElem?_of_mem hy
    obtain ⟨cs, ⟨c1, d1, rfl, ⟨rfl, h1⟩, rfl⟩, h2⟩ := hc i y hi
    exact h1
theorem ints_i64 {w : World} {p : Option Addr} {l : List Int} (h : I1.els w p l) : ∀ x ∈ l, I64 x := by
  intro x hx
  obtain ⟨b, o, hp, hc⟩ := h (List.length_pos_of_mem hx)
  obtain ⟨i, hi⟩ := List.getElem?_of_mem hx
  obtain ⟨cs, ⟨_, h1⟩, _⟩ := hc i x hi
  exact i64_wf h1
theorem bools_els {w : World} {p : Option Addr} {l : List Bool} (h : Rep.bool.els w p l) : BoolsAt w p l := fun h0 => by
  obtain ⟨b, o, hp, hc⟩ := h h0
  refine ⟨b, o, hp, fun i x hx c v hv => ?_⟩
  obtain ⟨cs, rfl, h2⟩ := hc i x hx
  exact h2 c v hv
theorem cal_rd {w : World} {cs : List Value} {x : CalT} (h : repCal.rd w cs x) : ∃ c : Cal, cs = c.cells ∧ CalAt w c := by
  obtain ⟨c1, d1, rfl, ⟨rfl, h1⟩, c2, d2, rfl, ⟨p2, k2, rfl, a2, b2, e2⟩, c3, d3, rfl, ⟨p3, k3, rfl, a3, b3, e3⟩, rfl⟩ := h
  exact ⟨⟨x.1, p2, x.2.1, k2, p3, x.2.2.1, k3⟩, rfl, ⟨bools_els e2, IntsAt.of_els e3, Nat.le_trans a2 b2, Nat.le_trans a3 b3, i64_wf h1, ints_i64 e3⟩⟩
theorem off_rd {w : World} {cs : List Value} {x : OffT} (h : repOff.rd w cs x) : ∃ o : Off, cs = o.cells ∧ OffAt w o := by
  obtain ⟨c1, d1, rfl, ⟨rfl, h1⟩, c2, d2, rfl, ⟨rfl, h2⟩, c3, d3, rfl, ⟨rfl, h3⟩, c4, d4, rfl, ⟨rfl, h4⟩, c5, d5, rfl, ⟨rfl, h5⟩, c6, d6, rfl, ⟨rfl, h6⟩, c7, d7, rfl, ⟨p7, k7, rfl, a7, b7, e7⟩, rfl⟩ := h
  exact ⟨⟨x.1, x.2.1, x.2.2.1, x.2.2.2.1, x.2.2.2.2.1, x.2.2.2.2.2.1, p7, x.2.2.2.2.2.2.1, k7⟩, rfl, ⟨strsAt_els e7 (Nat.le_trans a7 b7), h1, i64_wf h2, i64_wf h3, i64_wf h4, i64_wf h5, i64_wf h6⟩⟩
theorem lin_rd {w : World} {cs : List Value} {x : LinT} (h : repLin.rd w cs x) : ∃ l : Lin, cs = l.cells ∧ LinR l := by
  obtain ⟨c1, d1, rfl, ⟨rfl, h1⟩, c2, d2, rfl, ⟨rfl, h2⟩, c3, d3, rfl, ⟨rfl, h3⟩, c4, d4, rfl, ⟨rfl, h4⟩, c5, d5, rfl, ⟨rfl, h5⟩, c6, d6, rfl, ⟨rfl, h6⟩, rfl⟩ := h
  exact ⟨⟨x.1, x.2.1, x.2.2.1, x.2.2.2.1, x.2.2.2.2.1, x.2.2.2.2.2.1⟩, rfl, h1, i64_wf h2, i64_wf h3, i64_wf h4, i64_wf h5, i64_wf h6⟩
theorem cls_rd {w : World} {cs : List Value} {x : ByteArray × Int × Int × Unit} (h : repCls.rd w cs x) : ∃ l : Cls, cs = l.cells ∧ ClsR l := by
  obtain ⟨c1, d1, rfl, ⟨rfl, h1⟩, c2, d2, rfl, ⟨rfl, h2⟩, c3, d3, rfl, ⟨rfl, h3⟩, rfl⟩ := h
  exact ⟨⟨x.1, x.2.1, x.2.2.1⟩, rfl, h1, i64_wf h2, i64_wf h3⟩
theorem net_rd {w : World} {cs : List Value} {x : NetT} (h : repNet.rd w cs x) : ∃ N : Net, cs = N.cells.toList ∧ NetAt w N ∧ N.lins.length * 56 ≤ reachBytes := by
  obtain ⟨c1, d1, rfl, ⟨p1, k1, rfl, a1, b1, e1⟩, c2, d2, rfl, ⟨p2, k2, rfl, a2, b2, e2⟩, c3, d3, rfl, ⟨p3, k3, rfl, a3, b3, e3⟩, c4, d4, rfl, ⟨p4, k4, rfl, a4, b4, e4⟩, c5, d5, rfl, ⟨p5, k5, rfl, a5, b5, e5, f5⟩, c6, d6, rfl, ⟨p6, k6, rfl, a6, b6, e6⟩, rfl⟩ := h
  obtain ⟨m1, hm1, hE1, hQ1⟩ := encAt_els (k := 3) (enc := Cal.cells) CalAt rfl (fun h => cal_rd h) e1
  obtain ⟨m4, hm4, hE4, hQ4⟩ := encAt_els (k := 7) (enc := Off.cells) OffAt rfl (fun h => off_rd h) e4
  obtain ⟨m5, hm5, hE5, hQ5⟩ := encAt_els (k := 6) (enc := Lin.cells) (fun _ l => LinR l) rfl (fun h => lin_rd h) e5
  obtain ⟨m6, hm6, hE6, hQ6⟩ := encAt_els (k := 3) (enc := Cls.cells) (fun _ l => ClsR l) rfl (fun h => cls_rd h) e6
  refine ⟨⟨p1, m1, k1, p2, x.2.1, k2, p3, x.2.2.1.map (·.1), k3, p4, m4, k4, p5, m5, k5, p6, m6, k6⟩, ?_, ⟨hE1, hQ1, strsAt_els e2 (Nat.le_trans a2 b2), oprs_els e3 (Nat.le_trans a3 b3), hE4, hQ4, hE5, hQ5, hE6, hQ6, ?_⟩, ?_⟩
  · unfold Net.cells; rw [hm1, hm4, hm5, hm6, List.length_map]; rfl
  · refine ⟨?_, ?_, ?_, ?_⟩
    · show m1.length ≤ _; rw [hm1]; exact Nat.le_trans a1 b1
    · show m4.length ≤ _; rw [hm4]; exact Nat.le_trans a4 b4
    · show m5.length ≤ _; rw [hm5]; exact Nat.le_trans a5 b5
    · show m6.length ≤ _; rw [hm6]; exact Nat.le_trans a6 b6
  · show m5.length * 56 ≤ _; rw [hm5]; exact Nat.le_trans (Nat.mul_le_mul_right 56 a5) f5
section
variable {H : Type} {enc : TypeId × Value → H} {w : World} {r' : Reach} {b0 : Nat} {v : Value} {d : DataW H} {p : List MemPlace}
theorem openW_net (hv : Value.okWide Tryz.prog w r' b0 29 v) (h : DataW.Trod enc Tryz.prog w 0 (fun _ => true) true 29 v d p) (hw : ∀ n ∈ d.weights Tryz.prog 29, n ≤ reachBytes) : ∃ N : Net, v = .agg N.cells ∧ NetAt w N ∧ N.lins.length * 56 ≤ reachBytes := by
  obtain ⟨cs, x, rfl, hrd⟩ := openW_stc Tryz.underlying29 opensW_net hv h hw
  obtain ⟨N, h1, h2, h3⟩ := net_rd hrd
  exact ⟨N, by rw [← Array.toArray_toList (xs := cs), h1], h2, h3⟩
end
end Go.Proofs.YtgfhcmidnbahjaaGreatDoor
set_option maxRecDepth 100000
namespace Go.Proofs.YtgfhcmidnbahjaaGreatDoor
open Go.RowKit
theorem tNamed : Tryz.prog.funcNamed Rows.topTamperedRow.func = some 5 := by kernel_rfl
theorem tInst : Tryz.f5.isInstance Tryz.prog Rows.topTamperedRow.origin Rows.topTamperedRow.targs := of_decide_eq_true (by kernel_rfl)
theorem tFacts : joinedFacts Tryz.prog 5 Tryz.f5 Rows.topTamperedSpec Rows.topTamperedRow = true := by kernel_rfl
end Go.Proofs.YtgfhcmidnbahjaaGreatDoor
set_option maxRecDepth 100000
namespace Go.Proofs.YtgfhcmidnbahjaaGreatDoor
open Go.RowKit
theorem tWrap : Tryz.f5.isWrapper Tryz.prog Rows.topTamperedRow.wrapper Rows.topTamperedRow.mainSum := by unfold Func.isWrapper; first | (rw [if_pos (by decide +kernel)]; kernel_rfl) | (rw [if_neg (by decide +kernel)]; exact ⟨rfl, rfl⟩)
theorem tLooks : Tryz.pinned.checked.prog.looks [] = true := by kernel_rfl
theorem tWants : (Tryz.f5.params.toList.all fun u => !Tryz.prog.wantsStandIn u) = true := by kernel_rfl
end Go.Proofs.YtgfhcmidnbahjaaGreatDoor
set_option maxRecDepth 100000
namespace Go.Proofs.YtgfhcmidnbahjaaGreatDoor
open Go.ChangeShapes Go.WideShapes Go.ChangeAt Go.RowKit
theorem vKwG : Tryz.prog.globalNamed "postilion/survey.keyWords" = some 2 := by kernel_rfl
theorem vKwT : (Tryz.prog.globals[2]?).map (·.type) = some 322 := by kernel_rfl
theorem vCS : Tryz.prog.cellsOf 9 = 1 := by kernel_rfl
theorem vKwD : (Rows.laid_postilion_survey_keyWords : DataW Unit) = .agg (kwL.map fun s => .lit (.string s)) := by rfl
theorem vKwL : kwL.length = 17 := by rfl
theorem kw_of {W : World} {laid : List (String × DataW Unit)} (hpl : ∀ p ∈ laid, True) (h : laidMet Tryz.prog laid W) (hm : ("postilion/survey.keyWords", Rows.laid_postilion_survey_keyWords) ∈ laid) : KwAt W := by
  obtain ⟨g, t, cs, fuel, p, hg, ht, hv, hd⟩ := Lib.laidMet.reads h (n := "postilion/survey.keyWords") (d := Rows.laid_postilion_survey_keyWords) hm
  obtain rfl := Option.some.inj (vKwG.symm.trans hg)
  obtain rfl := Option.some.inj (vKwT.symm.trans ht)
  obtain ⟨xs, m1, rfl, hx, hlen, hn, hel⟩ := DataW.trod_array Tryz.underlying322 hd
  rw [vKwD] at hx
  have hx1 := congrArg Prod.fst hx
  injection hx1 with hx1
  have hc : ∀ (k : Nat) (s : List UInt8), kwL[k]? = some s → W.cell? ⟨2, k, none⟩ = some (.string ⟨s.toArray⟩) := fun k s hk => by
    have hk17 : k < 17 := by rw [← vKwL]; exact (List.getElem?_eq_some_iff.1 hk).1
    have h1 := hel k hk17
    rw [vCS, Nat.mul_one] at h1
    obtain ⟨x, hxk⟩ : ∃ x, xs[k]? = some x := ⟨_, List.getElem?_eq_getElem (by rw [hn]; exact hk17)⟩
    rw [hxk] at h1
    obtain ⟨s', hcs, hs', _⟩ := DataW.trod_string Tryz.underlying9 h1
    have h2 := congrArg (fun l : List (DataW Unit) => l[k]?) hx1
    simp only [List.getElem?_map, hk, hxk, Option.map_some] at h2
    rw [hs'] at h2
    have h3 : s = s'.data.toList := by
      injection h2 with h2; injection h2 with h2; injection h2 with h2
    have h4 : cs[k]? = some (.string s') := by
      have := congrArg (fun l : List Value => l[0]?) hcs
      simpa [List.getElem?_take, List.getElem?_drop] using this
    rw [World.var?_cell vKwG hv k, h4, h3]
  exact ⟨World.block_lt_of_cell? W _ (hc 0 _ rfl), hc⟩
theorem vPowG : Tryz.prog.globalNamed "internal/strconv.uint64pow10" = some 1 := by kernel_rfl
theorem vPowT : (Tryz.prog.globals[1]?).map (·.type) = some 318 := by kernel_rfl
theorem vCPow : Tryz.prog.cellsOf 318 = 20 := by kernel_rfl
theorem vCU64 : Tryz.prog.cellsOf 293 = 1 := by kernel_rfl
theorem vPowD : (Rows.laid_internal_strconv_uint64pow10 : DataW Unit) = Lib.tabData .u64 Lib.pow10Tab := by rfl
theorem tab_of {W : World} {laid : List (String × DataW Unit)} (h : laidMet Tryz.prog laid W) (hm : ("internal/strconv.uint64pow10", Rows.laid_internal_strconv_uint64pow10) ∈ laid) : Lib.TabIs Tryz.prog W "internal/strconv.uint64pow10" .u64 Lib.pow10Tab := by
  obtain ⟨g, t, cs, fuel, p, hg, ht, hv, hd⟩ := Lib.laidMet.reads h (n := "internal/strconv.uint64pow10") (d := Rows.laid_internal_strconv_uint64pow10) hm
  obtain rfl := Option.some.inj (vPowG.symm.trans hg)
  obtain rfl := Option.some.inj (vPowT.symm.trans ht)
  rw [vPowD] at hd
  unfold Lib.TabIs
  rw [hv, ← Lib.cells_of_tab Tryz.underlying318 Tryz.underlying293 vCU64 vCPow hd]
theorem len_of {W : World} (h : W.ShapedOpen Tryz.prog) : ∃ m, W.cell? ⟨0, 0, none⟩ = some (.int .i64 m) :=
  cell_of_shapedOpen_int (P := Tryz.prog) (g := 0) (t := 3) (zero := #[.int .i64 0]) (k := .i64) h (Nat.le_of_ble_eq_true (by kernel_rfl)) (by kernel_rfl) rfl (by kernel_rfl) (by kernel_rfl) (by kernel_rfl)
theorem handed_shaped {H : Type} {enc : TypeId × Value → H} {a : Assume} {C : Checked} {os : Os} {f : FuncId} {fn : Func} {s : ChangeSpec} {conds : List PathCond} {apart fresh handsOn again : Bool} {X : World → Array Value → Prop}
    (hX : ∀ (w w' : World) (args : Array Value), w.heap = w'.heap → X w args → X w' args)
    (own : ownKnob C.prog.godebug = none) (started : os.Started) (noInit : C.prog.inits.idxOf? f = none) (hfn : C.prog.funcs[f]? = some fn)
    (witness : ∃ (w : World) (tape : Tape) (i : Input), w.os = os ∧ (w.forCall tape i).Shaped C.prog ∧ i.vars = [] ∧ Input.okWide C.prog (w.forCall tape i) .any w.heap.size f i ∧
      ((s.pre enc C.prog fn conds apart (w.forCall tape i).memory i.args ∧ X (w.forCall tape i).memory i.args) ∧ sizedMet enc C.prog fn (OpenSpec.ofChange s) apart (w.forCall tape i).memory i.args) ∧ a.holds C.prog (lone (Frame.enter C.prog f i.args .normal) [] (w.forCall tape i)))
    (contract : ∀ (W : World) (base : Nat) (args : Array Value) (ds gs : List (DataW H)) (before : List MemPlace),
      (∀ (j : Nat) t v, fn.params[j]? = some t → args[j]? = some v → Value.okWide C.prog W .any base t v) →
      DataW.Whole enc C.prog fn.params.toList s.vars apart W args.toList ds gs before →
      conds.all (PathCond.test C.prog ⟨fn.params.toList, ds, s.plain.varTypes C.prog, gs⟩) = true →
      (DataW.weightsEach C.prog (fn.params.toList ++ s.plain.varTypes C.prog) (ds ++ gs)).all (· ≤ reachBytes) = true → X W args → W.ShapedOpen C.prog →
      a.holds C.prog (lone (Frame.enter C.prog f args .normal) [] W) →
      Calls C.prog f args W fun e W' => ∃ v, e = .returned v ∧ s.post enc C.prog fn apart fresh handsOn again W args v W') :
    ReturnsInHanded a C os f .any (fun w args => (s.pre enc C.prog fn conds apart w args ∧ X w args) ∧ sizedMet enc C.prog fn (OpenSpec.ofChange s) apart w args) (s.post enc C.prog fn apart fresh handsOn again) := by
  refine returnsInHanded_of_calls own started noInit witness ?_
  intro w tape i _ hsh _ hok hpre hholds
  obtain ⟨_, _, _, fn', hfn', _, _, _, _, hval⟩ := hok
  have e : fn' = fn := Option.some.inj (hfn'.symm.trans hfn)
  subst e
  obtain ⟨⟨⟨ds, gs, before, hw, hc⟩, hx⟩, hz⟩ := hpre
  have hw' := DataW.Whole.of_heap (w' := w.forCall tape i) (by rfl) hw
  refine (contract (w.forCall tape i) w.heap.size i.args ds gs before hval hw' hc (hz.weights hw) (hX _ _ _ (by rfl) hx) hsh hholds).mono fun e W' ⟨v, he, hp⟩ => ?_
  subst he
  exact ChangeSpec.post_blind hp
theorem row_metT (os : Os) (args : Array Value) : laidMetH Tryz.prog Rows.topTamperedRow.laid ((World.laidAll Tryz.prog os Rows.topTamperedRow.laid).forCall (fun _ _ => 0) ⟨#[], args, []⟩).memory := by
  rw [MakeChecks.laidMetH_plain _ _ _ (by kernel_rfl)]; exact laidMet_laidAll _ (by kernel_rfl) (by kernel_rfl)
theorem topTampered_lifted (os : Os) (started : os.Started) (H : Type) (enc : TypeId × Value → H) :
    ReturnsInHanded {} Tryz.checked os 5 .any (fun w args => (Rows.topTamperedSpec.pre enc Tryz.prog Tryz.f5 Rows.topTamperedRow.domain false w args ∧ laidMetH Tryz.prog Rows.topTamperedRow.laid w) ∧ sizedMet enc Tryz.prog Tryz.f5 (OpenSpec.ofChange Rows.topTamperedSpec) false w args)
      (Rows.topTamperedSpec.post enc Tryz.prog Tryz.f5 false true false false) := by
  refine handed_shaped (C := Tryz.checked) (X := fun w _ => laidMetH Tryz.prog Rows.topTamperedRow.laid w) (fun _ _ _ hh h => h.of_heap hh) Tryz.own started (by kernel_rfl) Tryz.func5
    (ChangeSpec.witness_shaped (enc := enc) (C := Tryz.checked) (os := os) (X := fun w _ => laidMetH Tryz.prog Rows.topTamperedRow.laid w) false (World.laidAll Tryz.prog os Rows.topTamperedRow.laid)
      #[.agg #[.slice none 0 0, .slice none 0 0, .slice none 0 0, .slice none 0 0, .slice none 0 0, .slice none 0 0], .int .i64 0, .int .i64 0, .int .u16 0, .int .u16 0] 8 (World.laidAll_os _ _ _)
      (World.shaped_of_ZipB (by kernel_rfl) (by kernel_rfl)) (by kernel_rfl) (by kernel_rfl) (by kernel_rfl)
      (row_metT os _)) ?_
  intro W base args ds gs before hval0 hW hc hsz0 hL hsh _
  have hsz : (DataW.weightsEach Tryz.prog (Tryz.f5.params.toList ++ Rows.topTamperedSpec.plain.varTypes Tryz.prog) (ds ++ gs)).all (· ≤ reachBytes) = true := hsz0
  have hval : ∀ (j : Nat) t v, Tryz.f5.params[j]? = some t → args[j]? = some v → Value.okWide Tryz.prog W .any base t v := hval0
  have hW' := hW
  obtain ⟨p, q, hA0, hV, rfl, hfz, hnd⟩ := hW
  have hA : DataW.TrodAll enc Tryz.prog W 0 (fun _ => true) true Tryz.f5.params.toList args.toList ds p := hA0
  have hA1 := hA
  rw [Tryz.params5] at hA hval hsz
  obtain ⟨v0, vs0, d0, ds0, p0, q0, hargs, rfl, rfl, h0, r0⟩ := trodAll_cons hA
  obtain ⟨v1, vs1, d1, ds1, p1, q1, rfl, rfl, rfl, h1, r1⟩ := trodAll_cons r0
  obtain ⟨v2, vs2, d2, ds2, p2, q2, rfl, rfl, rfl, h2, r2⟩ := trodAll_cons r1
  obtain ⟨v3, vs3, d3, ds3, p3, q3, rfl, rfl, rfl, h3, r3⟩ := trodAll_cons r2
  obtain ⟨v4, vs4, d4, ds4, p4, q4, rfl, rfl, rfl, h4, r4⟩ := trodAll_cons r3
  obtain ⟨rfl, rfl, rfl⟩ := trodAll_nil r4
  obtain rfl : args = #[v0, v1, v2, v3, v4] := by cases args; simp_all
  obtain ⟨rfl, rfl⟩ := trodVars_none hV
  obtain ⟨N, rfl, hN, hlen⟩ := openW_net (hval 0 29 v0 rfl rfl) h0 (fun n hn => by have := List.all_eq_true.1 hsz n (DataW.weights_mem_each (j := 0) (t := 29) rfl rfl n hn); simpa using this)
  obtain ⟨x1, rfl, rfl, rfl, hw1⟩ := open_int Tryz.underlying3 (hval 1 3 v1 rfl rfl) h1
  obtain ⟨x2, rfl, rfl, rfl, hw2⟩ := open_int Tryz.underlying3 (hval 2 3 v2 rfl rfl) h2
  obtain ⟨x3, rfl, rfl, rfl, hw3⟩ := open_int Tryz.underlying30 (hval 3 30 v3 rfl rfl) h3
  obtain ⟨x4, rfl, rfl, rfl, hw4⟩ := open_int Tryz.underlying30 (hval 4 30 v4 rfl rfl) h4
  have u16 : ∀ {x : Int}, (Lit.int .u16 x).wf = true → ∃ n : Nat, x = n ∧ n ≤ 65535 := fun {x} h => by
    have e1 : IntKind.u16.min = 0 := by decide
    have e2 : IntKind.u16.max = 65535 := by decide
    simp [Lit.wf] at h; rw [e1, e2] at h; exact ⟨x.toNat, by omega, by omega⟩
  obtain ⟨k3, rfl, b3⟩ := u16 hw3
  obtain ⟨k4, rfl, b4⟩ := u16 hw4
  obtain ⟨m, hm⟩ := len_of hsh
  rw [MakeChecks.laidMetH_plain _ _ _ (by kernel_rfl)] at hL
  have hpow := tab_of hL (by simp [Rows.topTamperedRow])
  refine tampered_w N x1 x2 k3 k4 m W _ (kw_of (fun _ _ => trivial) hL (by simp [Rows.topTamperedRow])) (fun W' hb => Go.Joins.tab_stays vPowG hpow hb (Nat.le_refl _)) hm hN b3 b4 fun W' bel => ?_
  exact ⟨_, rfl, law_post Tryz.laidOut bel rfl hW' hA1 (by kernel_rfl) rfl Tryz.underlying4 rfl rfl rfl⟩
theorem topTampered_said : Rows.TopTamperedSaid :=
  OpenClaim.holds_of_wide 5 Tryz.f5 rfl rfl rfl rfl rfl rfl rfl ⟨rfl, rfl, rfl, rfl, rfl⟩ rfl rfl rfl rfl rfl tNamed Tryz.func5 tFacts tInst tWrap
    (fun os started H enc _ => topTampered_lifted os started H enc)
theorem topTampered_plain (f : FuncId) (fn : Func) (hf : Tryz.pinned.checked.prog.funcNamed Rows.topTamperedRow.func = some f) (hfn : Tryz.pinned.checked.prog.funcs[f]? = some fn) :
    true = Tryz.pinned.checked.prog.looks [] ∧ ∀ (j : Nat) t, fn.params[j]? = some t → Tryz.pinned.checked.prog.wantsStandIn t = false := by
  obtain rfl : f = 5 := Option.some.inj (tNamed.symm.trans hf) |>.symm
  obtain rfl : fn = Tryz.f5 := (Option.some.inj (Tryz.func5.symm.trans hfn)).symm
  refine ⟨tLooks.symm, fun j t ht => ?_⟩
  have hm : t ∈ Tryz.f5.params.toList := Array.mem_toList_iff.2 (Array.mem_of_getElem? ht)
  exact (show Tryz.prog.wantsStandIn t = false by simpa using List.all_eq_true.1 tWants t hm)
theorem topTampered_card : Rows.TopTamperedCardSaid :=
  Claim7.holds_tied_plain_at .later [] _ _ _ _ topTampered_said (fun _ h => by cases h) (by kernel_rfl) (fun _ h => by cases h) topTampered_row_tie rfl ⟨rfl, rfl⟩ (by kernel_rfl) rfl topTampered_plain (by kernel_rfl)
#print axioms topTampered_card
end Go.Proofs.YtgfhcmidnbahjaaGreatDoor
