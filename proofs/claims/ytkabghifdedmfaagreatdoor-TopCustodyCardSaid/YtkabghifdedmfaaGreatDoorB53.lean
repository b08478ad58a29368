/- TopCustody: whatever scanners, tracks, keys and manifests made by those scanners of those tracks are given, the document of a container, if it can be written, is accepted, and every item that travels in it, by its label at that time, has a proof with which its paper is accepted. Conditions: those that the law tests itself (at most 8 tracks; at any other input the law asks its fixed example alone); the variables that the row lists hold what the program's text lays into them (a tied card). Parts of this text: Scanners, tracks, records and slips that came in. TopCustody: her row and her card. -/
import Derived.Test.YtkabghifdedmfaaGreatDoorB52
import Derived.Test.YtkabghifdedmfaaGreatDoorB3
import Derived.ChangeMaps5
import Derived.Test.YtkabghifdedmfaaGreatDoorCards
import Derived.Test.YtkabghifdedmfaaGreatDoorTie
import Derived.Lib.LaidTab
import Derived.Lib.LaidU8
import Derived.Lib.SmallJoins
import Derived.Lay
import Derived.LaidMore
import Derived.Stop.Joined
set_option linter.unusedVariables false
set_option linter.unusedSimpArgs false
set_option maxRecDepth 100000
namespace Go.Proofs.YtkabghifdedmfaaGreatDoor
open Go.ChangeShapes Go.WideShapes Go.ChangeAt Go.RowKit Go.Deep

theorem opens_string {P : Program} {t : TypeId} (ht : P.underlying t = some .string) (hc : P.cellsOf t = 1) : Opens P t Rep.str :=
  ⟨hc, fun enc w fuel cs x h => by
    obtain ⟨s, rfl, _, hs⟩ := DataW.trod_string ht h
    exact ⟨s, rfl, hs⟩⟩
/-- A struct that came in by value. -/
theorem open_stc {α : Type} {H : Type} {enc : TypeId × Value → H} {P : Program} {w : World} {r' : Reach} {b0 : Nat} {t : TypeId} {fs : Array Field} {r : Rep α} {v : Value} {d : DataW H} {p : List MemPlace} (ht : P.underlying t = some (.struct fs)) (ho : Opens P t r)
    (hv : Value.okWide P w r' b0 t v) (h : DataW.Trod enc P w 0 (fun _ => true) true t v d p) : ∃ cs a, v = .agg cs ∧ r.rd w cs.toList a := by
  obtain ⟨cs, rfl, _⟩ := okWide_struct ht hv
  obtain ⟨fuel, hf⟩ := h
  obtain ⟨a, ha⟩ := ho.2 enc w fuel _ _ hf
  exact ⟨cs, a, rfl, by simpa [Value.cells] using ha⟩
theorem open_slcC {α : Type} {H : Type} {enc : TypeId × Value → H} {P : Program} {w : World} {r' : Reach} {b0 : Nat} {t e : TypeId} {r : Rep α} {v : Value} {d : DataW H} {p : List MemPlace} (ht : P.underlying t = some (.slice e)) (ho : Opens P t (Rep.slice r))
    (hv : Value.okWide P w r' b0 t v) (h : DataW.Trod enc P w 0 (fun _ => true) true t v d p) :
    ∃ a n cap l, v = .slice a n cap ∧ l.length = n ∧ n ≤ maxLen ∧ r.els w a l ∧ n ≤ cap := by
  obtain ⟨a, n, cap, rfl⟩ := okWide_slice ht hv
  obtain ⟨fuel, hf⟩ := h
  obtain ⟨l, q, c, hcs, h1, h2, h3⟩ := ho.2 enc w fuel _ _ hf
  simp [Value.cells] at hcs
  obtain ⟨rfl, rfl, rfl⟩ := hcs
  exact ⟨_, _, _, l, rfl, rfl, Nat.le_trans h1 h2, h3, h1⟩
theorem opens_i : Opens Tryz.prog 3 (Rep.int .i64) := opens_int Tryz.underlying3 (by kernel_rfl)
theorem opens_b : Opens Tryz.prog 4 Rep.bool := opens_bool Tryz.underlying4 (by kernel_rfl)
theorem opens_s : Opens Tryz.prog 9 Rep.str := opens_string Tryz.underlying9 (by kernel_rfl)
theorem opens_is : Opens Tryz.prog 24 (Rep.slice (Rep.int .i64)) := opens_slice Tryz.underlying24 (by kernel_rfl) opens_i (by decide)
theorem opens_ss : Opens Tryz.prog 30 (Rep.slice Rep.str) := opens_slice Tryz.underlying30 (by kernel_rfl) opens_s (by decide)
abbrev I1 := Rep.int .i64
def repScn : Rep (Int × Int × Int × Unit) := I1.pair (I1.pair (I1.pair Rep.unit))
theorem opens_scn : Opens Tryz.prog 72 repScn := opens_struct Tryz.underlying72 (by kernel_rfl) (opensF_cons rfl opens_i (opensF_cons rfl opens_i (opensF_cons rfl opens_i opensF_nil)))
theorem opens_scns : Opens Tryz.prog 22 (Rep.slice repScn) := opens_slice Tryz.underlying22 (by kernel_rfl) opens_scn (by decide)
def repStp : Rep (Int × Int × Int × Int × Unit) := I1.pair (I1.pair (I1.pair (I1.pair Rep.unit)))
theorem opens_stp : Opens Tryz.prog 142 repStp := opens_struct Tryz.underlying142 (by kernel_rfl) (opensF_cons rfl opens_i (opensF_cons rfl opens_i (opensF_cons rfl opens_i (opensF_cons rfl opens_i opensF_nil))))
theorem opens_stps : Opens Tryz.prog 41 (Rep.slice repStp) := opens_slice Tryz.underlying41 (by kernel_rfl) opens_stp (by decide)
abbrev PostT : Type := ByteArray × Int × Int × Int × Int × Unit
def repPost : Rep PostT := Rep.str.pair (I1.pair (I1.pair (I1.pair (I1.pair Rep.unit))))
theorem opens_post : Opens Tryz.prog 40 repPost := opens_struct Tryz.underlying40 (by kernel_rfl) (opensF_cons rfl opens_s (opensF_cons rfl opens_i (opensF_cons rfl opens_i (opensF_cons rfl opens_i (opensF_cons rfl opens_i opensF_nil)))))
abbrev TrkT : Type := PostT × List (Int × Int × Int × Int × Unit) × Bool × List Int × List ByteArray × List ByteArray × Unit
def repTrk : Rep TrkT := repPost.pair ((Rep.slice repStp).pair (Rep.bool.pair ((Rep.slice I1).pair ((Rep.slice Rep.str).pair ((Rep.slice Rep.str).pair Rep.unit)))))
theorem opens_trk : Opens Tryz.prog 43 repTrk := opens_struct Tryz.underlying43 (by kernel_rfl) (opensF_cons rfl opens_post (opensF_cons rfl opens_stps (opensF_cons rfl opens_b (opensF_cons rfl opens_is (opensF_cons rfl opens_ss (opensF_cons rfl opens_ss opensF_nil))))))
theorem opens_trks : Opens Tryz.prog 23 (Rep.slice repTrk) := opens_slice Tryz.underlying23 (by kernel_rfl) opens_trk (by decide)
theorem list_of {α : Type} (P : Nat → α → Prop) : ∀ n, (∀ i, i < n → ∃ s, P i s) → ∃ l : List α, l.length = n ∧ ∀ i s, l[i]? = some s → P i s
  | 0, _ => ⟨[], rfl, fun i s h => by simp at h⟩
  | n + 1, h => by
    obtain ⟨l, hl, hp⟩ := list_of P n (fun i hi => h i (by omega))
    obtain ⟨s, hs⟩ := h n (by omega)
    refine ⟨l ++ [s], by simp [hl], fun i x hx => ?_⟩
    rcases Nat.lt_or_ge i l.length with h1 | h1
    · rw [List.getElem?_append_left h1] at hx; exact hp i x hx
    · rw [List.getElem?_append_right h1] at hx
      have : i - l.length = 0 := by
        rcases Nat.eq_zero_or_pos (i - l.length) with h0 | h0
        · exact h0
        · rw [List.getElem?_eq_none (by simp; omega)] at hx; cases hx
      rw [this] at hx
      injection hx with hx; subst hx
      have : i = n := by omega
      rw [this]; exact hs
theorem encAt_els {α β : Type} {k : Nat} {enc : β → List Value} {r : Rep α} (Q : World → β → Prop) (hk : r.size = k) (hrd : ∀ {w cs x}, r.rd w cs x → ∃ b : β, cs = enc b ∧ Q w b) {w : World} {p : Option Addr} {l : List α} (h : r.els w p l) : ∃ m : List β, m.length = l.length ∧ EncAt k enc w p m ∧ ∀ x ∈ m, Q w x := by
  rcases Nat.eq_zero_or_pos l.length with h0 | h0
  · exact ⟨[], by rw [h0]; rfl, EncAt.nil, by simp⟩
  · obtain ⟨b, o, hp, hc⟩ := h h0
    obtain ⟨m, hm, hP⟩ := list_of (fun i (s : β) => (∀ c v, (enc s)[c]? = some v → w.cell? ⟨b, o + i * k + c, none⟩ = some v) ∧ Q w s) l.length (fun i hi => by
      obtain ⟨cs, h1, h2⟩ := hc i l[i] (List.getElem?_eq_getElem hi)
      obtain ⟨s, rfl, hq⟩ := hrd h1
      exact ⟨s, fun c v hv => by rw [← hk]; exact h2 c v hv, hq⟩)
    refine ⟨m, hm, fun _ => ⟨b, o, hp, fun i x hx => (hP i x hx).1⟩, fun x hx => ?_⟩
    obtain ⟨i, hi⟩ := List.getElem?_of_mem hx
    exact (hP i x hi).2
theorem strsAt_els {w : World} {p : Option Addr} {l : List ByteArray} (h : Rep.str.els w p l) : StrsAt w p l := by
  refine ⟨fun h0 => ?_, fun s hs => ?_⟩
  · obtain ⟨b, o, hp, hc⟩ := h h0
    refine ⟨b, o, hp, fun i x hx c v hv => ?_⟩
    obtain ⟨cs, ⟨rfl, _⟩, h2⟩ := hc i x hx
    exact h2 c v hv
  · obtain ⟨b, o, hp, hc⟩ := h (List.length_pos_of_mem hs)
    obtain ⟨i, hi⟩ := List.getElem?_of_mem hs
    obtain ⟨cs, ⟨_, h1⟩, _⟩ := hc i s hi
    exact h1
theorem scn_rd {w : World} {cs : List Value} {x : Int × Int × Int × Unit} (h : repScn.rd w cs x) : ∃ e : Scn, cs = e.cells ∧ True := by
  obtain ⟨c1, d1, rfl, ⟨rfl, h1⟩, c2, d2, rfl, ⟨rfl, h2⟩, c3, d3, rfl, ⟨rfl, h3⟩, rfl⟩ := h
  exact ⟨⟨x.1, x.2.1, x.2.2.1⟩, rfl, trivial⟩
theorem stp_rd {w : World} {cs : List Value} {x : Int × Int × Int × Int × Unit} (h : repStp.rd w cs x) : ∃ e : Stp, cs = e.cells ∧ True := by
  obtain ⟨c1, d1, rfl, ⟨rfl, h1⟩, c2, d2, rfl, ⟨rfl, h2⟩, c3, d3, rfl, ⟨rfl, h3⟩, c4, d4, rfl, ⟨rfl, h4⟩, rfl⟩ := h
  exact ⟨⟨x.1, x.2.1, x.2.2.1, x.2.2.2.1⟩, rfl, trivial⟩
theorem trk_rd {w : World} {cs : List Value} {x : TrkT} (h : repTrk.rd w cs x) : ∃ t : Trk, cs = t.cells ∧ TrkAt w t := by
  obtain ⟨cp, dp, rfl, ⟨c0, d0, rfl, ⟨rfl, h0⟩, c1, d1, rfl, ⟨rfl, h1⟩, c2, d2, rfl, ⟨rfl, h2⟩, c3, d3, rfl, ⟨rfl, h3⟩, c4, d4, rfl, ⟨rfl, h4⟩, rfl⟩, c5, d5, rfl, ⟨p5, k5, rfl, a5, b5, e5⟩, c6, d6, rfl, rfl, c7, d7, rfl, ⟨p7, k7, rfl, a7, b7, e7⟩, c8, d8, rfl, ⟨p8, k8, rfl, a8, b8, e8⟩, c9, d9, rfl, ⟨p9, k9, rfl, a9, b9, e9⟩, rfl⟩ := h
  obtain ⟨m, hm, hE, _⟩ := encAt_els (k := 4) (enc := Stp.cells) (fun _ _ => True) rfl (fun h => stp_rd h) e5
  refine ⟨⟨x.1.1, x.1.2.1, x.1.2.2.1, x.1.2.2.2.1, x.1.2.2.2.2.1, p5, m, k5, x.2.2.1, p7, x.2.2.2.1, k7, p8, x.2.2.2.2.1, k8, p9, x.2.2.2.2.2.1, k9⟩, ?_, hE, IntsAt.of_els e7, strsAt_els e8, strsAt_els e9, ?_⟩
  · unfold Trk.cells; rw [hm]; rfl
  · refine ⟨?_, Nat.le_trans a7 b7, Nat.le_trans a8 b8, Nat.le_trans a9 b9⟩
    show m.length ≤ maxLen
    rw [hm]; exact Nat.le_trans a5 b5
section
variable {H : Type} {enc : TypeId × Value → H} {w : World} {r' : Reach} {b0 : Nat} {v : Value} {d : DataW H} {p : List MemPlace}
theorem open_scns (hv : Value.okWide Tryz.prog w r' b0 22 v) (h : DataW.Trod enc Tryz.prog w 0 (fun _ => true) true 22 v d p) :
    ∃ a n cap l, v = .slice a n cap ∧ l.length = n ∧ n ≤ maxLen ∧ ScnsAt w a l ∧ n ≤ cap ∧ True := by
  obtain ⟨a, n, cap, l, h1, h2, h3, h4, h5⟩ := open_slcC Tryz.underlying22 opens_scns hv h
  obtain ⟨m, hm, hE, _⟩ := encAt_els (k := 3) (enc := Scn.cells) (fun _ _ => True) rfl (fun h => scn_rd h) h4
  exact ⟨a, n, cap, m, h1, by omega, h3, hE, h5, trivial⟩
theorem open_trks (hv : Value.okWide Tryz.prog w r' b0 23 v) (h : DataW.Trod enc Tryz.prog w 0 (fun _ => true) true 23 v d p) :
    ∃ a n cap l, v = .slice a n cap ∧ l.length = n ∧ n ≤ maxLen ∧ TrksAt w a l ∧ n ≤ cap ∧ True := by
  obtain ⟨a, n, cap, l, h1, h2, h3, h4, h5⟩ := open_slcC Tryz.underlying23 opens_trks hv h
  obtain ⟨m, hm, hE, hQ⟩ := encAt_els (k := 10) (enc := Trk.cells) TrkAt rfl (fun h => trk_rd h) h4
  exact ⟨a, n, cap, m, h1, by omega, h3, ⟨hE, hQ⟩, h5, trivial⟩
end
end Go.Proofs.YtkabghifdedmfaaGreatDoor

set_option maxRecDepth 100000
namespace Go.Proofs.YtkabghifdedmfaaGreatDoor
open Go.ChangeShapes Go.WideShapes Go.ChangeAt Go.RowKit

theorem vKwG : Tryz.prog.globalNamed "postilion/survey.keyWords" = some 0 := by kernel_rfl
theorem vKwT : (Tryz.prog.globals[0]?).map (·.type) = some 244 := by kernel_rfl
theorem vC9 : Tryz.prog.cellsOf 9 = 1 := by kernel_rfl
theorem vPowG : Tryz.prog.globalNamed "internal/strconv.uint64pow10" = some 1 := by kernel_rfl
theorem vPowT : (Tryz.prog.globals[1]?).map (·.type) = some 248 := by kernel_rfl
theorem vC248 : Tryz.prog.cellsOf 248 = 20 := by kernel_rfl
theorem vC228 : Tryz.prog.cellsOf 228 = 1 := by kernel_rfl
theorem vPowD : (Rows.laid_internal_strconv_uint64pow10 : DataW Unit) = Lib.tabData .u64 Lib.pow10Tab := by rfl
theorem vKwD : (Rows.laid_postilion_survey_keyWords : DataW Unit) = .agg (kwL.map fun s => .lit (.string s)) := by rfl
theorem vKwL : kwL.length = 17 := by rfl

/-- The table of powers. -/
theorem tab_of {W : World} (h : laidMetH Tryz.prog Rows.topCustodyRow.laid W) : Lib.TabIs Tryz.prog W "internal/strconv.uint64pow10" .u64 Lib.pow10Tab := by
  rw [MakeChecks.laidMetH_plain _ _ _ (by kernel_rfl)] at h
  obtain ⟨g, t, cs, fuel, p, hg, ht, hv, hd⟩ := Lib.laidMet.reads h (n := "internal/strconv.uint64pow10") (d := Rows.laid_internal_strconv_uint64pow10) (by simp [Rows.topCustodyRow])
  obtain rfl := Option.some.inj (vPowG.symm.trans hg)
  obtain rfl := Option.some.inj (vPowT.symm.trans ht)
  rw [vPowD] at hd
  unfold Lib.TabIs
  rw [hv, ← Lib.cells_of_tab Tryz.underlying248 Tryz.underlying228 vC228 vC248 hd]
/-- The key words. -/
theorem kw_of {W : World} (h : laidMetH Tryz.prog Rows.topCustodyRow.laid W) : KwAt W := by
  rw [MakeChecks.laidMetH_plain _ _ _ (by kernel_rfl)] at h
  obtain ⟨g, t, cs, fuel, p, hg, ht, hv, hd⟩ := Lib.laidMet.reads h (n := "postilion/survey.keyWords") (d := Rows.laid_postilion_survey_keyWords) (by simp [Rows.topCustodyRow])
  obtain rfl := Option.some.inj (vKwG.symm.trans hg)
  obtain rfl := Option.some.inj (vKwT.symm.trans ht)
  obtain ⟨xs, m1, rfl, hx, hlen, hn, hel⟩ := DataW.trod_array Tryz.underlying244 hd
  rw [vKwD] at hx
  have hx1 := congrArg Prod.fst hx
  injection hx1 with hx1
  have hc : ∀ (k : Nat) (s : List UInt8), kwL[k]? = some s → W.cell? ⟨0, k, none⟩ = some (.string ⟨s.toArray⟩) := fun k s hk => by
    have hk17 : k < 17 := by rw [← vKwL]; exact (List.getElem?_eq_some_iff.1 hk).1
    have h1 := hel k hk17
    rw [vC9, Nat.mul_one] at h1
    obtain ⟨x, hxk⟩ : ∃ x, xs[k]? = some x := ⟨_, List.getElem?_eq_getElem (by rw [hn]; exact hk17)⟩
    rw [hxk] at h1
    obtain ⟨s', hcs, hs', _⟩ := DataW.trod_string Tryz.underlying9 h1
    have h2 := congrArg (fun l : List (DataW Unit) => l[k]?) hx1
    simp only [List.getElem?_map, hk, hxk, Option.map_some] at h2
    rw [hs'] at h2
    have h3 : s = s'.data.toList := by
      injection h2 with h2; injection h2 with h2; injection h2 with h2
    have h4 : cs[k]? = some (.string s') := by
      have := congrArg (fun l : List Value => l[0]?) hcs
      simpa [List.getElem?_take, List.getElem?_drop] using this
    rw [World.var?_cell vKwG hv k, h4, h3]
  exact ⟨World.block_lt_of_cell? W _ (hc 0 _ rfl), hc⟩
theorem row_met (os : Os) (args : Array Value) : laidMetH Tryz.prog Rows.topCustodyRow.laid ((World.laidAll Tryz.prog os Rows.topCustodyRow.laid).forCall (fun _ _ => 0) ⟨#[], args, []⟩).memory := by
  rw [MakeChecks.laidMetH_plain _ _ _ (by kernel_rfl)]; exact laidMet_laidAll _ (by kernel_rfl) (by kernel_rfl)

theorem topCustody_lifted (os : Os) (started : os.Started) (H : Type) (enc : TypeId × Value → H) :
    ReturnsInHanded {} Tryz.checked os 3 .any (fun w args => (Rows.topCustodySpec.pre enc Tryz.prog Tryz.f3 Rows.topCustodyRow.domain false w args ∧ laidMetH Tryz.prog Rows.topCustodyRow.laid w) ∧ sizedMet enc Tryz.prog Tryz.f3 (OpenSpec.ofChange Rows.topCustodySpec) false w args)
      (Rows.topCustodySpec.post enc Tryz.prog Tryz.f3 false true false false) := by
  refine returnsInHanded_of_change_and (C := Tryz.checked) (X := fun w _ => laidMetH Tryz.prog Rows.topCustodyRow.laid w) (fun _ _ _ hh h => h.of_heap hh) Tryz.own started (by kernel_rfl) Tryz.func3
    (ChangeSpec.witness_shaped (enc := enc) (C := Tryz.checked) (os := os) (X := fun w _ => laidMetH Tryz.prog Rows.topCustodyRow.laid w) false (World.laidAll Tryz.prog os Rows.topCustodyRow.laid) #[.slice none 0 0, .slice none 0 0, .slice none 0 0, .int .u8 0, .int .u8 0, .int .u8 0] 8 (World.laidAll_os _ _ _)
      (World.shaped_of_ZipB (by kernel_rfl) (by kernel_rfl)) (by kernel_rfl) (by kernel_rfl) (by kernel_rfl)
      (row_met os _)) ?_
  intro W base args ds gs before hval0 hW hc _ hL _
  have hval : ∀ (j : Nat) t v, Tryz.f3.params[j]? = some t → args[j]? = some v → Value.okWide Tryz.prog W .any base t v := hval0
  have hW' := hW
  obtain ⟨p, q, hA0, hV, rfl, hfz, hnd⟩ := hW
  have hA : DataW.TrodAll enc Tryz.prog W 0 (fun _ => true) true Tryz.f3.params.toList args.toList ds p := hA0
  have hA1 := hA
  rw [Tryz.params3] at hA hval
  obtain ⟨v0, vs0, d0, ds0, p0, q0, hargs, rfl, rfl, h0, r0⟩ := trodAll_cons hA
  obtain ⟨v1, vs1, d1, ds1, p1, q1, rfl, rfl, rfl, h1, r1⟩ := trodAll_cons r0
  obtain ⟨v2, vs2, d2, ds2, p2, q2, rfl, rfl, rfl, h2, r2⟩ := trodAll_cons r1
  obtain ⟨v3, vs3, d3, ds3, p3, q3, rfl, rfl, rfl, h3, r3⟩ := trodAll_cons r2
  obtain ⟨v4, vs4, d4, ds4, p4, q4, rfl, rfl, rfl, h4, r4⟩ := trodAll_cons r3
  obtain ⟨v5, vs5, d5, ds5, p5, q5, rfl, rfl, rfl, h5, r5⟩ := trodAll_cons r4
  obtain ⟨rfl, rfl, rfl⟩ := trodAll_nil r5
  obtain rfl : args = #[v0, v1, v2, v3, v4, v5] := by cases args; simp_all
  obtain ⟨rfl, rfl⟩ := trodVars_none hV
  obtain ⟨a0, n0, c0, l0, rfl, hl0, hm0, hi0, _, _⟩ := open_scns (hval 0 22 v0 rfl rfl) h0
  obtain ⟨a1, n1, c1, l1, rfl, hl1, hm1, hi1, _, _⟩ := open_trks (hval 1 23 v1 rfl rfl) h1
  obtain ⟨a2, n2, c2, l2, rfl, hl2, hm2, hi2, _, _⟩ := open_ints' Tryz.underlying24 Tryz.underlying3 (by kernel_rfl) (hval 2 24 v2 rfl rfl) h2
  obtain ⟨x3, rfl, rfl, rfl, hw3⟩ := open_int Tryz.underlying5 (hval 3 5 v3 rfl rfl) h3
  obtain ⟨x4, rfl, rfl, rfl, hw4⟩ := open_int Tryz.underlying5 (hval 4 5 v4 rfl rfl) h4
  obtain ⟨x5, rfl, rfl, rfl, hw5⟩ := open_int Tryz.underlying5 (hval 5 5 v5 rfl rfl) h5
  have u : ∀ {x : Int}, (Lit.int .u8 x).wf = true → 0 ≤ x ∧ x < 256 := fun {x} h => by
    have e1 : IntKind.u8.min = 0 := by decide
    have e2 : IntKind.u8.max = 255 := by decide
    simp [Lit.wf] at h; rw [e1, e2] at h; omega
  refine top_c a0 n0 c0 l0 a1 n1 c1 l1 a2 n2 c2 l2 x3 x4 x5 W _ (kw_of hL) (fun W' hb => Go.Joins.tab_stays vPowG (tab_of hL) hb (Nat.le_refl _)) hl0 hm0 hi0 hl1 hm1 hi1 hl2 hm2 hi2 (u hw3) (u hw4) (u hw5) fun W' bel => ?_
  exact ⟨_, rfl, law_post Tryz.laidOut bel rfl hW' hA1 (by kernel_rfl) rfl Tryz.underlying4 rfl rfl rfl⟩

theorem topCustody_said : Rows.TopCustodySaid :=
  OpenClaim.holds_of_wide 3 Tryz.f3 rfl rfl rfl rfl rfl rfl rfl ⟨rfl, rfl, rfl, rfl, rfl⟩ rfl rfl rfl rfl rfl (by kernel_rfl) Tryz.func3 (by kernel_rfl)
    (of_decide_eq_true (by kernel_rfl)) (by unfold Func.isWrapper; first | (rw [if_pos (by decide +kernel)]; kernel_rfl) | (rw [if_neg (by decide +kernel)]; exact ⟨rfl, rfl⟩))
    (fun os started H enc _ => topCustody_lifted os started H enc)
theorem topCustody_plain (f : FuncId) (fn : Func) (hf : Tryz.pinned.checked.prog.funcNamed "postilion/postiliontop.TopCustody" = some f) (hfn : Tryz.pinned.checked.prog.funcs[f]? = some fn) :
    false = Tryz.pinned.checked.prog.looks [] ∧ ∀ (j : Nat) t, fn.params[j]? = some t → Tryz.pinned.checked.prog.wantsStandIn t = false := by
  obtain rfl : f = 3 := Option.some.inj ((show Tryz.prog.funcNamed "postilion/postiliontop.TopCustody" = some 3 by kernel_rfl).symm.trans hf) |>.symm
  obtain rfl : fn = Tryz.f3 := (Option.some.inj (Tryz.func3.symm.trans hfn)).symm
  refine ⟨by kernel_rfl, fun j t ht => ?_⟩
  rw [Tryz.params3] at ht
  have hm : t ∈ [22, 23, 24, 5] := by
    have := Array.mem_of_getElem? ht
    simp at this ⊢; omega
  have hall : ([22, 23, 24, 5].all fun u => !Tryz.prog.wantsStandIn u) = true := by kernel_rfl
  exact (show Tryz.prog.wantsStandIn t = false by simpa using List.all_eq_true.1 hall t hm)
theorem topCustody_card : Rows.TopCustodyCardSaid :=
  Claim7.holds_tied_plain_at .later [] _ _ _ _ topCustody_said (fun _ h => by cases h) (by kernel_rfl) (fun _ h => by cases h) topCustody_row_tie rfl ⟨rfl, rfl⟩ (by kernel_rfl) rfl topCustody_plain (by kernel_rfl)
#print axioms topCustody_card
end Go.Proofs.YtkabghifdedmfaaGreatDoor
