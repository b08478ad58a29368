/- OrderTwo: for any two events without legs, which have minutes, there are possible times exactly if, in one of the two orders, there is enough time from the first Low to the second High. -/
import Derived.Test.YtaopfoicdjejnaaC20
set_option linter.unusedVariables false
set_option linter.unusedSimpArgs false
namespace Go.Proofs.Ytaopfoicdjejnaa
open Go.ChangeShapes Go.WideShapes Go.ChangeAt Go.RowKit Go.Deep

def enB (x la hb : Int) : Bool := decide (0 ≤ x) && decide (x ≤ min hb 1000000 - max la 0)
set_option maxHeartbeats 1000000 in
theorem enough_c (dp : Option Addr) (dc : Nat) (d : List (List Int)) (oa ob : Nat) (la ha lb hb : Int) (pa pb : Option Addr) (na ca nb cb : Nat) (w : World) (R) (hdl : d.length ≤ 1000) (hd : RowsAt w dp d) (hD : DistP d) (hoa : oa < d.length) (hob : ob < d.length)
    (hla : -1000000 ≤ la ∧ la ≤ 1000000) (hhb : 0 ≤ hb ∧ hb ≤ 2000000) (hR : ∀ w', Below w.heap.size w w' → R (.returned (.bool (enB (dst d oa ob) la hb))) w') :
    Calls Try.prog 21 #[.slice dp d.length dc, .agg #[.int .i64 (oa : Int), .int .i64 la, .int .i64 ha, .slice pa na ca], .agg #[.int .i64 (ob : Int), .int .i64 lb, .int .i64 hb, .slice pb nb cb]] w R := by
  obtain ⟨b, o, r, q, c, rfl, hr, cr, hin, _⟩ := hd.at_ hoa
  have hrl := (hD.row r (List.mem_of_getElem? hr)).1
  obtain ⟨b2, o2, x, rfl, hx, cx⟩ := hin.at_ (i := ob) (by omega)
  have hxr := (hD.row r (List.mem_of_getElem? hr)).2 x (List.mem_of_getElem? hx)
  rw [dst_at hr hx] at hR
  have hobr : ob < r.length := by omega
  have HR := hide hR
  have B := hide (balloc (balloc (Below.refl w.heap.size w) (.cells #[.int .i64 (oa : Int), .int .i64 la, .int .i64 ha, .slice pa na ca] 32)) (.cells #[.int .i64 (ob : Int), .int .i64 lb, .int .i64 hb, .slice pb nb cb] 32))
  have KA := (Blk.new w #[.int .i64 (oa : Int), .int .i64 la, .int .i64 ha, .slice pa na ca] 32).alloc (.cells #[.int .i64 (ob : Int), .int .i64 lb, .int .i64 hb, .slice pb nb cb] 32)
  have KB := Blk.new_at (w := w.alloc (.cells #[.int .i64 (oa : Int), .int .i64 la, .int .i64 ha, .slice pa na ca] 32)) (cs := #[.int .i64 (ob : Int), .int .i64 lb, .int .i64 hb, .slice pb nb cb]) (t := 32) (n := w.heap.size + 1) (by simp)
  have a0 := KA.cell (k := 0) (v := .int .i64 (oa : Int)) rfl
  have a1 := KA.cell (k := 1) (v := .int .i64 la) rfl
  have b0 := KB.cell (k := 0) (v := .int .i64 (ob : Int)) rfl
  have b2' := KB.cell (k := 2) (v := .int .i64 hb) rfl
  have cr' := (Keeps.alloc w (.cells #[.int .i64 (oa : Int), .int .i64 la, .int .i64 ha, .slice pa na ca] 32)).trans (Keeps.alloc _ (.cells #[.int .i64 (ob : Int), .int .i64 lb, .int .i64 hb, .slice pb nb cb] 32)) _ _ cr
  have cx' := (Keeps.alloc w (.cells #[.int .i64 (oa : Int), .int .i64 la, .int .i64 ha, .slice pa na ca] 32)).trans (Keeps.alloc _ (.cells #[.int .i64 (ob : Int), .int .i64 lb, .int .i64 hb, .slice pb nb cb] 32)) _ _ cx
  clear hR hr hx hD hd hin hrl KA KB cr cx
  have m1 : min hb 1000000 ≤ 1000000 := by omega
  have m2 : 0 ≤ min hb 1000000 := by omega
  have m3 : 0 ≤ max la 0 := by omega
  have m4 : max la 0 ≤ 1000000 := by omega
  by_cases h0 : x < 0
  · have d0 : decide (0 ≤ x) = false := by simp; omega
    have HE := hide (show enB x la hb = false by unfold enB; rw [d0]; rfl)
    go_enter Try.func21, Try.ntmps21
    go_wp2
    generalize (w.alloc (.cells #[.int .i64 (oa : Int), .int .i64 la, .int .i64 ha, .slice pa na ca] 32)).alloc (.cells #[.int .i64 (ob : Int), .int .i64 lb, .int .i64 hb, .slice pb nb cb] 32) = W at *
    obtain ⟨g, hg⟩ : ∃ g, w.heap.size = g := ⟨_, rfl⟩
    rw [hg] at a0 a1 b0 b2' ⊢
    obtain ⟨g2, hg2⟩ : ∃ g2, g + 1 = g2 := ⟨_, rfl⟩
    rw [hg2] at b0 b2' ⊢
    clear hg hg2
    go_quiet (fail)
    go_wp2
    have := HR.out; rw [HE.out] at this
    exact this _ (below_drewN' B.out _)
  have d0 : decide (0 ≤ x) = true := by simp; omega
  by_cases h1 : x ≤ min hb 1000000 - max la 0
  · have HE := hide (show enB x la hb = true by unfold enB; rw [d0, decide_eq_true h1]; rfl)
    go_enter Try.func21, Try.ntmps21
    go_wp2
    generalize (w.alloc (.cells #[.int .i64 (oa : Int), .int .i64 la, .int .i64 ha, .slice pa na ca] 32)).alloc (.cells #[.int .i64 (ob : Int), .int .i64 lb, .int .i64 hb, .slice pb nb cb] 32) = W at *
    obtain ⟨g, hg⟩ : ∃ g, w.heap.size = g := ⟨_, rfl⟩
    rw [hg] at a0 a1 b0 b2' ⊢
    obtain ⟨g2, hg2⟩ : ∃ g2, g + 1 = g2 := ⟨_, rfl⟩
    rw [hg2] at b0 b2' ⊢
    clear hg hg2
    go_quiet (fail)
    go_wp2
    have := HR.out; rw [HE.out] at this
    exact this _ (below_drewN' B.out _)
  have HE := hide (show enB x la hb = false by unfold enB; rw [decide_eq_false h1]; simp)
  have d1 : decide (x ≤ min hb 1000000 - max la 0) = false := decide_eq_false h1
  go_enter Try.func21, Try.ntmps21
  go_wp2
  generalize (w.alloc (.cells #[.int .i64 (oa : Int), .int .i64 la, .int .i64 ha, .slice pa na ca] 32)).alloc (.cells #[.int .i64 (ob : Int), .int .i64 lb, .int .i64 hb, .slice pb nb cb] 32) = W at *
  obtain ⟨g, hg⟩ : ∃ g, w.heap.size = g := ⟨_, rfl⟩
  rw [hg] at a0 a1 b0 b2' ⊢
  obtain ⟨g2, hg2⟩ : ∃ g2, g + 1 = g2 := ⟨_, rfl⟩
  rw [hg2] at b0 b2' ⊢
  clear hg hg2
  go_quiet (fail)
  go_wp2
  have := HR.out; rw [HE.out] at this
  exact this _ (below_drewN' B.out _)

theorem open_ev {H : Type} {enc : TypeId × Value → H} {w : World} {r' : Reach} {b0 : Nat} {v : Value} {d : DataW H} {p : List MemPlace}
    (hv : Value.okWide Try.prog w r' b0 32 v) (h : DataW.Trod enc Try.prog w 0 (fun _ => true) true 32 v d p) :
    ∃ e : Evt, v = .agg #[.int .i64 e.office, .int .i64 e.low, .int .i64 e.high, .slice e.np e.nn e.nc] ∧ True := by
  obtain ⟨cs, rfl, _⟩ := okWide_struct Try.underlying32 hv
  obtain ⟨fuel, hf⟩ := h
  obtain ⟨a, ha⟩ := opens_ev.2 enc w fuel _ _ hf
  obtain ⟨e, he⟩ := ev_rd ha
  refine ⟨e, ?_, trivial⟩
  have h2 : cs.toList = e.cells := by simpa [Value.cells] using he
  obtain ⟨l⟩ := cs
  simp only at h2
  rw [h2]; rfl
theorem enB_iff {d : List (List Int)} {a b : Evt} : enB (dst d a.office.toNat b.office.toNat) a.low b.high = true ↔ enoughP (dst d) a.ev b.ev := by
  unfold enB enoughP Evt.ev
  simp
set_option maxRecDepth 100000 in
set_option maxHeartbeats 4000000 in
theorem orderTwo_c (dp : Option Addr) (n dc : Nat) (d : List (List Int)) (a b : Evt) (w : World) (R)
    (hn : d.length = n) (hn2 : n ≤ maxLen) (hd : RowsAt w dp d) (_hdc : n ≤ dc) (_h1 : True) (_h2 : True) (_h3 : True)
    (hR : ∀ w', Below w.heap.size w w' → R (.returned (.bool true)) w') :
    Calls Try.prog 7 #[.slice dp n dc, .agg #[.int .i64 a.office, .int .i64 a.low, .int .i64 a.high, .slice a.np a.nn a.nc], .agg #[.int .i64 b.office, .int .i64 b.low, .int .i64 b.high, .slice b.np b.nn b.nc]] w R := by
  subst hn
  have HR := hide hR; have Hd := hide hd
  clear hR hd
  obtain ⟨a0, a1, a2, a3, a4, a5⟩ := a
  obtain ⟨b0, b1, b2, b3, b4, b5⟩ := b
  simp only
  have KA := hide ((Blk.new w #[.int .i64 a0, .int .i64 a1, .int .i64 a2, .slice a3 a4 a5] 32).alloc (.cells #[.int .i64 b0, .int .i64 b1, .int .i64 b2, .slice b3 b4 b5] 32))
  have KB := hide (Blk.new_at (w := w.alloc (.cells #[.int .i64 a0, .int .i64 a1, .int .i64 a2, .slice a3 a4 a5] 32)) (cs := #[.int .i64 b0, .int .i64 b1, .int .i64 b2, .slice b3 b4 b5]) (t := 32) (n := w.heap.size + 1) (by simp))
  have B0 := hide (balloc (balloc (Below.refl w.heap.size w) (.cells #[.int .i64 a0, .int .i64 a1, .int .i64 a2, .slice a3 a4 a5] 32)) (.cells #[.int .i64 b0, .int .i64 b1, .int .i64 b2, .slice b3 b4 b5] 32))
  go_enter Try.func7, Try.ntmps7
  go_wp2_with (go_at_call 10; refine Stop.out ?_)
  refine Stop.go (head_c _ _ ?_)
  intro w1 hb
  have KA1 := KA.out.next hb
  have KB1 := KB.out.next hb
  have B1 := hide (bseq B0.out hb)
  clear hb KA KB B0
  obtain ⟨g, hg⟩ : ∃ g, w.heap.size = g := ⟨_, rfl⟩
  rw [hg] at KA1 KB1 ⊢
  obtain ⟨g2, hg2⟩ : ∃ g2, g + 1 = g2 := ⟨_, rfl⟩
  rw [hg2] at KB1 ⊢
  clear hg hg2
  have x0 := KA1.cell (k := 0) (v := .int .i64 a0) rfl; have x1 := KA1.cell (k := 1) (v := .int .i64 a1) rfl; have x2 := KA1.cell (k := 2) (v := .int .i64 a2) rfl; have x3 := KA1.cell (k := 3) (v := .slice a3 a4 a5) rfl
  have y0 := KB1.cell (k := 0) (v := .int .i64 b0) rfl; have y1 := KB1.cell (k := 1) (v := .int .i64 b1) rfl; have y2 := KB1.cell (k := 2) (v := .int .i64 b2) rfl; have y3 := KB1.cell (k := 3) (v := .slice b3 b4 b5) rfl
  go_wp2_with (go_at_call 20; refine Stop.out ?_)
  have KE := Blk.new w1 #[.int .i64 a0, .int .i64 a1, .int .i64 a2, .slice a3 a4 a5, .int .i64 b0, .int .i64 b1, .int .i64 b2, .slice b3 b4 b5] 32
  have hal := balloc (Below.refl w1.heap.size w1) (.cells #[.int .i64 a0, .int .i64 a1, .int .i64 a2, .slice a3 a4 a5, .int .i64 b0, .int .i64 b1, .int .i64 b2, .slice b3 b4 b5] 32)
  have E2 : Hid (EvsAt _ (some ⟨w1.heap.size, 0, none⟩) [⟨a0, a1, a2, a3, a4, a5⟩, ⟨b0, b1, b2, b3, b4, b5⟩]) := hide (enc_blk ev_len KE rfl)
  have KA2 := KA1.next hal; have KB2 := KB1.next hal
  have B2 := hide (bseq B1.out hal)
  clear KE hal KA1 KB1 x0 x1 x2 x3 y0 y1 y2 y3 B1
  generalize w1.alloc (.cells #[.int .i64 a0, .int .i64 a1, .int .i64 a2, .slice a3 a4 a5, .int .i64 b0, .int .i64 b1, .int .i64 b2, .slice b3 b4 b5] 32) = w2 at *
  obtain ⟨eb, heb⟩ : ∃ eb, w1.heap.size = eb := ⟨_, rfl⟩
  rw [heb] at E2 ⊢
  clear heb
  have D2 := hide (Hd.out.keep (Keeps.of_below B2.out))
  have x1 := KA2.cell (k := 1) (v := .int .i64 a1) rfl; have x2 := KA2.cell (k := 2) (v := .int .i64 a2) rfl
  have y1 := KB2.cell (k := 1) (v := .int .i64 b1) rfl; have y2 := KB2.cell (k := 2) (v := .int .i64 b2) rfl
  have HKA := hide KA2; have HKB := hide KB2
  clear KA2 KB2 Hd
  cases hfw : fewR d 2 2 with
  | false =>
    have Hf := hide hfw
    clear hfw
    refine Stop.go (rfew_c dp _ dc 2 2 2 d _ _ hn2 (by decide) D2.out ?_)
    rw [Hf.out]
    go_wp2
    exact HR.out _ B2.out
  | true =>
  have hd5 : d.length ≤ 5 := by unfold fewR at hfw; simp only [Bool.and_eq_true, decide_eq_true_eq] at hfw; omega
  have Hf := hide hfw
  clear hfw
  refine Stop.go (rfew_c dp _ dc 2 2 2 d _ _ hn2 (by decide) D2.out ?_)
  rw [Hf.out]
  go_wp2_with (go_at_call 19; refine Stop.out ?_)
  refine Stop.go (rvalid_c dp _ none dc 2 0 d [⟨a0, a1, a2, a3, a4, a5⟩, ⟨b0, b1, b2, b3, b4, b5⟩] [] _ _ hn2 (show (2 : Nat) ≤ maxLen by decide) (show (0 : Nat) ≤ maxLen by decide) D2.out E2.out EncAt.nil ?_)
  intro w3 hb
  have B3 := hide (bseq B2.out hb)
  have D3 := hide (D2.out.keep (Keeps.of_below hb)); have E3 := hide (E2.out.keep (Keeps.of_below hb))
  have KA3 := HKA.out.next hb; have KB3 := HKB.out.next hb
  clear B2 D2 E2 HKA HKB hb x1 x2 y1 y2
  have x1 := KA3.cell (k := 1) (v := .int .i64 a1) rfl; have x2 := KA3.cell (k := 2) (v := .int .i64 a2) rfl
  have y1 := KB3.cell (k := 1) (v := .int .i64 b1) rfl; have y2 := KB3.cell (k := 2) (v := .int .i64 b2) rfl
  have HKA := hide KA3; have HKB := hide KB3
  clear KA3 KB3
  cases hwb : wellB d [⟨a0, a1, a2, a3, a4, a5⟩, ⟨b0, b1, b2, b3, b4, b5⟩] [] with
  | false =>
    clear hwb
    go_wp2
    exact HR.out _ B3.out
  | true =>
  have HW := hide (wellB_true.1 hwb)
  clear hwb
  by_cases lo : min a1 b1 < -1000000
  · go_wp2
    exact HR.out _ B3.out
  by_cases hi : 2000000 < max a2 b2
  · go_wp2
    exact HR.out _ B3.out
  have HL := hide (two_law HW.out)
  have ha0 := HW.out.office ⟨a0, a1, a2, a3, a4, a5⟩ (by simp)
  have hb0 := HW.out.office ⟨b0, b1, b2, b3, b4, b5⟩ (by simp)
  simp only at ha0 hb0
  obtain ⟨oa, rfl⟩ : ∃ oa : Nat, a0 = oa := ⟨a0.toNat, by omega⟩
  obtain ⟨ob, rfl⟩ : ∃ ob : Nat, b0 = ob := ⟨b0.toNat, by omega⟩
  have hoa : oa < d.length := by omega
  have hob : ob < d.length := by omega
  have E1 : Hid (enB (dst d oa ob) a1 b2 = true ↔ _) := hide (enB_iff (d := d) (a := ⟨oa, a1, a2, a3, a4, a5⟩) (b := ⟨ob, b1, b2, b3, b4, b5⟩))
  have E2 : Hid (enB (dst d ob oa) b1 a2 = true ↔ _) := hide (enB_iff (d := d) (a := ⟨ob, b1, b2, b3, b4, b5⟩) (b := ⟨oa, a1, a2, a3, a4, a5⟩))
  have HM1 : Hid (hasMin (Evt.ev ⟨oa, a1, a2, a3, a4, a5⟩) ↔ a1 ≤ a2 ∧ a1 ≤ 1000000 ∧ 0 ≤ a2) := hide Iff.rfl
  have HM2 : Hid (hasMin (Evt.ev ⟨ob, b1, b2, b3, b4, b5⟩) ↔ b1 ≤ b2 ∧ b1 ≤ 1000000 ∧ 0 ≤ b2) := hide Iff.rfl
  clear ha0 hb0
  go_wp2_with (go_at_call 12; refine Stop.out ?_)
  cases hfit : fitR d [⟨oa, a1, a2, a3, a4, a5⟩, ⟨ob, b1, b2, b3, b4, b5⟩] [] with
  | none =>
    have Hno : Hid (¬ (hasMin (Evt.ev ⟨oa, a1, a2, a3, a4, a5⟩) ∧ hasMin (Evt.ev ⟨ob, b1, b2, b3, b4, b5⟩) ∧ _)) := hide (fun h => by have := HL.out.2 h; rw [hfit] at this; cases this)
    have Hfit := hide hfit
    clear hfit HL
    refine Stop.go (fit_c dp _ none dc 2 0 d [⟨oa, a1, a2, a3, a4, a5⟩, ⟨ob, b1, b2, b3, b4, b5⟩] [] _ _ hn2 (show (2 : Nat) ≤ maxLen by decide) (show (0 : Nat) ≤ maxLen by decide) D3.out E3.out EncAt.nil ?_ ?_)
    rotate_left
    · intro ts hts
      rw [Hfit.out] at hts; cases hts
    intro _ w4 hb
    have B4 := hide (bseq B3.out hb)
    have D4 := hide (D3.out.keep (Keeps.of_below hb))
    have KA4 := HKA.out.next hb; have KB4 := HKB.out.next hb
    clear B3 D3 E3 HKA HKB hb x1 x2 y1 y2
    have x0 := KA4.cell (k := 0) (v := .int .i64 (oa : Int)) rfl; have x1 := KA4.cell (k := 1) (v := .int .i64 a1) rfl; have x2 := KA4.cell (k := 2) (v := .int .i64 a2) rfl; have x3 := KA4.cell (k := 3) (v := .slice a3 a4 a5) rfl
    have y0 := KB4.cell (k := 0) (v := .int .i64 (ob : Int)) rfl; have y1 := KB4.cell (k := 1) (v := .int .i64 b1) rfl; have y2 := KB4.cell (k := 2) (v := .int .i64 b2) rfl; have y3 := KB4.cell (k := 3) (v := .slice b3 b4 b5) rfl
    have HKA := hide KA4; have HKB := hide KB4
    clear KA4 KB4
    by_cases t1 : a1 ≤ a2
    rotate_left
    · go_wp2
      exact HR.out _ B4.out
    by_cases t2 : b1 ≤ b2
    rotate_left
    · go_wp2
      exact HR.out _ B4.out
    by_cases t3 : max a1 b1 ≤ 1000000
    rotate_left
    · go_wp2
      exact HR.out _ B4.out
    by_cases t4 : 0 ≤ min a2 b2
    rotate_left
    · go_wp2
      exact HR.out _ B4.out
    have Hen := hide (show enB (dst d oa ob) a1 b2 = false ∧ enB (dst d ob oa) b1 a2 = false by
      constructor
      · cases hh : enB (dst d oa ob) a1 b2 with
        | false => rfl
        | true => exact absurd ⟨HM1.out.2 ⟨t1, by omega, by omega⟩, HM2.out.2 ⟨t2, by omega, by omega⟩, .inl (E1.out.1 hh)⟩ Hno.out
      · cases hh : enB (dst d ob oa) b1 a2 with
        | false => rfl
        | true => exact absurd ⟨HM1.out.2 ⟨t1, by omega, by omega⟩, HM2.out.2 ⟨t2, by omega, by omega⟩, .inr (E2.out.1 hh)⟩ Hno.out)
    clear E1 E2 HM1 HM2 Hno
    go_wp2_with (go_at_call 21; refine Stop.out ?_)
    refine Stop.go (enough_c dp dc d oa ob a1 a2 b1 b2 _ _ _ _ _ _ _ _ (by omega) D4.out HW.out.dist hoa hob (by omega) (by omega) ?_)
    intro w5 hb
    rw [Hen.out.1]
    have B5 := hide (bseq B4.out hb)
    have D5 := hide (D4.out.keep (Keeps.of_below hb))
    have KA4 := HKA.out.next hb; have KB4 := HKB.out.next hb
    clear hb B4 D4 x0 x1 x2 x3 y0 y1 y2 y3
    have x0 := KA4.cell (k := 0) (v := .int .i64 (oa : Int)) rfl; have x1 := KA4.cell (k := 1) (v := .int .i64 a1) rfl; have x2 := KA4.cell (k := 2) (v := .int .i64 a2) rfl; have x3 := KA4.cell (k := 3) (v := .slice a3 a4 a5) rfl
    have y0 := KB4.cell (k := 0) (v := .int .i64 (ob : Int)) rfl; have y1 := KB4.cell (k := 1) (v := .int .i64 b1) rfl; have y2 := KB4.cell (k := 2) (v := .int .i64 b2) rfl; have y3 := KB4.cell (k := 3) (v := .slice b3 b4 b5) rfl
    clear KA4 KB4
    go_wp2_with (go_at_call 21; refine Stop.out ?_)
    refine Stop.go (enough_c dp dc d ob oa b1 b2 a1 a2 _ _ _ _ _ _ _ _ (by omega) D5.out HW.out.dist hob hoa (by omega) (by omega) ?_)
    intro w6 hb
    rw [Hen.out.2]
    have B6 := hide (bseq B5.out hb)
    clear hb
    go_wp2
    exact HR.out _ B6.out
  | some ts0 =>
    have Hyes := HL.out.1 (by rw [hfit]; rfl)
    have hm1 := HM1.out.1 Hyes.1
    have hm2 := HM2.out.1 Hyes.2.1
    have Hen := hide (show enB (dst d oa ob) a1 b2 = true ∨ enB (dst d ob oa) b1 a2 = true from Hyes.2.2.imp E1.out.2 E2.out.2)
    have Hfit := hide hfit
    clear hfit HL Hyes E1 E2 HM1 HM2
    refine Stop.go (fit_c dp _ none dc 2 0 d [⟨oa, a1, a2, a3, a4, a5⟩, ⟨ob, b1, b2, b3, b4, b5⟩] [] _ _ hn2 (show (2 : Nat) ≤ maxLen by decide) (show (0 : Nat) ≤ maxLen by decide) D3.out E3.out EncAt.nil ?_ ?_)
    · intro hnone
      rw [Hfit.out] at hnone; cases hnone
    intro ts _ q c w4 hb _
    have B4 := hide (bseq B3.out hb)
    have D4 := hide (D3.out.keep (Keeps.of_below hb))
    have KA4 := HKA.out.next hb; have KB4 := HKB.out.next hb
    clear B3 D3 E3 HKA HKB hb x1 x2 y1 y2
    have x0 := KA4.cell (k := 0) (v := .int .i64 (oa : Int)) rfl; have x1 := KA4.cell (k := 1) (v := .int .i64 a1) rfl; have x2 := KA4.cell (k := 2) (v := .int .i64 a2) rfl; have x3 := KA4.cell (k := 3) (v := .slice a3 a4 a5) rfl
    have y0 := KB4.cell (k := 0) (v := .int .i64 (ob : Int)) rfl; have y1 := KB4.cell (k := 1) (v := .int .i64 b1) rfl; have y2 := KB4.cell (k := 2) (v := .int .i64 b2) rfl; have y3 := KB4.cell (k := 3) (v := .slice b3 b4 b5) rfl
    have HKA := hide KA4; have HKB := hide KB4
    clear KA4 KB4
    obtain ⟨s1, s2, s3⟩ := hm1
    obtain ⟨r1, r2, r3⟩ := hm2
    have t3 : max a1 b1 ≤ 1000000 := by omega
    have t4 : 0 ≤ min a2 b2 := by omega
    go_wp2_with (go_at_call 21; refine Stop.out ?_)
    refine Stop.go (enough_c dp dc d oa ob a1 a2 b1 b2 _ _ _ _ _ _ _ _ (by omega) D4.out HW.out.dist hoa hob (by omega) (by omega) ?_)
    intro w5 hb
    have B5 := hide (bseq B4.out hb)
    cases h1 : enB (dst d oa ob) a1 b2 with
    | true =>
      clear h1 hb
      go_wp2
      exact HR.out _ B5.out
    | false =>
    have Hen2 := hide (show enB (dst d ob oa) b1 a2 = true by
      rcases Hen.out with h | h
      · rw [h1] at h; cases h
      · exact h)
    have D5 := hide (D4.out.keep (Keeps.of_below hb))
    have KA4 := HKA.out.next hb; have KB4 := HKB.out.next hb
    clear h1 hb B4 D4 x0 x1 x2 x3 y0 y1 y2 y3
    have x0 := KA4.cell (k := 0) (v := .int .i64 (oa : Int)) rfl; have x1 := KA4.cell (k := 1) (v := .int .i64 a1) rfl; have x2 := KA4.cell (k := 2) (v := .int .i64 a2) rfl; have x3 := KA4.cell (k := 3) (v := .slice a3 a4 a5) rfl
    have y0 := KB4.cell (k := 0) (v := .int .i64 (ob : Int)) rfl; have y1 := KB4.cell (k := 1) (v := .int .i64 b1) rfl; have y2 := KB4.cell (k := 2) (v := .int .i64 b2) rfl; have y3 := KB4.cell (k := 3) (v := .slice b3 b4 b5) rfl
    clear KA4 KB4
    go_wp2_with (go_at_call 21; refine Stop.out ?_)
    refine Stop.go (enough_c dp dc d ob oa b1 b2 a1 a2 _ _ _ _ _ _ _ _ (by omega) D5.out HW.out.dist hob hoa (by omega) (by omega) ?_)
    intro w6 hb
    rw [Hen2.out]
    have B6 := hide (bseq B5.out hb)
    clear hb
    go_wp2
    exact HR.out _ B6.out

set_option maxRecDepth 100000 in
theorem two_holds_lifted (os : Os) (started : os.Started) (H : Type) (enc : TypeId × Value → H) :
    ReturnsInHanded {} Try.checked os 7 .any (Rows.orderTwoSpec.pre6 enc Try.prog Try.f7 Rows.orderTwoRow.domain false) (Rows.orderTwoSpec.post enc Try.prog Try.f7 false true false false) := by
  refine returnsInHanded_of_change (C := Try.checked) Try.own started (by kernel_rfl) Try.func7
    (ChangeSpec.witness6 (enc := enc) (C := Try.checked) false ⟨#[], #[.slice none 0 0, .agg #[.int .i64 0, .int .i64 0, .int .i64 0, .slice none 0 0], .agg #[.int .i64 0, .int .i64 0, .int .i64 0, .slice none 0 0]], []⟩ 8 (by kernel_rfl) (by kernel_rfl) (by kernel_rfl) (by kernel_rfl)) ?_
  intro W base args ds gs before hval0 hW hcnd _
  have hval : ∀ (j : Nat) t v, Try.f7.params[j]? = some t → args[j]? = some v → Value.okWide Try.prog W .any base t v := hval0
  have hW' := hW
  obtain ⟨p, q, hA0, hV, rfl, hfz, hnd⟩ := hW
  have hA : DataW.TrodAll enc Try.prog W 0 (fun _ => true) true Try.f7.params.toList args.toList ds p := hA0
  have hA1 := hA
  rw [Try.params7] at hA hval
  obtain ⟨v0, vs0, d0, ds0, p0, q0, hargs, rfl, rfl, h0, r0⟩ := trodAll_cons hA
  obtain ⟨v1, vs1, d1, ds1, p1, q1, rfl, rfl, rfl, h1, r1⟩ := trodAll_cons r0
  obtain ⟨v2, vs2, d2, ds2, p2, q2, rfl, rfl, rfl, h2, r2⟩ := trodAll_cons r1
  obtain ⟨rfl, rfl, rfl⟩ := trodAll_nil r2
  obtain rfl : args = #[v0, v1, v2] := by cases args; simp_all
  obtain ⟨rfl, rfl⟩ := trodVars_none hV
  obtain ⟨a0, n0, c0, l0, rfl, hl0, hm0, hi0, hz0, hw0⟩ := open_rows (hval 0 22 v0 rfl rfl) h0
  obtain ⟨x1, rfl, hw1⟩ := open_ev (hval 1 32 v1 rfl rfl) h1
  obtain ⟨x2, rfl, hw2⟩ := open_ev (hval 2 32 v2 rfl rfl) h2
  refine orderTwo_c a0 n0 c0 l0 x1 x2 W _ hl0 hm0 hi0 hz0 hw0 hw1 hw2 fun W' bel => ?_
  exact ⟨_, rfl, law_post Try.laidOut bel rfl hW' hA1 (by kernel_rfl) rfl Try.underlying4 rfl rfl rfl⟩

theorem two_holds : Rows.OrderTwoSaid :=
  OpenClaim.holds_of_wide 7 Try.f7 rfl rfl rfl rfl rfl rfl rfl ⟨rfl, rfl, rfl, rfl, rfl⟩ rfl rfl rfl rfl rfl (by kernel_rfl) Try.func7 (by kernel_rfl)
    (of_decide_eq_true (by kernel_rfl)) (by unfold Func.isWrapper; rw [if_neg (of_decide_eq_false (by kernel_rfl))]; exact ⟨rfl, rfl⟩)
    (fun os started H enc _ => two_holds_lifted os started H enc)

end Go.Proofs.Ytaopfoicdjejnaa
