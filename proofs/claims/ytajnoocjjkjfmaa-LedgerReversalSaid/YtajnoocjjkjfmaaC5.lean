import Derived.Test.YtajnoocjjkjfmaaC4
import Derived.Test.YtajnoocjjkjfmaaC3
set_option linter.unusedVariables false
set_option linter.unusedSimpArgs false
namespace Go.Proofs.Ytajnoocjjkjfmaa
open Go.RowKit Go.Maps

def EntsAt (w : World) (p : Option Addr) (l : List Ent) : Prop :=
  0 < l.length → ∃ b o, p = some ⟨b, o, none⟩ ∧ ∀ i (x : Ent), l[i]? = some x → w.cell? ⟨b, o + i * 4, none⟩ = some (.int .i64 x.fr) ∧ w.cell? ⟨b, o + i * 4 + 1, none⟩ = some (.int .i64 x.to_) ∧ w.cell? ⟨b, o + i * 4 + 2, none⟩ = some (.int .i64 x.am) ∧ w.cell? ⟨b, o + i * 4 + 3, none⟩ = some (.string x.ref)
theorem EntsAt.keep {w w' : World} {p : Option Addr} {l : List Ent} (hk : Keeps w w') (h : EntsAt w p l) : EntsAt w' p l := fun hl => by
  obtain ⟨b, o, hp, hc⟩ := h hl
  exact ⟨b, o, hp, fun i x hx => ⟨hk _ _ (hc i x hx).1, hk _ _ (hc i x hx).2.1, hk _ _ (hc i x hx).2.2.1, hk _ _ (hc i x hx).2.2.2⟩⟩
theorem EntsAt.at_ {w : World} {p : Option Addr} {l : List Ent} (h : EntsAt w p l) {i : Nat} (hi : i < l.length) :
    ∃ b o x, p = some ⟨b, o, none⟩ ∧ l[i]? = some x ∧ w.cell? ⟨b, o + i * 4, none⟩ = some (.int .i64 x.fr) ∧ w.cell? ⟨b, o + i * 4 + 1, none⟩ = some (.int .i64 x.to_) ∧ w.cell? ⟨b, o + i * 4 + 2, none⟩ = some (.int .i64 x.am) ∧ w.cell? ⟨b, o + i * 4 + 3, none⟩ = some (.string x.ref) := by
  obtain ⟨b, o, hp, hc⟩ := h (by omega)
  exact ⟨b, o, l[i], hp, List.getElem?_eq_getElem hi, hc i _ (List.getElem?_eq_getElem hi)⟩
theorem EntsAt.nil {w : World} {p : Option Addr} : EntsAt w p [] := fun h => absurd h (by simp)
/-- Entries as Go holds them. -/
def EWf (l : List Ent) : Prop := ∀ e ∈ l, (Lit.int .i64 e.fr).wf = true ∧ (Lit.int .i64 e.to_).wf = true ∧ (Lit.int .i64 e.am).wf = true ∧ e.ref.size ≤ maxLen

/-- What an entry does to an account. -/
def ent1 (e : Ent) (i : Int) : Int := (if e.to_ = i then e.am else 0) - (if e.fr = i then e.am else 0)
def netF (l : List Ent) (i : Int) : Int := (l.map fun e => ent1 e i).sum
theorem netF_snoc (l : List Ent) (e : Ent) (i : Int) : netF (l ++ [e]) i = netF l i + ent1 e i := by simp [netF]
def balOk (n : Int) (l : List Ent) : Bool := inB n 1 100 && l.all (validE n)
def balE (n : Int) (l : List Ent) : Int := if balOk n l = true then (if 1000 < l.length then 2 else 0) else 1
def balL (n : Int) (l : List Ent) : List Int := if balE n l = 0 then (List.range n.toNat).map (fun (i : Nat) => netF l (i : Int)) else []
theorem netF_bd {n : Int} {l : List Ent} (h : l.all (validE n) = true) (i : Int) : -(1000000000 * (l.length : Int)) ≤ netF l i ∧ netF l i ≤ 1000000000 * (l.length : Int) := by
  induction l with
  | nil => simp [netF]
  | cons e l ih =>
    rw [List.all_cons, Bool.and_eq_true] at h
    have h1 := ih h.2
    have h2 := inB_true (validE_true h.1).2.2.2.2.1
    have h3 : netF (e :: l) i = ent1 e i + netF l i := by simp [netF]
    have h4 : -1000000000 ≤ ent1 e i ∧ ent1 e i ≤ 1000000000 := by unfold ent1; split <;> split <;> omega
    rw [h3, List.length_cons]
    omega

/-- A map of ints that the call made reads as a function. -/
def MapIs (w : World) (B n : Nat) (f : Int → Int) : Prop := ∃ (nn : Nat) (D : DataW Unit), nn ≤ n ∧ w.ownsMap Try.prog 3 (plainElem Try.prog 3) B nn D ∧ IsMap D ∧ ∀ i : Int, D.atKey (.int .i64 i) (.lit (.int .i64 0)) = .lit (.int .i64 (f i))
theorem law3 : Keyed Try.prog 3 := int_keyed Try.underlying3
theorem zero3 (w : World) : (zeroValue 3).run Try.prog w = .ok (.int .i64 0) w := by kernel_rfl
theorem MapIs.put {w' : World} {B n : Nat} {f : Int → Int} {nn : Nat} {D : DataW Unit} (hn : nn ≤ n) (hD : IsMap D) (hf : ∀ i : Int, D.atKey (.int .i64 i) (.lit (.int .i64 0)) = .lit (.int .i64 (f i))) (k v : Int)
    (h : w'.ownsMap Try.prog 3 (plainElem Try.prog 3) B (nn + 1) (D.put (.int .i64 k) (.lit (.int .i64 v)))) : MapIs w' B (n + 1) (fun i => if i = k then v else f i) := by
  refine ⟨nn + 1, _, by omega, h, ?_, fun i => ?_⟩
  · first | exact IsMap.put hD _ _ | exact isMap_put hD _ _
  · by_cases hi : i = k
    · subst hi
      show _ = DataW.lit (.int .i64 (if i = i then v else f i))
      rw [if_pos rfl]
      exact atKey_put_same hD (by first | trivial | exact rfl | decide) _ _
    · show _ = DataW.lit (.int .i64 (if i = k then v else f i))
      rw [if_neg hi, atKey_put_other (by intro h; injection h with _ h; exact hi h)]
      exact hf i

theorem net_step {f : Int → Int} {l : List Ent} (hf : ∀ i, f i = netF l i) (e : Ent) (hne : e.fr ≠ e.to_) : ∀ i, (if i = e.to_ then (if e.to_ = e.fr then f e.fr - e.am else f e.to_) + e.am else if i = e.fr then f e.fr - e.am else f i) = netF (l ++ [e]) i := fun i => by
  have e1 : ¬ e.to_ = e.fr := fun h => hne h.symm
  rw [netF_snoc]
  unfold ent1
  by_cases h1 : i = e.to_
  · subst h1
    simp [e1, hne, hf]
  · have h1' : ¬ e.to_ = i := fun h => h1 h.symm
    by_cases h2 : i = e.fr
    · subst h2; simp [hne, e1, hf]; omega
    · have h2' : ¬ e.fr = i := fun h => h2 h.symm
      simp [h1, h1', h2, h2', hf]

set_option maxHeartbeats 2000000 in
set_option maxRecDepth 100000 in
theorem balances_c (n : Int) (p : Option Addr) (m cap : Nat) (l : List Ent) (w : World) (R) (hm : l.length = m) (hl : m ≤ maxLen) (h : EntsAt w p l) (hw : EWf l) (hnw : (Lit.int .i64 n).wf = true)
    (hR : ∀ v w', Below w.heap.size w w' → w'.ownsRow w.heap.size 3 1 v (balL n l).length ((balL n l).map (Value.int .i64)) → R (.returned (.tuple #[v, .int .i64 (balE n l)])) w') :
    Calls Try.prog 13 #[.int .i64 n, .slice p m cap] w R := by
  unfold maxLen at hl
  have Hm := hide hm; have H := hide h; have HR := hide hR; have Hw := hide hw
  clear hm h hR hw hnw
  have Hbad := hide (fun (er : Int) (hb : balE n l = er) (he : er ≠ 0) w' (B : Below w.heap.size w w') => (show R (.returned (.tuple #[.slice none 0 0, .int .i64 er])) w' by
    have := HR.out (.slice none 0 0) w' B (by unfold balL; rw [if_neg (by rw [hb]; exact he)]; exact World.ownsRow_nil ..)
    rw [hb] at this; exact this))
  cases hn : inB n 1 100 with
  | false =>
    have Hn := hide hn
    have hb := hide (Hbad.out 1 (by unfold balE balOk; rw [hn]; rfl) (by decide) w (Below.refl _ _))
    clear hn
    go_enter Try.func13, Try.ntmps13
    go_wp2_with (go_at_call 24; refine within_c _ _ _ _ _ ?_; rw [Hn.out])
    exact hb.out
  | true =>
    have Hn := hide hn
    have hnb := inB_true hn
    clear hn
    go_enter Try.func13, Try.ntmps13
    go_wp2_with (go_at_call 24; refine within_c _ _ _ _ _ ?_; rw [Hn.out])
    go_loopw [18] (fun i wr => ∃ k : Nat, k ≤ m ∧ i = .int .i64 k ∧ Hid ((l.take k).all (validE n) = true) ∧ Hid (Below w.heap.size w wr)) (fun i _ => m - (intOf i).toNat)
    case atStart => exact ⟨0, Nat.zero_le _, rfl, hide (by simp), hide (Below.refl _ _)⟩
    case round =>
      obtain ⟨k, hk, rfl, hal, Hb⟩ := hrel
      by_cases hlt : k < m
      · obtain ⟨b, o, x, rfl, hx, hc1, hc2, hc3, hc4⟩ := (H.out.keep (Keeps.of_below Hb.out)).at_ (i := k) (by rw [Hm.out]; exact hlt)
        have hxw := Hw.out x (List.mem_of_getElem? hx)
        have Hx := hide hx
        have Hxw := hide hxw
        clear hx hxw
        obtain ⟨xf, xt, xa, xr⟩ := x
        simp only at hc1 hc2 hc3 hc4
        go_wp2_with (go_at_call 19; refine Stop.out ?_)
        refine Stop.go (valid_c n ⟨xf, xt, xa, xr⟩ Hxw.out.2.2.2 _ _ ?_)
        cases hv : validE n ⟨xf, xt, xa, xr⟩ with
        | false =>
          have hbb := hide (fun w' B => Hbad.out 1 (by
            have : l.all (validE n) = false := all_false_of _ _ _ _ Hx.out hv
            unfold balE balOk; rw [this]; simp) (by decide) w' B)
          clear hv
          go_wp2_with fail
          exact hbb.out _ (by first | exact balloc (balloc Hb.out _) _ | exact below_drewN' (balloc (balloc Hb.out _) _) _)
        | true =>
          have Hv := hide hv
          clear hv
          go_wp2_with fail
          go_roundw
          case rel => exact ⟨k + 1, by omega, by go_num, hide (by rw [all_take_succ _ _ _ _ Hx.out, hal.out, Hv.out]; rfl), hide (balloc (balloc Hb.out _) _)⟩
          case measure => simp [intOf]; omega
      · have hkn : l.take k = l := List.take_of_length_le (by rw [Hm.out]; omega)
        rw [hkn] at hal
        clear hkn
        by_cases hbig : 1000 < m
        · have hbb := hide (Hbad.out 2 (by unfold balE balOk; rw [Hn.out, hal.out, Hm.out]; simp [hbig]) (by decide) _ Hb.out)
          go_wp2_with fail
          exact hbb.out
        · have hok : balE n l = 0 := by unfold balE balOk; rw [Hn.out, hal.out, Hm.out]; simp [hbig]
          have Hok := hide hok
          have hmm := @run_makeMap Try.prog
          clear hok
          go_wp2_with fail
          clear hmm
          have M0 := hide (show MapIs (wr.alloc (.map #[] 0)) wr.heap.size 0 (netF []) from ⟨0, .map [], Nat.le_refl _, World.ownsMap_made wr _ _ _, isMap_empty, fun i => rfl⟩)
          have Bm := hide (balloc Hb.out (.map #[] 0))
          have hB0 := Hb.out.size
          generalize wr.alloc (.map #[] 0) = wb at M0 Bm ⊢
          generalize hBB : wr.heap.size = B at *
          have H2m := hide hbig
          clear hBB Hb hbig
          go_loopw [33] (fun i wr => ∃ (k : Nat) (f : Int → Int), k ≤ m ∧ i = .int .i64 k ∧ Hid (MapIs wr B (2 * k) f ∧ ∀ i, f i = netF (l.take k) i) ∧ Hid (Below w.heap.size w wr)) (fun i _ => m - (intOf i).toNat)
          case atStart => exact ⟨0, netF [], Nat.zero_le _, rfl, hide ⟨M0.out, fun i => rfl⟩, Bm⟩
          case round =>
            clear M0 Bm
            obtain ⟨k, f, hk, rfl, hM, Hb⟩ := hrel
            by_cases hlt : k < m
            · obtain ⟨b, o, x, rfl, hx, hc1, hc2, hc3, hc4⟩ := (H.out.keep (Keeps.of_below Hb.out)).at_ (i := k) (by rw [Hm.out]; exact hlt)
              have hxw := Hw.out x (List.mem_of_getElem? hx)
              have hvx : validE n x = true := by
                have := hal.out; rw [List.all_eq_true] at this; exact this x (List.mem_of_getElem? hx)
              obtain ⟨_, v2, v3, v4, v5, _⟩ := validE_true hvx
              have hab := inB_true v5
              have hfr := inB_true v2
              have hto := inB_true v3
              have hbd : ∀ i, -1000000000000 ≤ f i ∧ f i ≤ 1000000000000 := fun i => by
                rw [hM.out.2 i]
                have h1 := netF_bd (l := l.take k) (n := n) (by rw [List.all_eq_true]; intro e he; have := hal.out; rw [List.all_eq_true] at this; exact this e (List.mem_of_mem_take he)) i
                have h2 : (l.take k).length ≤ k := List.length_take_le _ _
                have h3 := H2m.out
                omega
              have hb1 := hbd x.fr
              have hb2 := hbd x.to_
              have Hx := hide hx; have Hxw := hide hxw; have Hne := hide v4; have Hbd := hide hbd
              clear hx hxw hvx v2 v3 v4 v5 hbd
              obtain ⟨xf, xt, xa, xr⟩ := x
              simp only at hc1 hc2 hc3 hc4 hab hfr hto hb1 hb2
              obtain ⟨⟨nn, D, hnn, hD1, hD2, hD3⟩, hff⟩ := hM.out
              have HD1 := hide hD1; have HD2 := hide hD2; have HD3 := hide hD3; have Hff := hide hff
              clear hD1 hD2 hD3 hff
              generalize hff1 : f xf = fx at *
              have Hf1 := hide hff1; clear hff1
              go_wp2_with (first | (at_lookup; refine Stop.out ?_))
              refine Stop.go ?_
              refine wpList_lookup_own_int _ rfl _ _ 46 rfl 3 3 .i64 law3 Try.underlying46 Try.underlying3 (zero3 _) B nn D rfl (by first | exact HD1.out.alloc _ | exact HD1.out) _ _ rfl (keyOf_int_mk Try.underlying3 Hxw.out.1) ?_
              intro c hat _
              obtain rfl : c = fx := by
                have h1 := HD3.out xf
                rw [hat] at h1
                injection h1 with h1
                injection h1 with _ h1
                rw [h1]; exact Hf1.out
              clear hat
              have hBw : B < wr.heap.size := HD1.out.lt
              have hmx : 2 * m < maxLen := by have := H2m.out; unfold maxLen; omega
              go_wp2_with (first | (at_mapUpdate; refine Stop.out ?_))
              refine Stop.go ?_
              refine wpList_mapUpdate_own _ rfl _ _ _ 46 rfl 3 3 law3 Try.underlying46 _ B nn D rfl (by first | exact HD1.out.alloc _ | exact HD1.out) (by omega) _ _ _ rfl rfl (keyOf_int_mk Try.underlying3 Hxw.out.1) _ [] (plainElem_int Try.underlying3 (wf_i64.2 (by omega))) ?_
              intro w1 hown1 hgrow1
              have M1 := hide (MapIs.put hnn HD2.out HD3.out xf _ hown1)
              have G1 := hide (World.grownBy.trans (World.grownBy_alloc wr _ _) hgrow1)
              have d0 := hgrow1.cell (a := ⟨wr.heap.size, 0, none⟩) (v := .int .i64 xf) (by simp) (by simp; omega)
              have d1 := hgrow1.cell (a := ⟨wr.heap.size, 1, none⟩) (v := .int .i64 xt) (by simp) (by simp; omega)
              have d2 := hgrow1.cell (a := ⟨wr.heap.size, 2, none⟩) (v := .int .i64 xa) (by simp) (by simp; omega)
              have d3 := hgrow1.cell (a := ⟨wr.heap.size, 3, none⟩) (v := .string xr) (by simp) (by simp; omega)
              clear hown1 hgrow1 HD1 HD2 HD3 hnn hc1 hc2 hc3 hc4
              obtain ⟨nn1, D1, hnn1, hE1, hE2, hE3⟩ := M1.out
              have HE1 := hide hE1; have HE2 := hide hE2; have HE3 := hide hE3
              clear hE1 hE2 hE3
              generalize hff2 : f xt = ft at *
              have Hf2 := hide hff2; clear hff2
              go_wp2_with (first | (at_lookup; refine Stop.out ?_))
              refine Stop.go ?_
              refine wpList_lookup_own_int _ rfl _ _ 46 rfl 3 3 .i64 law3 Try.underlying46 Try.underlying3 (zero3 _) B nn1 D1 rfl (by first | exact HE1.out.alloc _ | exact HE1.out) _ _ rfl (keyOf_int_mk Try.underlying3 Hxw.out.2.1) ?_
              intro c2 hat _
              obtain rfl : c2 = ft := by
                have h1 := HE3.out xt
                rw [hat] at h1
                injection h1 with h1
                injection h1 with _ h1
                rw [h1, if_neg (fun h => Hne.out h.symm)]; exact Hf2.out
              clear hat
              go_wp2_with (first | (at_mapUpdate; refine Stop.out ?_))
              refine Stop.go ?_
              refine wpList_mapUpdate_own _ rfl _ _ _ 46 rfl 3 3 law3 Try.underlying46 _ B nn1 D1 rfl (by first | exact HE1.out.alloc _ | exact HE1.out) (by omega) _ _ _ rfl rfl (keyOf_int_mk Try.underlying3 Hxw.out.2.1) _ [] (plainElem_int Try.underlying3 (wf_i64.2 (by omega))) ?_
              intro w2 hown2 hgrow2
              have M2 := hide (MapIs.put hnn1 HE2.out HE3.out xt _ hown2)
              have Hb2 := hide (Hb.out.grown (G1.out.trans hgrow2) Hb.out.size (fun j e => by cases e; exact hB0))
              clear hown2 hgrow2
              go_wp2_with fail
              go_roundw
              case rel =>
                refine ⟨k + 1, _, by omega, by go_num, hide ⟨M2.out, fun i => ?_⟩, Hb2⟩
                have h1 := net_step Hff.out ⟨xf, xt, xa, xr⟩ Hne.out i
                rw [List.take_add_one, Hx.out]
                simp only [Option.toList]
                rw [← h1]
                simp only
                rw [Hf1.out, Hf2.out, if_neg (fun h => Hne.out (Eq.symm h))]
              case measure => simp [intOf]; omega
            · have hkm : k = m := by omega
              subst hkm
              have hkn : l.take k = l := List.take_of_length_le (by rw [Hm.out]; omega)
              have Hff := hide (show ∀ i, f i = netF l i by have := hM.out.2; rw [hkn] at this; exact this)
              have Hbd : Hid (∀ i, -1000000000000 ≤ f i ∧ f i ≤ 1000000000000) := hide (fun i => by
                rw [Hff.out i]
                have h1 := netF_bd (l := l) (n := n) hal.out i
                have h3 := H2m.out
                have h4 := Hm.out
                omega)
              obtain ⟨nN, rfl⟩ := Int.eq_ofNat_of_zero_le (show 0 ≤ n by omega)
              obtain ⟨⟨nn, D, hnn, hD1, hD2, hD3⟩, _⟩ := hM.out
              have HD1 := hide hD1; have HD3 := hide hD3
              obtain ⟨j0, hj0, hjz0, hjz1, hjz2⟩ := info_parts Try.info3
              clear hkn hD1 hD2 hD3 hM
              go_wp2_with (at_make; refine Stop.out ?_)
              refine Stop.go ?_
              refine wpList_make_full _ rfl (.tmp 52) (.tmp 52) 23 rfl w.heap.size 3 j0 (.int .i64 0) 1 Try.underlying23 hj0 hjz0 hjz1 .i64 .i64 nN nN nN rfl rfl rfl rfl (by rw [hjz2]; omega) (by unfold maxLen; omega) Hb.out.size ?_
              intro w1 o1 g1
              rw [zeros_int nN (fun (i : Nat) => f (i : Int))] at o1
              have O1 := hide o1
              have HD1' := hide (HD1.out.kept g1 (by simp))
              have hgB : B < wr.heap.size := HD1.out.lt
              have hwB : w.heap.size ≤ wr.heap.size := Hb.out.size
              have B1 := hide (Hb.out.grown g1 Hb.out.size (fun j e => by cases e))
              generalize wr.heap.size = gq at *
              clear o1 g1 HD1 Hb
              go_wp2_with fail
              go_loopw [56] (fun i wr => ∃ j : Nat, j ≤ nN ∧ i = .int .i64 j ∧ Hid (wr.ownsRow w.heap.size 3 1 (.slice (some ⟨gq, 0, none⟩) nN nN) nN (((List.range nN).map fun (i : Nat) => if i < j then f (i : Int) else 0).map (Value.int .i64))) ∧
                  Hid (wr.ownsMap Try.prog 3 (plainElem Try.prog 3) B nn D) ∧ Hid (Below w.heap.size w wr)) (fun i _ => nN - (intOf i).toNat)
              case atStart => exact ⟨0, Nat.zero_le _, rfl, O1, HD1', B1⟩
              case round =>
                clear O1 HD1' B1
                obtain ⟨j, hj, rfl, HO, HD, HB⟩ := hrel
                by_cases hltj : j < nN
                · have hfb := Hbd.out (j : Int)
                  obtain ⟨y, hy, hcy⟩ := owni_at HO.out (i := j) hltj
                  have hzf := HO.out.frozenAt j
                  have hwfj : (Lit.int .i64 (j : Int)).wf = true := wf_i64.2 (by omega)
                  generalize hfj : f (j : Int) = fj at *
                  have Hfj := hide hfj
                  clear hy hfj
                  go_wp2_with (first | (at_lookup; refine Stop.out ?_))
                  refine Stop.go ?_
                  refine wpList_lookup_own_int _ rfl _ _ 46 rfl 3 3 .i64 law3 Try.underlying46 Try.underlying3 (zero3 _) B nn D rfl (by first | exact HD.out.alloc _ | exact HD.out) _ _ rfl (keyOf_int_mk Try.underlying3 hwfj) ?_
                  intro c hat _
                  obtain rfl : c = fj := by
                    have h1 := HD3.out (j : Int)
                    rw [hat] at h1
                    injection h1 with h1
                    injection h1 with _ h1
                    rw [h1]; exact Hfj.out
                  clear hat
                  go_wp2_with fail
                  go_roundw
                  case rel =>
                    refine ⟨j + 1, by omega, by go_num, hide ?_, hide ?_, hide ?_⟩
                    · have h1 := owni_set HO.out j c
                      rw [set_range nN _ (fun (i : Nat) => if i < j + 1 then f (i : Int) else 0) j c (fun i hi => by
                        by_cases h : j = i
                        · subst h; simp [Hfj.out]
                        · by_cases h2 : i < j
                          · rw [if_pos (by omega), if_neg h, if_pos h2]
                          · rw [if_neg (by omega), if_neg h, if_neg h2])] at h1
                      exact h1
                    · exact HD.out.setCell (by simp; omega) _
                    · exact below_set HB.out gq _ _ hwB
                  case measure => simp [intOf]; omega
                · have hjn : j = nN := by omega
                  subst hjn
                  have Hfin := hide (show wr.ownsRow w.heap.size 3 1 (.slice (some ⟨gq, 0, none⟩) j j) (balL (j : Int) l).length ((balL (j : Int) l).map (Value.int .i64)) by
                    have h1 := HO.out
                    have e : ((List.range j).map fun (i : Nat) => if i < j then f (i : Int) else 0) = balL (j : Int) l := by
                      unfold balL
                      rw [if_pos Hok.out, Int.toNat_natCast]
                      apply List.map_congr_left
                      intro i hi
                      rw [if_pos (by simpa using hi), Hff.out]
                    rw [e] at h1
                    have e2 : (balL (j : Int) l).length = j := by rw [← e]; simp
                    rw [e2]; exact h1)
                  have HR1 := hide HR.out
                  rw [Hok.out] at HR1
                  go_wp2_with fail
                  exact HR1.out _ _ HB.out Hfin.out
end Go.Proofs.Ytajnoocjjkjfmaa
