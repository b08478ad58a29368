/- OrderFewer: for any events with possible times, without one of them that is in no leg, and with one that has more minutes, there are possible times; the times that were found stay possible. -/
import Derived.Test.YtaopfoicdjejnaaC20
set_option linter.unusedVariables false
set_option linter.unusedSimpArgs false
namespace Go.Proofs.Ytaopfoicdjejnaa
open Go.ChangeShapes Go.WideShapes Go.ChangeAt Go.RowKit Go.Deep

theorem flat_put {α : Type} {enc : α → List Value} {m : Nat} (hk : ∀ x, (enc x).length = m) : ∀ (l : List α) (k c : Nat) (x x' : α) (u : Value), l[k]? = some x → c < m → enc x' = (enc x).set c u → (l.flatMap enc).set (k * m + c) u = (l.set k x').flatMap enc
  | [], k, c, x, x', u, h, _, _ => by simp at h
  | y :: l, 0, c, x, x', u, h, hc, he => by
    simp at h; subst h
    rw [List.set_cons_zero, List.flatMap_cons, List.flatMap_cons, he, Nat.zero_mul, Nat.zero_add, List.set_append_left _ _ (by rw [hk]; exact hc)]
  | y :: l, k + 1, c, x, x', u, h, hc, he => by
    have := flat_put hk l k c x x' u (by simpa using h) hc he
    rw [List.set_cons_succ, List.flatMap_cons, List.flatMap_cons, List.set_append_right _ _ (by rw [hk, Nat.add_mul]; omega), hk, ← this]
    congr 2
    rw [Nat.add_mul]; omega
theorem inL_no {ls : List Lgr} {j : Nat} {g : Lgr} (hg : ls[j]? = some g) {k : Nat} (h : inL (ls.take j) k = false) (h1 : (g.src == (k : Int)) = false) (h2 : (g.dst == (k : Int)) = false) : inL (ls.take (j + 1)) k = false := by
  rw [inL_succ hg, h, h1, h2]; rfl
theorem inL_yes {ls : List Lgr} {j : Nat} {g : Lgr} (hg : ls[j]? = some g) {k : Nat} (h : g.src = (k : Int) ∨ g.dst = (k : Int)) : inL ls k = true := by
  unfold inL
  rw [List.any_eq_true]
  refine ⟨g, List.mem_of_getElem? hg, ?_⟩
  rcases h with h | h <;> simp [h]
set_option maxHeartbeats 1000000 in
theorem inLeg_c (lp : Option Addr) (lc : Nat) (ls : List Lgr) (k : Nat) (w : World) (R) (hll : ls.length ≤ 1000) (hl : LgsAt w lp ls) (hR : R (.returned (.bool (inL ls k))) w) :
    Calls Try.prog 17 #[.slice lp ls.length lc, .int .i64 (k : Int)] w R := by
  have HF : Hid (inL ls k = false → R (.returned (.bool false)) w) := hide (fun h => by rw [h] at hR; exact hR)
  have HT : Hid (inL ls k = true → R (.returned (.bool true)) w) := hide (fun h => by rw [h] at hR; exact hR)
  have Hl := hide hl
  clear hR hl
  go_enter Try.func17, Try.ntmps17
  go_wp2
  go_loop [5] (fun si => ∃ j : Nat, j ≤ ls.length ∧ si = .int .i64 j ∧ Hid (inL (ls.take j) k = false)) (fun si => ls.length - (intOf si).toNat)
  case atStart => exact ⟨0, Nat.zero_le _, rfl, hide rfl⟩
  case round =>
    obtain ⟨j, hj, rfl, HI⟩ := hrel
    by_cases hlt : j < ls.length
    · obtain ⟨b, o, g, rfl, hg, l0, l1, l2⟩ := Hl.out.lg hlt
      have Hg := hide hg
      clear hg
      rcases g with ⟨gs, gd, gg⟩
      simp only at l0 l1 l2
      by_cases e1 : gs = (k : Int)
      · have HT1 := hide (HT.out (inL_yes Hg.out (.inl e1)))
        have q1 : (gs == (k : Int)) = true := by rw [beq_iff_eq]; exact e1
        clear e1
        go_wp2
        exact HT1.out
      have q1 : (gs == (k : Int)) = false := by rw [beq_eq_false_iff_ne]; exact e1
      by_cases e2 : gd = (k : Int)
      · have HT1 := hide (HT.out (inL_yes Hg.out (.inr e2)))
        have q2 : (gd == (k : Int)) = true := by rw [beq_iff_eq]; exact e2
        clear e1 e2
        go_wp2
        exact HT1.out
      have q2 : (gd == (k : Int)) = false := by rw [beq_eq_false_iff_ne]; exact e2
      have HI2 := hide (inL_no Hg.out HI.out q1 q2)
      clear e1 e2
      go_wp2
      go_round
      case rel => exact ⟨j + 1, by omega, by go_num, HI2⟩
      case measure => simp [intOf]; omega
    · obtain rfl : j = ls.length := by omega
      have HF1 := hide (HF.out (by have := HI.out; rwa [List.take_length] at this))
      go_wp2
      exact HF1.out
set_option maxRecDepth 100000 in
set_option maxHeartbeats 4000000 in
theorem lower_c (lp : Option Addr) (lc : Nat) (ls : List Lgr) (k : Nat) (w : World) (R) (hll : ls.length ≤ 1000) (hk : k ≤ 1000) (hin : ∀ g ∈ ls, 0 ≤ g.src ∧ g.src ≤ 1000 ∧ 0 ≤ g.dst ∧ g.dst ≤ 1000) (hl : LgsAt w lp ls)
    (hR : ∀ p c w', Below w.heap.size w w' → LgsAt w' p (ls.map (lowG k)) → ls.length ≤ c → R (.returned (.slice p ls.length c)) w') :
    Calls Try.prog 18 #[.slice lp ls.length lc, .int .i64 (k : Int)] w R := by
  have HR := hide hR; have Hl := hide hl; have Hin := hide hin
  clear hR hl hin
  obtain ⟨g0, hg0, hgz0, hgz1, hgz2⟩ := info_parts Try.info39
  go_enter Try.func18, Try.ntmps18
  go_wp2
  go_loopw [5, 6] (fun v si wr => ∃ j : Nat, j ≤ ls.length ∧ si = .int .i64 j ∧ Hid (OwnL wr w.heap.size v ((ls.take j).map (lowG k))) ∧ Hid (Below w.heap.size w wr)) (fun _ si _ => ls.length - (intOf si).toNat)
  case atStart => exact ⟨0, Nat.zero_le _, rfl, hide OwnL.nil, hide (Below.refl _ _)⟩
  case round =>
    obtain ⟨j, hj, rfl, HO, HB⟩ := hrel
    by_cases hlt : j < ls.length
    · obtain ⟨b, o, g, rfl, hg, l0, l1, l2⟩ := (Hl.out.keep (Keeps.of_below HB.out)).lg hlt
      have hgi := Hin.out g (List.mem_of_getElem? hg)
      have HS := hide (map_take_succ (lowG k) hg)
      clear hg
      rcases g with ⟨gs, gd, gg⟩
      simp only at l0 l1 l2 hgi HS
      have hfl1 : ((ls.take j).map (lowG k)).length ≤ 1000 := by rw [List.length_map, List.length_take]; omega
      have hBz := HB.out.size
      by_cases s1 : (k : Int) < gs <;> by_cases s2 : (k : Int) < gd
      all_goals
        go_wp2_with (at_builtin; refine Stop.out ?_)
        refine Stop.go ?_
        refine wpList_app _ rfl (.tmp 34) (.tmp 36) 24 rfl w.heap.size 39 g0 _ 3 24 Try.underlying24 hg0 hgz0 hgz1 hgz2 rfl (by omega) _ _ _ rfl (HO.out.next (balloc (balloc (Below.refl _ _) _) _)) (some ⟨wr.heap.size + 1, 0, none⟩) 1 1 (lowG k ⟨gs, gd, gg⟩).cells rfl (Src.blk (Blk.new_at (by simp)) (by simp [lowG, lowI, Lgr.cells, s1, s2]; try omega) rfl) (lg_one _) (by unfold maxLen; omega) (by omega) (by simp; omega) ?_
        intro v1 w3 hown1 hg1
        have hg1' : wr.grownBy w3 u5.ownBlock := World.grownBy.trans (World.grownBy.trans (World.grownBy_alloc _ _ _) (World.grownBy_alloc _ _ _)) hg1
        have HB3 := hide (show Below w.heap.size w w3 from HB.out.grown hg1' HB.out.size (fun k hk => (HO.out.lt k hk).1))
        have HO3 := hide (show OwnL w3 w.heap.size v1 ((ls.take (j + 1)).map (lowG k)) by rw [HS.out]; exact OwnL.app hown1)
        clear hg1 hg1' hown1 HO HB HS l0 l1 l2
        go_wp2_with fail
        go_roundw
        case rel => exact ⟨j + 1, by omega, by go_num, HO3, HB3⟩
        case measure => simp [intOf]; omega
    · obtain rfl : j = ls.length := by omega
      have hO := HO.out
      rw [List.take_length] at hO
      obtain ⟨op, oc, hv, hL, hc⟩ := hO.lgs
      subst hv
      rw [List.length_map] at hc ⊢
      have HL := hide hL
      clear hO HO hL
      go_wp2
      exact HR.out _ _ _ HB.out HL.out hc
theorem Src.enc {α : Type} {k : Nat} {enc : α → List Value} (hk : ∀ x, (enc x).length = k) (h0 : 0 < k) {w : World} {p : Option Addr} {l : List α} (h : EncAt k enc w p l) : Src w p l.length k (l.flatMap enc) := by
  refine ⟨flatMap_len hk l, fun hl => ?_⟩
  obtain ⟨b, o, rfl, hc⟩ := h hl
  refine ⟨_, rfl, fun j u hu => ?_⟩
  have hj : j < l.length * k := by rw [← flatMap_len hk l]; exact (List.getElem?_eq_some_iff.1 hu).1
  have hi : j / k < l.length := by rw [Nat.div_lt_iff_lt_mul h0]; exact hj
  have hr : j % k < k := Nat.mod_lt _ h0
  have e : j / k * k + j % k = j := Nat.div_add_mod' j k
  have hx : l[j / k]? = some l[j / k] := List.getElem?_eq_getElem hi
  have h1 := flatMap_at hk l (j / k) (j % k) _ hx hr
  rw [e] at h1
  rw [h1] at hu
  have := hc (j / k) _ hx (j % k) u hu
  rw [Addr.add_lit]
  rw [show o + j = o + j / k * k + j % k by omega]
  exact this
theorem EncAt.take {α : Type} {k : Nat} {enc : α → List Value} {w : World} {p : Option Addr} {l : List α} (h : EncAt k enc w p l) (j : Nat) : EncAt k enc w p (l.take j) := fun hl => by
  obtain ⟨b, o, hp, hc⟩ := h (by rw [List.length_take] at hl; omega)
  refine ⟨b, o, hp, fun i x hx => hc i x ?_⟩
  rw [List.getElem?_take] at hx
  split at hx
  · exact hx
  · cases hx
theorem EncAt.drop {α : Type} {k : Nat} {enc : α → List Value} {w : World} {p : Option Addr} {l : List α} (h : EncAt k enc w p l) (j c : Nat) (hc : l.length ≤ c) : EncAt k enc w (if c = j then p else p.map (·.add (j * k))) (l.drop j) := fun hl => by
  rw [List.length_drop] at hl
  obtain ⟨b, o, rfl, hc'⟩ := h (by omega)
  rw [if_neg (by omega)]
  refine ⟨b, o + j * k, by simp [Addr.add], fun i x hx c v hv => ?_⟩
  rw [List.getElem?_drop] at hx
  have := hc' (j + i) x hx c v hv
  rw [Nat.add_mul, ← Nat.add_assoc] at this
  exact this
theorem IntsAt.dropI {k : IntKind} {w : World} {p : Option Addr} {l : List Int} (h : IntsAt k w p l) (j c : Nat) (hc : l.length ≤ c) : IntsAt k w (if c = j then p else p.map (·.add (j * 1))) (l.drop j) := fun hl => by
  rw [List.length_drop] at hl
  obtain ⟨b, o, rfl, hc'⟩ := h (by omega)
  rw [if_neg (by omega)]
  refine ⟨b, o + j, by simp [Addr.add], fun i x hx => ?_⟩
  rw [List.getElem?_drop] at hx
  have := hc' (j + i) x hx
  rw [← Nat.add_assoc] at this
  exact this
theorem OwnE.evsN {W : World} {base g n gc : Nat} {l : List Evt} (h : OwnE W base (.slice (some ⟨g, 0, none⟩) n gc) l) (hl : l.length = n) : EvsAt W (some ⟨g, 0, none⟩) l := by
  unfold OwnE at h
  rw [hl] at h
  exact EncAt.of_own ev_len (by omega) h
theorem evs_one (l : List Evt) : ∀ u ∈ l.flatMap Evt.cells, u.oneCell' = true := fun u hu => by
  obtain ⟨x, _, hx⟩ := List.mem_flatMap.1 hu
  exact ev_one x u hx
set_option maxRecDepth 100000 in
set_option maxHeartbeats 4000000 in
theorem orderFewer_c (dp : Option Addr) (n dc : Nat) (d : List (List Int)) (ep : Option Addr) (m ec : Nat) (es : List Evt) (lp : Option Addr) (k lc : Nat) (ls : List Lgr) (f1 f2 f3 : Int) (w : World) (R)
    (hn : d.length = n) (hn2 : n ≤ maxLen) (hd : RowsAt w dp d) (_hdc : n ≤ dc) (_h1 : True) (hm : es.length = m) (hm2 : m ≤ maxLen) (he : EvsAt w ep es) (hec : m ≤ ec) (_h2 : True)
    (hk : ls.length = k) (hk2 : k ≤ maxLen) (hl : LgsAt w lp ls) (hlc : k ≤ lc) (_h3 : True) (hf1 : (Lit.int .u8 f1).wf = true) (hf2 : (Lit.int .u8 f2).wf = true) (hf3 : (Lit.int .u8 f3).wf = true)
    (hR : ∀ w', Below w.heap.size w w' → R (.returned (.bool true)) w') :
    Calls Try.prog 5 #[.slice dp n dc, .slice ep m ec, .slice lp k lc, .int .u8 f1, .int .u8 f2, .int .u8 f3] w R := by
  subst hn; subst hm; subst hk
  have HR := hide hR; have Hd := hide hd; have He := hide he; have Hl := hide hl
  have hf10 := bounds_u8 hf1; have hf20 := bounds_u8 hf2; have hf30 := bounds_u8 hf3
  clear hR hd he hl hf1 hf2 hf3
  obtain ⟨i0, hi0, hz0, hz1, hz2⟩ := info_parts Try.info32
  obtain ⟨j0, hj0, hjz0, hjz1, hjz2⟩ := info_parts Try.info3
  go_enter Try.func5, Try.ntmps5
  go_wp2_with (go_at_call 10; refine Stop.out ?_)
  refine Stop.go (head_c _ _ ?_)
  intro w1 hb
  have B1 := hide hb
  clear hb
  cases hfw : fewB d es.length ls.length 0 with
  | false =>
    have Hf := hide hfw
    clear hfw
    go_wp2_with (go_at_call 11; refine Stop.out ?_)
    refine Stop.go (few_c dp ep lp none dc ec lc 0 _ _ _ d _ _ hn2 hm2 hk2 (by decide) (Hd.out.keep (Keeps.of_below B1.out)) ?_)
    rw [Hf.out]
    go_wp2
    exact HR.out _ B1.out
  | true =>
  obtain ⟨l1, l2, l3, l4⟩ := fewB_le hfw
  have Hf := hide hfw
  clear hfw
  by_cases h0 : es.length = 0
  · have hz : ((es.length : Int) == (0 : Int)) = true := by rw [beq_iff_eq]; omega
    clear h0
    go_wp2_with (go_at_call 11; refine Stop.out ?_)
    refine Stop.go (few_c dp ep lp none dc ec lc 0 _ _ _ d _ _ hn2 hm2 hk2 (by decide) (Hd.out.keep (Keeps.of_below B1.out)) ?_)
    rw [Hf.out]
    go_wp2
    exact HR.out _ B1.out
  have hz : ((es.length : Int) == (0 : Int)) = false := by rw [beq_eq_false_iff_ne]; omega
  have hpos : 0 < es.length := by omega
  clear h0
  go_wp2_with (go_at_call 11; refine Stop.out ?_)
  refine Stop.go (few_c dp ep lp none dc ec lc 0 _ _ _ d _ _ hn2 hm2 hk2 (by decide) (Hd.out.keep (Keeps.of_below B1.out)) ?_)
  rw [Hf.out]
  go_wp2_with (go_at_call 12; refine Stop.out ?_)
  refine Stop.go (fitC_c dp ep lp dc ec lc d es ls _ _ hn2 hm2 hk2 (Hd.out.keep (Keeps.of_below B1.out)) (He.out.keep (Keeps.of_below B1.out)) (Hl.out.keep (Keeps.of_below B1.out)) ?_ ?_)
  · intro _ w2 hb
    have B2 := hide (bseq B1.out hb)
    clear hb
    go_wp2
    exact HR.out _ B2.out
  intro x hfit q w2 hb hX
  have HH := hide (fitR_sound hfit)
  have Hxl := hide (show x.length = es.length from HH.out.2.1)
  have HW := hide (show WellP d es ls from HH.out.1)
  have B2 := hide (bseq B1.out hb)
  have X2 := hide hX
  clear hb hX hfit B1
  have hqq : ((es.length : Int) != (es.length : Int)) = false := by simp
  obtain ⟨kk, hkk⟩ : ∃ kk : Nat, f1 % (es.length : Int) = kk := ⟨(f1 % (es.length : Int)).toNat, (Int.toNat_of_nonneg (Int.emod_nonneg _ (show (es.length : Int) ≠ 0 by omega))).symm⟩
  have hkl : kk < es.length := by have := Int.emod_lt_of_pos f1 (show 0 < (es.length : Int) by omega); rw [hkk] at this; omega
  have Hk := hide hkk
  clear hkk
  have Hev := hide (show es[kk]? = some es[kk] from List.getElem?_eq_getElem hkl)
  have hwin := HH.out.2.2.win kk hkl
  rw [evF_at Hev.out] at hwin
  simp only [Evt.ev] at hwin
  generalize es[kk] = e at *
  have E2 := hide (He.out.keep (Keeps.of_below B2.out))
  go_wp2_with (at_builtin; refine Stop.out ?_)
  refine Stop.go ?_
  refine wpList_app _ rfl (.tmp 56) (.tmp 57) 23 rfl w2.heap.size 32 i0 _ 4 48 Try.underlying23 hi0 hz0 hz1 hz2 rfl (by omega) _ 0 [] rfl (World.ownsRow_lit _ #[] 0 (Nat.le_refl _) (by decide) rfl) ep es.length ec (es.flatMap Evt.cells) rfl ((Src.enc ev_len (by omega) E2.out).keep (Keeps.alloc _ _)) (evs_one _) (by unfold maxLen; omega) (by omega) (by simp) ?_
  intro v3 w3 hown hg3
  rw [Nat.zero_add, List.nil_append] at hown
  have B3 := hide (bseq B2.out ((balloc (Below.refl w2.heap.size w2) (.cells #[] 32)).grown hg3 (by simp) (fun k hk => by have hk' : some w2.heap.size = some k := hk; injection hk' with h; omega)))
  have hb23 := hide ((balloc (Below.refl w2.heap.size w2) (.cells #[] 32)).grown hg3 (by simp) (fun k hk => by have hk' : some w2.heap.size = some k := hk; injection hk' with h; omega))
  have X3 := hide (X2.out.keep (Keeps.of_below hb23.out))
  obtain ⟨g, gc, rfl, hgb, hgs⟩ := own_form hown hpos
  have HO := hide (show OwnE w3 w2.heap.size (.slice (some ⟨g, 0, none⟩) es.length gc) es from hown)
  obtain ⟨_, _, e', hp, he', c0, c1, c2, c3⟩ := EncAt.ev (EncAt.of_own ev_len (by omega) hown) hkl
  injection hp with hp; injection hp with e1 e2
  subst e1; subst e2
  have : e' = e := by have := Hev.out; rw [he'] at this; injection this
  subst this
  simp only [Nat.zero_add] at c0 c1 c2 c3
  have hw2s := B2.out.size
  have X2k := X2
  clear hg3 hown he' B2 X2
  have z1 := HO.out.frozenAt (kk * 4 + 1); have z2 := HO.out.frozenAt (kk * 4 + 2)
  rw [Hk.out]
  have hvals : -1000000000 ≤ e'.high ∧ e'.low ≤ 1000000000 := by omega
  by_cases t1 : -1000000 < e'.low
  rotate_left
  · go_wp2_with (go_at_call 12; refine Stop.out ?_)
    have HX := HH
    obtain ⟨es', HOE, Hel, HE⟩ : ∃ es', Hid (OwnE w3 w2.heap.size (.slice (some ⟨g, 0, none⟩) es.length gc) es') ∧ Hid (es'.length = es.length) ∧ Hid (HoldP d es' ls x) := ⟨es, HO, hide rfl, HH⟩
    have BW := B3; have XW := X3
    clear HO HH B3 X3 hb23 hwin Hev c0 c1 c2 c3 z1 z2 E2 hgs hvals Hxl
    have Hfit2 := hide (fitR_some HE.out.1 HE.out.2.2)
    refine Stop.go (fitN_c dp (some ⟨g, 0, none⟩) lp dc gc lc d es' ls _ _ rfl Hel.out rfl (by omega) (by omega) (by omega) (Hd.out.keep (Keeps.of_below BW.out)) (OwnE.evsN HOE.out Hel.out) (Hl.out.keep (Keeps.of_below BW.out)) ?_ ?_)
    · intro hnone
      have := Hfit2.out; rw [hnone] at this; cases this
    intro y _ c5 c6 w5 hb _
    have B5 := hide (bseq BW.out hb)
    have X5 := hide (XW.out.keep (Keeps.of_below hb))
    have HOE5 := hide (HOE.out.next hb)
    clear hb BW XW HOE Hfit2
    go_wp2_with (go_at_call 14; refine Stop.out ?_)
    refine Stop.go (holdsN_c dp (some ⟨g, 0, none⟩) lp q dc gc lc es.length d es' ls x true _ _ rfl Hel.out rfl (by rw [HE.out.2.1]; exact Hel.out) (by omega) (by omega) (by omega) (by omega) hlc (Hd.out.keep (Keeps.of_below B5.out)) (OwnE.evsN HOE5.out Hel.out) (Hl.out.keep (Keeps.of_below B5.out)) X5.out (holdB_true.2 HE.out) ?_)
    intro w6 hb
    have B6 := hide (bseq B5.out hb)
    have X6 := hide (X5.out.keep (Keeps.of_below hb))
    clear hb B5 X5 HOE5 HE Hel
    cases hin : inL ls kk with
    | true =>
      have Hin := hide hin
      clear hin
      go_wp2_with (go_at_call 17; refine Stop.out ?_)
      refine Stop.go (inLeg_c lp lc ls kk _ _ (by omega) (Hl.out.keep (Keeps.of_below B6.out)) ?_)
      rw [Hin.out]
      go_wp2
      exact HR.out _ B6.out
    | false =>
      have Hin := hide hin
      clear hin
      go_wp2_with (go_at_call 17; refine Stop.out ?_)
      refine Stop.go (inLeg_c lp lc ls kk _ _ (by omega) (Hl.out.keep (Keeps.of_below B6.out)) ?_)
      rw [Hin.out]
      have HL := hide (hold_less HX.out hkl Hin.out)
      have s1 := fun W => run_slice_to (P := Try.prog) W 23 32 Try.underlying23 i0 hi0 ep es.length ec kk (by omega)
      have s2 := fun W => run_slice_from (P := Try.prog) W 23 32 Try.underlying23 i0 hi0 4 hz1 ep es.length ec (kk + 1) (by omega)
      have s3 := fun W => run_slice_to (P := Try.prog) W 25 3 Try.underlying25 j0 hj0 q es.length es.length kk (by omega)
      have s4 := fun W => run_slice_from (P := Try.prog) W 25 3 Try.underlying25 j0 hj0 1 hjz1 q es.length es.length (kk + 1) (by omega)
      have E6 := He.out.keep (Keeps.of_below B6.out)
      have SA := hide (Src.enc ev_len (by omega) (E6.take kk))
      have SB := hide (Src.enc ev_len (by omega) (E6.drop (kk + 1) ec hec))
      have SC := hide (Src.ints (n := kk) (by rw [List.length_take, HX.out.2.1]; omega) (X6.out.take kk))
      have SD := hide (Src.ints (n := es.length - (kk + 1)) (by rw [List.length_drop, HX.out.2.1]) (IntsAt.dropI X6.out (kk + 1) es.length (by rw [HX.out.2.1]; omega)))
      have hkt : (es.take kk).length = kk := by rw [List.length_take]; omega
      have hkd : (es.drop (kk + 1)).length = es.length - (kk + 1) := List.length_drop
      rw [hkt] at SA
      rw [hkd] at SB
      have Hld := hide (len_skip es kk hkl)
      have Hlt := hide (len_skip x kk (by rw [HX.out.2.1]; exact hkl))
      have Hxn := hide HX.out.2.1
      clear E6 hkt hkd
      have s2' : ∃ pb : Option Addr, pb = (if ec = kk + 1 then ep else ep.map (·.add ((kk + 1) * 4))) := ⟨_, rfl⟩
      obtain ⟨pb, hpb⟩ := s2'
      have s4' : ∃ pd : Option Addr, pd = (if es.length = kk + 1 then q else q.map (·.add ((kk + 1) * 1))) := ⟨_, rfl⟩
      obtain ⟨pd, hpd⟩ := s4'
      rw [← hpb] at SB
      rw [← hpd] at SD
      simp only [← hpb, ← hpd] at s2 s4
      clear hpb hpd
      rw [show ((kk + 1 : Nat) : Int) = (kk : Int) + 1 by omega] at s2 s4
      have S1 := hide s1; have S2 := hide s2; have S3 := hide s3; have S4 := hide s4
      clear s1 s2 s3 s4
      have hw6 := B6.out.size
      have wk : IntKind.i64.wrap ((kk : Int) + 1) = (kk : Int) + 1 := IntWalk.i64_in _ (by omega)
      have s1 := S1.out; have s2 := S2.out
      go_wp2
      go_region_law (first
        | (refine step_app rfl (.tmp 118) (.tmp 121) 23 rfl w6.heap.size 32 i0 _ 4 48 Try.underlying23 hi0 hz0 hz1 hz2 rfl (by omega) _ 0 [] rfl (own_below (World.ownsRow_lit w6 #[] 0 (Nat.le_refl _) (by decide) rfl) ((Below.refl _ _).drew)) ep kk ec ((es.take kk).flatMap Evt.cells) rfl (Src.keep SA.out ((Keeps.alloc w6 _).trans (Keeps.drew _))) (evs_one _) (by unfold maxLen; omega) (by omega) (by simp) ?_
           intro v7 w7 o7 g7
           rw [Nat.zero_add, List.nil_append] at o7
           have b7 := ((balloc (Below.refl w6.heap.size w6) (.cells #[] 32)).drew).grown g7 (by simp) (fun k hk => by have hk' : some w6.heap.size = some k := hk; injection hk' with h; omega))
        | (refine step_app rfl (.tmp 122) (.tmp 126) 23 rfl w6.heap.size 32 i0 _ 4 48 Try.underlying23 hi0 hz0 hz1 hz2 rfl (by omega) v7 kk ((es.take kk).flatMap Evt.cells) rfl o7 pb (es.length - (kk + 1)) (ec - (kk + 1)) ((es.drop (kk + 1)).flatMap Evt.cells) rfl (Src.keep SB.out (Keeps.of_below b7)) (evs_one _) (by unfold maxLen; omega) (by omega) (by have := b7.size; simpa using this) ?_
           intro v8 w8 o8 g8))
      have b8 := b7.grown g8 b7.size (fun k hk => (o7.lt k hk).1)
      have O8 := hide (show OwnE w8 w6.heap.size v8 (es.take kk ++ es.drop (kk + 1)) by
        unfold OwnE
        rw [Hld.out, List.flatMap_append]
        rw [show es.length - 1 = kk + (es.length - (kk + 1)) by omega]
        exact o8)
      have B8 := hide (bseq B6.out b8)
      have b8s := b8.size
      have SC8 := hide (SC.out.keep (Keeps.of_below b8)); have SD8 := hide (SD.out.keep (Keeps.of_below b8))
      clear o7 g7 b7 o8 g8 b8 SA SB s1 s2 SC SD X6 B6
      have s3 := S3.out; have s4 := S4.out
      go_wp2
      go_region_law (first
        | (refine step_app rfl (.tmp 128) (.tmp 131) 25 rfl w8.heap.size 3 j0 _ 1 8 Try.underlying25 hj0 hjz0 hjz1 hjz2 rfl (by omega) _ 0 [] rfl (own_below (World.ownsRow_lit w8 #[] 0 (Nat.le_refl _) (by decide) rfl) ((Below.refl _ _).drew)) q kk es.length ((x.take kk).map (Value.int .i64)) rfl (Src.keep SC8.out ((Keeps.alloc w8 _).trans (Keeps.drew _))) (ints_oneCell .i64 _) (by unfold maxLen; omega) (by omega) (by simp) ?_
           intro v9 w9 o9 g9
           rw [Nat.zero_add, List.nil_append] at o9
           have b9 := ((balloc (Below.refl w8.heap.size w8) (.cells #[] 3)).drew).grown g9 (by simp) (fun k hk => by have hk' : some w8.heap.size = some k := hk; injection hk' with h; omega))
        | (refine step_app rfl (.tmp 132) (.tmp 136) 25 rfl w8.heap.size 3 j0 _ 1 8 Try.underlying25 hj0 hjz0 hjz1 hjz2 rfl (by omega) v9 kk ((x.take kk).map (Value.int .i64)) rfl o9 pd (es.length - (kk + 1)) (es.length - (kk + 1)) ((x.drop (kk + 1)).map (Value.int .i64)) rfl (Src.keep SD8.out (Keeps.of_below b9)) (ints_oneCell .i64 _) (by unfold maxLen; omega) (by omega) (by have := b9.size; simpa using this) ?_
           intro v10 w10 o10 g10))
      have b10 := b9.grown g10 b9.size (fun k hk => (o9.lt k hk).1)
      have O10 := hide (show OwnT w10 w8.heap.size v10 (x.take kk ++ x.drop (kk + 1)) by
        unfold OwnT
        rw [Hlt.out, List.map_append, Hxn.out]
        rw [show es.length - 1 = kk + (es.length - (kk + 1)) by omega]
        exact o10)
      have P10 := hide (O8.out.next b10)
      have B10 := hide (bseq B8.out b10)
      clear o9 g9 b9 o10 g10 b10 s3 s4 SC8 SD8 B8 O8
      obtain ⟨rp, rc, hrv, hR1⟩ := P10.out.evs
      obtain ⟨tp, tc, htv, hT1⟩ := O10.out.ints
      subst hrv; subst htv
      have HRs := hide (show (es.take kk ++ es.drop (kk + 1)).length = es.length - 1 from Hld.out)
      have HTs := hide (show (x.take kk ++ x.drop (kk + 1)).length = es.length - 1 by rw [Hlt.out, Hxn.out])
      have R10 := hide hR1; have T10 := hide hT1
      have hHL := hide HL.out
      clear hR1 hT1 P10 O10
      rw [HRs.out, HTs.out]
      generalize es.take kk ++ es.drop (kk + 1) = rs at *
      generalize x.take kk ++ x.drop (kk + 1) = xs at *
      have Hlow := hide (show (ls.map (lowG kk)).length = ls.length from List.length_map _)
      have Hgin := hide (show ∀ g ∈ ls, 0 ≤ g.src ∧ g.src ≤ 1000 ∧ 0 ≤ g.dst ∧ g.dst ≤ 1000 from fun g hg => by
        have := HW.out.leg g hg
        omega)
      have Hfit3 := hide (fitR_some hHL.out.1 hHL.out.2.2)
      go_wp2_with (go_at_call 18; refine Stop.out ?_)
      refine Stop.go (lower_c lp lc ls kk _ _ (by omega) (by omega) Hgin.out (Hl.out.keep (Keeps.of_below B10.out)) ?_)
      intro p11 c11 w11 hb hL11 _
      have B11 := hide (bseq B10.out hb); have R11 := hide (R10.out.keep (Keeps.of_below hb)); have T11 := hide (T10.out.keep (Keeps.of_below hb)); have L11 := hide hL11
      clear hb hL11 B10 R10 T10
      go_wp2_with (go_at_call 12; refine Stop.out ?_)
      refine Stop.go (fitN_c dp rp p11 dc rc c11 d rs (ls.map (lowG kk)) _ _ rfl HRs.out Hlow.out (by omega) (by omega) (by omega) (Hd.out.keep (Keeps.of_below B11.out)) R11.out L11.out ?_ ?_)
      · intro hnone
        have := Hfit3.out; rw [hnone] at this; cases this
      intro y2 _ c12 c13 w12 hb _
      have B12 := hide (bseq B11.out hb); have R12 := hide (R11.out.keep (Keeps.of_below hb)); have T12 := hide (T11.out.keep (Keeps.of_below hb))
      clear hb B11 R11 T11 L11 Hfit3
      go_wp2_with (go_at_call 18; refine Stop.out ?_)
      refine Stop.go (lower_c lp lc ls kk _ _ (by omega) (by omega) Hgin.out (Hl.out.keep (Keeps.of_below B12.out)) ?_)
      intro p13 c13' w13 hb hL13 hc13
      have B13 := hide (bseq B12.out hb); have R13 := hide (R12.out.keep (Keeps.of_below hb)); have T13 := hide (T12.out.keep (Keeps.of_below hb)); have L13 := hide hL13
      clear hb hL13 B12 R12 T12
      go_wp2_with (go_at_call 14; refine Stop.out ?_)
      refine Stop.go (holdsN_c dp rp p13 tp dc rc c13' tc d rs (ls.map (lowG kk)) xs true _ _ rfl HRs.out Hlow.out HTs.out (by omega) (by omega) (by omega) (by omega) hc13 (Hd.out.keep (Keeps.of_below B13.out)) R13.out L13.out T13.out (holdB_true.2 hHL.out) ?_)
      intro w14 hb
      have B14 := hide (bseq B13.out hb)
      clear hb
      go_wp2
      exact HR.out _ B14.out
  by_cases t2 : e'.high < 2000000
  rotate_left
  · go_wp2_with (go_at_call 12; refine Stop.out ?_)
    have HX := HH
    obtain ⟨es', HOE, Hel, HE⟩ : ∃ es', Hid (OwnE w3 w2.heap.size (.slice (some ⟨g, 0, none⟩) es.length gc) es') ∧ Hid (es'.length = es.length) ∧ Hid (HoldP d es' ls x) := ⟨es, HO, hide rfl, HH⟩
    have BW := B3; have XW := X3
    clear HO HH B3 X3 hb23 hwin Hev c0 c1 c2 c3 z1 z2 E2 hgs hvals Hxl
    have Hfit2 := hide (fitR_some HE.out.1 HE.out.2.2)
    refine Stop.go (fitN_c dp (some ⟨g, 0, none⟩) lp dc gc lc d es' ls _ _ rfl Hel.out rfl (by omega) (by omega) (by omega) (Hd.out.keep (Keeps.of_below BW.out)) (OwnE.evsN HOE.out Hel.out) (Hl.out.keep (Keeps.of_below BW.out)) ?_ ?_)
    · intro hnone
      have := Hfit2.out; rw [hnone] at this; cases this
    intro y _ c5 c6 w5 hb _
    have B5 := hide (bseq BW.out hb)
    have X5 := hide (XW.out.keep (Keeps.of_below hb))
    have HOE5 := hide (HOE.out.next hb)
    clear hb BW XW HOE Hfit2
    go_wp2_with (go_at_call 14; refine Stop.out ?_)
    refine Stop.go (holdsN_c dp (some ⟨g, 0, none⟩) lp q dc gc lc es.length d es' ls x true _ _ rfl Hel.out rfl (by rw [HE.out.2.1]; exact Hel.out) (by omega) (by omega) (by omega) (by omega) hlc (Hd.out.keep (Keeps.of_below B5.out)) (OwnE.evsN HOE5.out Hel.out) (Hl.out.keep (Keeps.of_below B5.out)) X5.out (holdB_true.2 HE.out) ?_)
    intro w6 hb
    have B6 := hide (bseq B5.out hb)
    have X6 := hide (X5.out.keep (Keeps.of_below hb))
    clear hb B5 X5 HOE5 HE Hel
    cases hin : inL ls kk with
    | true =>
      have Hin := hide hin
      clear hin
      go_wp2_with (go_at_call 17; refine Stop.out ?_)
      refine Stop.go (inLeg_c lp lc ls kk _ _ (by omega) (Hl.out.keep (Keeps.of_below B6.out)) ?_)
      rw [Hin.out]
      go_wp2
      exact HR.out _ B6.out
    | false =>
      have Hin := hide hin
      clear hin
      go_wp2_with (go_at_call 17; refine Stop.out ?_)
      refine Stop.go (inLeg_c lp lc ls kk _ _ (by omega) (Hl.out.keep (Keeps.of_below B6.out)) ?_)
      rw [Hin.out]
      have HL := hide (hold_less HX.out hkl Hin.out)
      have s1 := fun W => run_slice_to (P := Try.prog) W 23 32 Try.underlying23 i0 hi0 ep es.length ec kk (by omega)
      have s2 := fun W => run_slice_from (P := Try.prog) W 23 32 Try.underlying23 i0 hi0 4 hz1 ep es.length ec (kk + 1) (by omega)
      have s3 := fun W => run_slice_to (P := Try.prog) W 25 3 Try.underlying25 j0 hj0 q es.length es.length kk (by omega)
      have s4 := fun W => run_slice_from (P := Try.prog) W 25 3 Try.underlying25 j0 hj0 1 hjz1 q es.length es.length (kk + 1) (by omega)
      have E6 := He.out.keep (Keeps.of_below B6.out)
      have SA := hide (Src.enc ev_len (by omega) (E6.take kk))
      have SB := hide (Src.enc ev_len (by omega) (E6.drop (kk + 1) ec hec))
      have SC := hide (Src.ints (n := kk) (by rw [List.length_take, HX.out.2.1]; omega) (X6.out.take kk))
      have SD := hide (Src.ints (n := es.length - (kk + 1)) (by rw [List.length_drop, HX.out.2.1]) (IntsAt.dropI X6.out (kk + 1) es.length (by rw [HX.out.2.1]; omega)))
      have hkt : (es.take kk).length = kk := by rw [List.length_take]; omega
      have hkd : (es.drop (kk + 1)).length = es.length - (kk + 1) := List.length_drop
      rw [hkt] at SA
      rw [hkd] at SB
      have Hld := hide (len_skip es kk hkl)
      have Hlt := hide (len_skip x kk (by rw [HX.out.2.1]; exact hkl))
      have Hxn := hide HX.out.2.1
      clear E6 hkt hkd
      have s2' : ∃ pb : Option Addr, pb = (if ec = kk + 1 then ep else ep.map (·.add ((kk + 1) * 4))) := ⟨_, rfl⟩
      obtain ⟨pb, hpb⟩ := s2'
      have s4' : ∃ pd : Option Addr, pd = (if es.length = kk + 1 then q else q.map (·.add ((kk + 1) * 1))) := ⟨_, rfl⟩
      obtain ⟨pd, hpd⟩ := s4'
      rw [← hpb] at SB
      rw [← hpd] at SD
      simp only [← hpb, ← hpd] at s2 s4
      clear hpb hpd
      rw [show ((kk + 1 : Nat) : Int) = (kk : Int) + 1 by omega] at s2 s4
      have S1 := hide s1; have S2 := hide s2; have S3 := hide s3; have S4 := hide s4
      clear s1 s2 s3 s4
      have hw6 := B6.out.size
      have wk : IntKind.i64.wrap ((kk : Int) + 1) = (kk : Int) + 1 := IntWalk.i64_in _ (by omega)
      have s1 := S1.out; have s2 := S2.out
      go_wp2
      go_region_law (first
        | (refine step_app rfl (.tmp 118) (.tmp 121) 23 rfl w6.heap.size 32 i0 _ 4 48 Try.underlying23 hi0 hz0 hz1 hz2 rfl (by omega) _ 0 [] rfl (own_below (World.ownsRow_lit w6 #[] 0 (Nat.le_refl _) (by decide) rfl) ((Below.refl _ _).drew)) ep kk ec ((es.take kk).flatMap Evt.cells) rfl (Src.keep SA.out ((Keeps.alloc w6 _).trans (Keeps.drew _))) (evs_one _) (by unfold maxLen; omega) (by omega) (by simp) ?_
           intro v7 w7 o7 g7
           rw [Nat.zero_add, List.nil_append] at o7
           have b7 := ((balloc (Below.refl w6.heap.size w6) (.cells #[] 32)).drew).grown g7 (by simp) (fun k hk => by have hk' : some w6.heap.size = some k := hk; injection hk' with h; omega))
        | (refine step_app rfl (.tmp 122) (.tmp 126) 23 rfl w6.heap.size 32 i0 _ 4 48 Try.underlying23 hi0 hz0 hz1 hz2 rfl (by omega) v7 kk ((es.take kk).flatMap Evt.cells) rfl o7 pb (es.length - (kk + 1)) (ec - (kk + 1)) ((es.drop (kk + 1)).flatMap Evt.cells) rfl (Src.keep SB.out (Keeps.of_below b7)) (evs_one _) (by unfold maxLen; omega) (by omega) (by have := b7.size; simpa using this) ?_
           intro v8 w8 o8 g8))
      have b8 := b7.grown g8 b7.size (fun k hk => (o7.lt k hk).1)
      have O8 := hide (show OwnE w8 w6.heap.size v8 (es.take kk ++ es.drop (kk + 1)) by
        unfold OwnE
        rw [Hld.out, List.flatMap_append]
        rw [show es.length - 1 = kk + (es.length - (kk + 1)) by omega]
        exact o8)
      have B8 := hide (bseq B6.out b8)
      have b8s := b8.size
      have SC8 := hide (SC.out.keep (Keeps.of_below b8)); have SD8 := hide (SD.out.keep (Keeps.of_below b8))
      clear o7 g7 b7 o8 g8 b8 SA SB s1 s2 SC SD X6 B6
      have s3 := S3.out; have s4 := S4.out
      go_wp2
      go_region_law (first
        | (refine step_app rfl (.tmp 128) (.tmp 131) 25 rfl w8.heap.size 3 j0 _ 1 8 Try.underlying25 hj0 hjz0 hjz1 hjz2 rfl (by omega) _ 0 [] rfl (own_below (World.ownsRow_lit w8 #[] 0 (Nat.le_refl _) (by decide) rfl) ((Below.refl _ _).drew)) q kk es.length ((x.take kk).map (Value.int .i64)) rfl (Src.keep SC8.out ((Keeps.alloc w8 _).trans (Keeps.drew _))) (ints_oneCell .i64 _) (by unfold maxLen; omega) (by omega) (by simp) ?_
           intro v9 w9 o9 g9
           rw [Nat.zero_add, List.nil_append] at o9
           have b9 := ((balloc (Below.refl w8.heap.size w8) (.cells #[] 3)).drew).grown g9 (by simp) (fun k hk => by have hk' : some w8.heap.size = some k := hk; injection hk' with h; omega))
        | (refine step_app rfl (.tmp 132) (.tmp 136) 25 rfl w8.heap.size 3 j0 _ 1 8 Try.underlying25 hj0 hjz0 hjz1 hjz2 rfl (by omega) v9 kk ((x.take kk).map (Value.int .i64)) rfl o9 pd (es.length - (kk + 1)) (es.length - (kk + 1)) ((x.drop (kk + 1)).map (Value.int .i64)) rfl (Src.keep SD8.out (Keeps.of_below b9)) (ints_oneCell .i64 _) (by unfold maxLen; omega) (by omega) (by have := b9.size; simpa using this) ?_
           intro v10 w10 o10 g10))
      have b10 := b9.grown g10 b9.size (fun k hk => (o9.lt k hk).1)
      have O10 := hide (show OwnT w10 w8.heap.size v10 (x.take kk ++ x.drop (kk + 1)) by
        unfold OwnT
        rw [Hlt.out, List.map_append, Hxn.out]
        rw [show es.length - 1 = kk + (es.length - (kk + 1)) by omega]
        exact o10)
      have P10 := hide (O8.out.next b10)
      have B10 := hide (bseq B8.out b10)
      clear o9 g9 b9 o10 g10 b10 s3 s4 SC8 SD8 B8 O8
      obtain ⟨rp, rc, hrv, hR1⟩ := P10.out.evs
      obtain ⟨tp, tc, htv, hT1⟩ := O10.out.ints
      subst hrv; subst htv
      have HRs := hide (show (es.take kk ++ es.drop (kk + 1)).length = es.length - 1 from Hld.out)
      have HTs := hide (show (x.take kk ++ x.drop (kk + 1)).length = es.length - 1 by rw [Hlt.out, Hxn.out])
      have R10 := hide hR1; have T10 := hide hT1
      have hHL := hide HL.out
      clear hR1 hT1 P10 O10
      rw [HRs.out, HTs.out]
      generalize es.take kk ++ es.drop (kk + 1) = rs at *
      generalize x.take kk ++ x.drop (kk + 1) = xs at *
      have Hlow := hide (show (ls.map (lowG kk)).length = ls.length from List.length_map _)
      have Hgin := hide (show ∀ g ∈ ls, 0 ≤ g.src ∧ g.src ≤ 1000 ∧ 0 ≤ g.dst ∧ g.dst ≤ 1000 from fun g hg => by
        have := HW.out.leg g hg
        omega)
      have Hfit3 := hide (fitR_some hHL.out.1 hHL.out.2.2)
      go_wp2_with (go_at_call 18; refine Stop.out ?_)
      refine Stop.go (lower_c lp lc ls kk _ _ (by omega) (by omega) Hgin.out (Hl.out.keep (Keeps.of_below B10.out)) ?_)
      intro p11 c11 w11 hb hL11 _
      have B11 := hide (bseq B10.out hb); have R11 := hide (R10.out.keep (Keeps.of_below hb)); have T11 := hide (T10.out.keep (Keeps.of_below hb)); have L11 := hide hL11
      clear hb hL11 B10 R10 T10
      go_wp2_with (go_at_call 12; refine Stop.out ?_)
      refine Stop.go (fitN_c dp rp p11 dc rc c11 d rs (ls.map (lowG kk)) _ _ rfl HRs.out Hlow.out (by omega) (by omega) (by omega) (Hd.out.keep (Keeps.of_below B11.out)) R11.out L11.out ?_ ?_)
      · intro hnone
        have := Hfit3.out; rw [hnone] at this; cases this
      intro y2 _ c12 c13 w12 hb _
      have B12 := hide (bseq B11.out hb); have R12 := hide (R11.out.keep (Keeps.of_below hb)); have T12 := hide (T11.out.keep (Keeps.of_below hb))
      clear hb B11 R11 T11 L11 Hfit3
      go_wp2_with (go_at_call 18; refine Stop.out ?_)
      refine Stop.go (lower_c lp lc ls kk _ _ (by omega) (by omega) Hgin.out (Hl.out.keep (Keeps.of_below B12.out)) ?_)
      intro p13 c13' w13 hb hL13 hc13
      have B13 := hide (bseq B12.out hb); have R13 := hide (R12.out.keep (Keeps.of_below hb)); have T13 := hide (T12.out.keep (Keeps.of_below hb)); have L13 := hide hL13
      clear hb hL13 B12 R12 T12
      go_wp2_with (go_at_call 14; refine Stop.out ?_)
      refine Stop.go (holdsN_c dp rp p13 tp dc rc c13' tc d rs (ls.map (lowG kk)) xs true _ _ rfl HRs.out Hlow.out HTs.out (by omega) (by omega) (by omega) (by omega) hc13 (Hd.out.keep (Keeps.of_below B13.out)) R13.out L13.out T13.out (holdB_true.2 hHL.out) ?_)
      intro w14 hb
      have B14 := hide (bseq B13.out hb)
      clear hb
      go_wp2
      exact HR.out _ B14.out
  · go_wp2_with (go_at_call 12; refine Stop.out ?_)
    have HX := HH
    have hst : OwnE ((w3.setCell ⟨g, kk * 4 + 1, none⟩ (.int .i64 (e'.low - f2))).setCell ⟨g, kk * 4 + 2, none⟩ (.int .i64 (e'.high + f3))) w2.heap.size (.slice (some ⟨g, 0, none⟩) es.length gc) (es.set kk ⟨e'.office, e'.low - f2, e'.high + f3, e'.np, e'.nn, e'.nc⟩) := by
      have h1 := (HO.out.stored (kk * 4 + 1) (.int .i64 (e'.low - f2))).1
      have h2 := (h1.stored (kk * 4 + 2) (.int .i64 (e'.high + f3))).1
      rw [flat_put ev_len es kk 1 e' ⟨e'.office, e'.low - f2, e'.high, e'.np, e'.nn, e'.nc⟩ _ Hev.out (by omega) rfl] at h2
      rw [flat_put ev_len _ kk 2 ⟨e'.office, e'.low - f2, e'.high, e'.np, e'.nn, e'.nc⟩ ⟨e'.office, e'.low - f2, e'.high + f3, e'.np, e'.nn, e'.nc⟩ _ (by simp [hkl]) (by omega) rfl, List.set_set] at h2
      unfold OwnE
      rw [List.length_set]
      exact h2
    have hbs := ((B3.out.setCell (p := ⟨g, kk * 4 + 1, none⟩) (by show w.heap.size ≤ g; omega) (.int .i64 (e'.low - f2))).setCell (p := ⟨g, kk * 4 + 2, none⟩) (by show w.heap.size ≤ g; omega) (.int .i64 (e'.high + f3)))
    have hbx := ((hb23.out.setCell (p := ⟨g, kk * 4 + 1, none⟩) (by show w2.heap.size ≤ g; omega) (.int .i64 (e'.low - f2))).setCell (p := ⟨g, kk * 4 + 2, none⟩) (by show w2.heap.size ≤ g; omega) (.int .i64 (e'.high + f3)))
    obtain ⟨es', HOE, Hel, HE⟩ : ∃ es', Hid (OwnE ((w3.setCell ⟨g, kk * 4 + 1, none⟩ (.int .i64 (e'.low - f2))).setCell ⟨g, kk * 4 + 2, none⟩ (.int .i64 (e'.high + f3))) w2.heap.size (.slice (some ⟨g, 0, none⟩) es.length gc) es') ∧ Hid (es'.length = es.length) ∧ Hid (HoldP d es' ls x) :=
      ⟨_, hst, hide (List.length_set ..), hide (hold_set HH.out Hev.out rfl (by show e'.low - f2 ≤ e'.low; omega) (by show e'.high ≤ e'.high + f3; omega))⟩
    have BW := hide hbs; have XW := hide (X2k.out.keep (Keeps.of_below hbx))
    clear hst hbs hbx
    generalize (w3.setCell ⟨g, kk * 4 + 1, none⟩ (.int .i64 (e'.low - f2))).setCell ⟨g, kk * 4 + 2, none⟩ (.int .i64 (e'.high + f3)) = W at *
    clear HO HH B3 X3 hb23 hwin Hev c0 c1 c2 c3 z1 z2 E2 hgs hvals Hxl
    have Hfit2 := hide (fitR_some HE.out.1 HE.out.2.2)
    refine Stop.go (fitN_c dp (some ⟨g, 0, none⟩) lp dc gc lc d es' ls _ _ rfl Hel.out rfl (by omega) (by omega) (by omega) (Hd.out.keep (Keeps.of_below BW.out)) (OwnE.evsN HOE.out Hel.out) (Hl.out.keep (Keeps.of_below BW.out)) ?_ ?_)
    · intro hnone
      have := Hfit2.out; rw [hnone] at this; cases this
    intro y _ c5 c6 w5 hb _
    have B5 := hide (bseq BW.out hb)
    have X5 := hide (XW.out.keep (Keeps.of_below hb))
    have HOE5 := hide (HOE.out.next hb)
    clear hb BW XW HOE Hfit2
    go_wp2_with (go_at_call 14; refine Stop.out ?_)
    refine Stop.go (holdsN_c dp (some ⟨g, 0, none⟩) lp q dc gc lc es.length d es' ls x true _ _ rfl Hel.out rfl (by rw [HE.out.2.1]; exact Hel.out) (by omega) (by omega) (by omega) (by omega) hlc (Hd.out.keep (Keeps.of_below B5.out)) (OwnE.evsN HOE5.out Hel.out) (Hl.out.keep (Keeps.of_below B5.out)) X5.out (holdB_true.2 HE.out) ?_)
    intro w6 hb
    have B6 := hide (bseq B5.out hb)
    have X6 := hide (X5.out.keep (Keeps.of_below hb))
    clear hb B5 X5 HOE5 HE Hel
    cases hin : inL ls kk with
    | true =>
      have Hin := hide hin
      clear hin
      go_wp2_with (go_at_call 17; refine Stop.out ?_)
      refine Stop.go (inLeg_c lp lc ls kk _ _ (by omega) (Hl.out.keep (Keeps.of_below B6.out)) ?_)
      rw [Hin.out]
      go_wp2
      exact HR.out _ B6.out
    | false =>
      have Hin := hide hin
      clear hin
      go_wp2_with (go_at_call 17; refine Stop.out ?_)
      refine Stop.go (inLeg_c lp lc ls kk _ _ (by omega) (Hl.out.keep (Keeps.of_below B6.out)) ?_)
      rw [Hin.out]
      have HL := hide (hold_less HX.out hkl Hin.out)
      have s1 := fun W => run_slice_to (P := Try.prog) W 23 32 Try.underlying23 i0 hi0 ep es.length ec kk (by omega)
      have s2 := fun W => run_slice_from (P := Try.prog) W 23 32 Try.underlying23 i0 hi0 4 hz1 ep es.length ec (kk + 1) (by omega)
      have s3 := fun W => run_slice_to (P := Try.prog) W 25 3 Try.underlying25 j0 hj0 q es.length es.length kk (by omega)
      have s4 := fun W => run_slice_from (P := Try.prog) W 25 3 Try.underlying25 j0 hj0 1 hjz1 q es.length es.length (kk + 1) (by omega)
      have E6 := He.out.keep (Keeps.of_below B6.out)
      have SA := hide (Src.enc ev_len (by omega) (E6.take kk))
      have SB := hide (Src.enc ev_len (by omega) (E6.drop (kk + 1) ec hec))
      have SC := hide (Src.ints (n := kk) (by rw [List.length_take, HX.out.2.1]; omega) (X6.out.take kk))
      have SD := hide (Src.ints (n := es.length - (kk + 1)) (by rw [List.length_drop, HX.out.2.1]) (IntsAt.dropI X6.out (kk + 1) es.length (by rw [HX.out.2.1]; omega)))
      have hkt : (es.take kk).length = kk := by rw [List.length_take]; omega
      have hkd : (es.drop (kk + 1)).length = es.length - (kk + 1) := List.length_drop
      rw [hkt] at SA
      rw [hkd] at SB
      have Hld := hide (len_skip es kk hkl)
      have Hlt := hide (len_skip x kk (by rw [HX.out.2.1]; exact hkl))
      have Hxn := hide HX.out.2.1
      clear E6 hkt hkd
      have s2' : ∃ pb : Option Addr, pb = (if ec = kk + 1 then ep else ep.map (·.add ((kk + 1) * 4))) := ⟨_, rfl⟩
      obtain ⟨pb, hpb⟩ := s2'
      have s4' : ∃ pd : Option Addr, pd = (if es.length = kk + 1 then q else q.map (·.add ((kk + 1) * 1))) := ⟨_, rfl⟩
      obtain ⟨pd, hpd⟩ := s4'
      rw [← hpb] at SB
      rw [← hpd] at SD
      simp only [← hpb, ← hpd] at s2 s4
      clear hpb hpd
      rw [show ((kk + 1 : Nat) : Int) = (kk : Int) + 1 by omega] at s2 s4
      have S1 := hide s1; have S2 := hide s2; have S3 := hide s3; have S4 := hide s4
      clear s1 s2 s3 s4
      have hw6 := B6.out.size
      have wk : IntKind.i64.wrap ((kk : Int) + 1) = (kk : Int) + 1 := IntWalk.i64_in _ (by omega)
      have s1 := S1.out; have s2 := S2.out
      go_wp2
      go_region_law (first
        | (refine step_app rfl (.tmp 118) (.tmp 121) 23 rfl w6.heap.size 32 i0 _ 4 48 Try.underlying23 hi0 hz0 hz1 hz2 rfl (by omega) _ 0 [] rfl (own_below (World.ownsRow_lit w6 #[] 0 (Nat.le_refl _) (by decide) rfl) ((Below.refl _ _).drew)) ep kk ec ((es.take kk).flatMap Evt.cells) rfl (Src.keep SA.out ((Keeps.alloc w6 _).trans (Keeps.drew _))) (evs_one _) (by unfold maxLen; omega) (by omega) (by simp) ?_
           intro v7 w7 o7 g7
           rw [Nat.zero_add, List.nil_append] at o7
           have b7 := ((balloc (Below.refl w6.heap.size w6) (.cells #[] 32)).drew).grown g7 (by simp) (fun k hk => by have hk' : some w6.heap.size = some k := hk; injection hk' with h; omega))
        | (refine step_app rfl (.tmp 122) (.tmp 126) 23 rfl w6.heap.size 32 i0 _ 4 48 Try.underlying23 hi0 hz0 hz1 hz2 rfl (by omega) v7 kk ((es.take kk).flatMap Evt.cells) rfl o7 pb (es.length - (kk + 1)) (ec - (kk + 1)) ((es.drop (kk + 1)).flatMap Evt.cells) rfl (Src.keep SB.out (Keeps.of_below b7)) (evs_one _) (by unfold maxLen; omega) (by omega) (by have := b7.size; simpa using this) ?_
           intro v8 w8 o8 g8))
      have b8 := b7.grown g8 b7.size (fun k hk => (o7.lt k hk).1)
      have O8 := hide (show OwnE w8 w6.heap.size v8 (es.take kk ++ es.drop (kk + 1)) by
        unfold OwnE
        rw [Hld.out, List.flatMap_append]
        rw [show es.length - 1 = kk + (es.length - (kk + 1)) by omega]
        exact o8)
      have B8 := hide (bseq B6.out b8)
      have b8s := b8.size
      have SC8 := hide (SC.out.keep (Keeps.of_below b8)); have SD8 := hide (SD.out.keep (Keeps.of_below b8))
      clear o7 g7 b7 o8 g8 b8 SA SB s1 s2 SC SD X6 B6
      have s3 := S3.out; have s4 := S4.out
      go_wp2
      go_region_law (first
        | (refine step_app rfl (.tmp 128) (.tmp 131) 25 rfl w8.heap.size 3 j0 _ 1 8 Try.underlying25 hj0 hjz0 hjz1 hjz2 rfl (by omega) _ 0 [] rfl (own_below (World.ownsRow_lit w8 #[] 0 (Nat.le_refl _) (by decide) rfl) ((Below.refl _ _).drew)) q kk es.length ((x.take kk).map (Value.int .i64)) rfl (Src.keep SC8.out ((Keeps.alloc w8 _).trans (Keeps.drew _))) (ints_oneCell .i64 _) (by unfold maxLen; omega) (by omega) (by simp) ?_
           intro v9 w9 o9 g9
           rw [Nat.zero_add, List.nil_append] at o9
           have b9 := ((balloc (Below.refl w8.heap.size w8) (.cells #[] 3)).drew).grown g9 (by simp) (fun k hk => by have hk' : some w8.heap.size = some k := hk; injection hk' with h; omega))
        | (refine step_app rfl (.tmp 132) (.tmp 136) 25 rfl w8.heap.size 3 j0 _ 1 8 Try.underlying25 hj0 hjz0 hjz1 hjz2 rfl (by omega) v9 kk ((x.take kk).map (Value.int .i64)) rfl o9 pd (es.length - (kk + 1)) (es.length - (kk + 1)) ((x.drop (kk + 1)).map (Value.int .i64)) rfl (Src.keep SD8.out (Keeps.of_below b9)) (ints_oneCell .i64 _) (by unfold maxLen; omega) (by omega) (by have := b9.size; simpa using this) ?_
           intro v10 w10 o10 g10))
      have b10 := b9.grown g10 b9.size (fun k hk => (o9.lt k hk).1)
      have O10 := hide (show OwnT w10 w8.heap.size v10 (x.take kk ++ x.drop (kk + 1)) by
        unfold OwnT
        rw [Hlt.out, List.map_append, Hxn.out]
        rw [show es.length - 1 = kk + (es.length - (kk + 1)) by omega]
        exact o10)
      have P10 := hide (O8.out.next b10)
      have B10 := hide (bseq B8.out b10)
      clear o9 g9 b9 o10 g10 b10 s3 s4 SC8 SD8 B8 O8
      obtain ⟨rp, rc, hrv, hR1⟩ := P10.out.evs
      obtain ⟨tp, tc, htv, hT1⟩ := O10.out.ints
      subst hrv; subst htv
      have HRs := hide (show (es.take kk ++ es.drop (kk + 1)).length = es.length - 1 from Hld.out)
      have HTs := hide (show (x.take kk ++ x.drop (kk + 1)).length = es.length - 1 by rw [Hlt.out, Hxn.out])
      have R10 := hide hR1; have T10 := hide hT1
      have hHL := hide HL.out
      clear hR1 hT1 P10 O10
      rw [HRs.out, HTs.out]
      generalize es.take kk ++ es.drop (kk + 1) = rs at *
      generalize x.take kk ++ x.drop (kk + 1) = xs at *
      have Hlow := hide (show (ls.map (lowG kk)).length = ls.length from List.length_map _)
      have Hgin := hide (show ∀ g ∈ ls, 0 ≤ g.src ∧ g.src ≤ 1000 ∧ 0 ≤ g.dst ∧ g.dst ≤ 1000 from fun g hg => by
        have := HW.out.leg g hg
        omega)
      have Hfit3 := hide (fitR_some hHL.out.1 hHL.out.2.2)
      go_wp2_with (go_at_call 18; refine Stop.out ?_)
      refine Stop.go (lower_c lp lc ls kk _ _ (by omega) (by omega) Hgin.out (Hl.out.keep (Keeps.of_below B10.out)) ?_)
      intro p11 c11 w11 hb hL11 _
      have B11 := hide (bseq B10.out hb); have R11 := hide (R10.out.keep (Keeps.of_below hb)); have T11 := hide (T10.out.keep (Keeps.of_below hb)); have L11 := hide hL11
      clear hb hL11 B10 R10 T10
      go_wp2_with (go_at_call 12; refine Stop.out ?_)
      refine Stop.go (fitN_c dp rp p11 dc rc c11 d rs (ls.map (lowG kk)) _ _ rfl HRs.out Hlow.out (by omega) (by omega) (by omega) (Hd.out.keep (Keeps.of_below B11.out)) R11.out L11.out ?_ ?_)
      · intro hnone
        have := Hfit3.out; rw [hnone] at this; cases this
      intro y2 _ c12 c13 w12 hb _
      have B12 := hide (bseq B11.out hb); have R12 := hide (R11.out.keep (Keeps.of_below hb)); have T12 := hide (T11.out.keep (Keeps.of_below hb))
      clear hb B11 R11 T11 L11 Hfit3
      go_wp2_with (go_at_call 18; refine Stop.out ?_)
      refine Stop.go (lower_c lp lc ls kk _ _ (by omega) (by omega) Hgin.out (Hl.out.keep (Keeps.of_below B12.out)) ?_)
      intro p13 c13' w13 hb hL13 hc13
      have B13 := hide (bseq B12.out hb); have R13 := hide (R12.out.keep (Keeps.of_below hb)); have T13 := hide (T12.out.keep (Keeps.of_below hb)); have L13 := hide hL13
      clear hb hL13 B12 R12 T12
      go_wp2_with (go_at_call 14; refine Stop.out ?_)
      refine Stop.go (holdsN_c dp rp p13 tp dc rc c13' tc d rs (ls.map (lowG kk)) xs true _ _ rfl HRs.out Hlow.out HTs.out (by omega) (by omega) (by omega) (by omega) hc13 (Hd.out.keep (Keeps.of_below B13.out)) R13.out L13.out T13.out (holdB_true.2 hHL.out) ?_)
      intro w14 hb
      have B14 := hide (bseq B13.out hb)
      clear hb
      go_wp2
      exact HR.out _ B14.out

set_option maxRecDepth 100000 in
theorem fewer_holds_lifted (os : Os) (started : os.Started) (H : Type) (enc : TypeId × Value → H) :
    ReturnsInHanded {} Try.checked os 5 .any (Rows.orderFewerSpec.pre6 enc Try.prog Try.f5 Rows.orderFewerRow.domain false) (Rows.orderFewerSpec.post enc Try.prog Try.f5 false true false false) := by
  refine returnsInHanded_of_change (C := Try.checked) Try.own started (by kernel_rfl) Try.func5
    (ChangeSpec.witness6 (enc := enc) (C := Try.checked) false ⟨#[], #[.slice none 0 0, .slice none 0 0, .slice none 0 0, .int .u8 0, .int .u8 0, .int .u8 0], []⟩ 8 (by kernel_rfl) (by kernel_rfl) (by kernel_rfl) (by kernel_rfl)) ?_
  intro W base args ds gs before hval0 hW hcnd _
  have hval : ∀ (j : Nat) t v, Try.f5.params[j]? = some t → args[j]? = some v → Value.okWide Try.prog W .any base t v := hval0
  have hW' := hW
  obtain ⟨p, q, hA0, hV, rfl, hfz, hnd⟩ := hW
  have hA : DataW.TrodAll enc Try.prog W 0 (fun _ => true) true Try.f5.params.toList args.toList ds p := hA0
  have hA1 := hA
  rw [Try.params5] at hA hval
  obtain ⟨v0, vs0, d0, ds0, p0, q0, hargs, rfl, rfl, h0, r0⟩ := trodAll_cons hA
  obtain ⟨v1, vs1, d1, ds1, p1, q1, rfl, rfl, rfl, h1, r1⟩ := trodAll_cons r0
  obtain ⟨v2, vs2, d2, ds2, p2, q2, rfl, rfl, rfl, h2, r2⟩ := trodAll_cons r1
  obtain ⟨v3, vs3, d3, ds3, p3, q3, rfl, rfl, rfl, h3, r3⟩ := trodAll_cons r2
  obtain ⟨v4, vs4, d4, ds4, p4, q4, rfl, rfl, rfl, h4, r4⟩ := trodAll_cons r3
  obtain ⟨v5, vs5, d5, ds5, p5, q5, rfl, rfl, rfl, h5, r5⟩ := trodAll_cons r4
  obtain ⟨rfl, rfl, rfl⟩ := trodAll_nil r5
  obtain rfl : args = #[v0, v1, v2, v3, v4, v5] := by cases args; simp_all
  obtain ⟨rfl, rfl⟩ := trodVars_none hV
  obtain ⟨a0, n0, c0, l0, rfl, hl0, hm0, hi0, hz0, hw0⟩ := open_rows (hval 0 22 v0 rfl rfl) h0
  obtain ⟨a1, n1, c1, l1, rfl, hl1, hm1, hi1, hz1, hw1⟩ := open_evs (hval 1 23 v1 rfl rfl) h1
  obtain ⟨a2, n2, c2, l2, rfl, hl2, hm2, hi2, hz2, hw2⟩ := open_lgs (hval 2 24 v2 rfl rfl) h2
  obtain ⟨x3, rfl, _, _, hw3⟩ := open_int Try.underlying5 (hval 3 5 v3 rfl rfl) h3
  obtain ⟨x4, rfl, _, _, hw4⟩ := open_int Try.underlying5 (hval 4 5 v4 rfl rfl) h4
  obtain ⟨x5, rfl, _, _, hw5⟩ := open_int Try.underlying5 (hval 5 5 v5 rfl rfl) h5
  refine orderFewer_c a0 n0 c0 l0 a1 n1 c1 l1 a2 n2 c2 l2 x3 x4 x5 W _ hl0 hm0 hi0 hz0 hw0 hl1 hm1 hi1 hz1 hw1 hl2 hm2 hi2 hz2 hw2 hw3 hw4 hw5 fun W' bel => ?_
  exact ⟨_, rfl, law_post Try.laidOut bel rfl hW' hA1 (by kernel_rfl) rfl Try.underlying4 rfl rfl rfl⟩

theorem fewer_holds : Rows.OrderFewerSaid :=
  OpenClaim.holds_of_wide 5 Try.f5 rfl rfl rfl rfl rfl rfl rfl ⟨rfl, rfl, rfl, rfl, rfl⟩ rfl rfl rfl rfl rfl (by kernel_rfl) Try.func5 (by kernel_rfl)
    (of_decide_eq_true (by kernel_rfl)) (by unfold Func.isWrapper; rw [if_neg (of_decide_eq_false (by kernel_rfl))]; exact ⟨rfl, rfl⟩)
    (fun os started H enc _ => fewer_holds_lifted os started H enc)

end Go.Proofs.Ytaopfoicdjejnaa
