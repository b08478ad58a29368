/- OrderTime: for any events with Low and High from 0 to 500000, moved by at most 500000 minutes, there are possible times exactly if there are without moving them; and exactly if there are with time, distances and legs turned around. -/
import Derived.Test.YtaopfoicdjejnaaC20
set_option linter.unusedVariables false
set_option linter.unusedSimpArgs false
namespace Go.Proofs.Ytaopfoicdjejnaa
open Go.ChangeShapes Go.WideShapes Go.ChangeAt Go.RowKit Go.Deep

theorem Try.info25 : (Try.prog.info? 25).map (fun i => (i.zero, i.size, i.bytes)) = some (some (.slice none 0 0), 1, 24) := by kernel_rfl
theorem own_other {w w' : World} {base base' e e' size size' n n' : Nat} {v v' : Value} {xs xs' : List Value} (h : w.ownsRow base e size v n xs) (h' : w.ownsRow base' e' size' v' n' xs') (hne : e ≠ e') (hg : w.grownBy w' v'.ownBlock) : w'.ownsRow base e size v n xs :=
  h.kept hg (by
    cases hv : v.ownBlock with
    | none => exact .inl rfl
    | some k => exact .inr (fun e2 => own_ne h h' hne hv e2.symm))
/-- Rows that the law has made, of rows of numbers. -/
structure RowsO (W : World) (base : Nat) (v : Value) (l : List (List Int)) : Prop where
  own : ∃ xs : List Value, W.ownsRow base 25 1 v l.length xs ∧ ∀ (i : Nat) (r : List Int), l[i]? = some r → ∃ q c b, xs[i]? = some (.slice q r.length c) ∧ W.ownsRow b 3 1 (.slice q r.length c) r.length (r.map (Value.int .i64)) ∧ r.length ≤ maxLen
theorem RowsO.nil {W : World} {base : Nat} : RowsO W base (.slice none 0 0) [] := ⟨[], World.ownsRow_nil .., fun i r h => by simp at h⟩
theorem RowsO.rows {W : World} {base : Nat} {v : Value} {l : List (List Int)} (h : RowsO W base v l) : ∃ p c, v = .slice p l.length c ∧ RowsAt W p l := by
  obtain ⟨xs, ho, hr⟩ := h.own
  obtain ⟨p, c, hv, _⟩ := own_val ho
  subst hv
  refine ⟨p, c, rfl, fun hl => ?_⟩
  obtain ⟨g, cap, hv, _⟩ := own_form ho hl
  injection hv with h1
  subst h1
  refine ⟨g, 0, rfl, fun i r hi => ?_⟩
  obtain ⟨q, c', _, hx, hI, hm⟩ := hr i r hi
  refine ⟨q, c', ?_, IntsAt.of_own hI, hm⟩
  have := ho.cells (g := g) rfl i _ hx
  rw [Addr.add_lit] at this
  exact this
theorem RowsO.next {W W' : World} {base : Nat} {v : Value} {l : List (List Int)} (h : RowsO W base v l) (hb : Below W.heap.size W W') : RowsO W' base v l := by
  obtain ⟨xs, ho, hr⟩ := h.own
  refine ⟨xs, own_below ho hb, fun i r hi => ?_⟩
  obtain ⟨q, c', b, hx, hI, hm⟩ := hr i r hi
  exact ⟨q, c', b, hx, own_below hI hb, hm⟩
theorem blk_news {w : World} {g : Nat} {cs : Array Value} {t : TypeId} {l : List Value} (h : Blk w g cs t) (hc : cs = l.toArray) : ∀ j u, l[j]? = some u → w.cell? ((⟨g, 0, none⟩ : Addr).add j) = some u := fun j u hu => by
  rw [Addr.add_lit, Nat.zero_add]; exact h.cell (by rw [hc]; simpa using hu)
theorem RowsO.app {W W' : World} {base bq : Nat} {v v' : Value} {l : List (List Int)} {xs : List Value} {q : Option Addr} {c : Nat} {r : List Int} (ho : W.ownsRow base 25 1 v l.length xs)
    (hrs : ∀ (i : Nat) (r : List Int), l[i]? = some r → ∃ q c b, xs[i]? = some (.slice q r.length c) ∧ W.ownsRow b 3 1 (.slice q r.length c) r.length (r.map (Value.int .i64)) ∧ r.length ≤ maxLen)
    (hr : W.ownsRow bq 3 1 (.slice q r.length c) r.length (r.map (Value.int .i64))) (hm : r.length ≤ maxLen) (hg : W.grownBy W' v.ownBlock) (ho' : W'.ownsRow base 25 1 v' (l.length + 1) (xs ++ [.slice q r.length c])) : RowsO W' base v' (l ++ [r]) := by
  have hxl : xs.length = l.length := by have := ho.1; omega
  refine ⟨_, by rw [List.length_append]; exact ho', fun i r' hi => ?_⟩
  rcases Nat.lt_or_ge i l.length with h | h
  · rw [List.getElem?_append_left h] at hi
    obtain ⟨q', c', b', h1, h2, h3⟩ := hrs i r' hi
    exact ⟨q', c', b', by rw [List.getElem?_append_left (by omega)]; exact h1, own_other h2 ho (by decide) hg, h3⟩
  · have hi2 := (List.getElem?_eq_some_iff.1 hi).1
    rw [List.length_append, List.length_singleton] at hi2
    obtain rfl : i = l.length := by omega
    rw [List.getElem?_append_right (Nat.le_refl _), Nat.sub_self] at hi
    injection hi with hi; subst hi
    exact ⟨q, c, bq, by rw [List.getElem?_append_right (by omega), hxl, Nat.sub_self]; rfl, own_other hr ho (by decide) hg, hm⟩
def rowI (d : List (List Int)) (i : Nat) : List Int := (List.range d.length).map fun k => dst d k i
theorem rowI_len (d : List (List Int)) (i : Nat) : (rowI d i).length = d.length := by simp [rowI]
theorem rowI_at {d : List (List Int)} {i k : Nat} (h : k < d.length) : (rowI d i)[k]? = some (dst d k i) := by unfold rowI; rw [List.getElem?_map, List.getElem?_range h]; rfl
theorem back_at {d : List (List Int)} {i : Nat} (h : i < d.length) : (backD d)[i]? = some (rowI d i) := by unfold backD; rw [List.getElem?_map, List.getElem?_range h]; rfl
theorem take_succ_of {α : Type} {l : List α} {k : Nat} {x : α} (h : l[k]? = some x) : l.take (k + 1) = l.take k ++ [x] := by rw [List.take_add_one, h]; rfl
/-- While the law moves the events: both rows lie apart. -/
structure TwoO (w1 : World) (v u : Value) (l l' : List Evt) (wr : World) : Prop where
  below : Below w1.heap.size w1 wr
  a : OwnE wr w1.heap.size v l
  b : OwnE wr w1.heap.size u l'
  ne : ∀ k, v.ownBlock = some k → u.ownBlock ≠ some k
theorem TwoO.start {w1 : World} : TwoO w1 (.slice none 0 0) (.slice none 0 0) [] [] w1 := ⟨Below.refl _ _, OwnE.nil, OwnE.nil, fun k h => by cases h⟩
theorem TwoO.next {w1 wr w' : World} {v u : Value} {l l' : List Evt} (h : TwoO w1 v u l l' wr) (hb : Below wr.heap.size wr w') : TwoO w1 v u l l' w' := ⟨bseq h.below hb, h.a.next hb, h.b.next hb, h.ne⟩
theorem TwoO.swap {w1 wr : World} {v u : Value} {l l' : List Evt} (h : TwoO w1 v u l l' wr) : TwoO w1 u v l' l wr := ⟨h.below, h.b, h.a, fun k hk e => h.ne k e hk⟩
theorem TwoO.app {w1 wr w' : World} {v v' u : Value} {l l' : List Evt} {x : Evt} (h : TwoO w1 v u l l' wr) (hg : wr.grownBy w' v.ownBlock) (ho : w'.ownsRow w1.heap.size 32 4 v' (l.length + 1) (l.flatMap Evt.cells ++ x.cells)) (hw : v'.ownBlock = v.ownBlock ∨ ∀ k, v'.ownBlock = some k → wr.heap.size ≤ k) : TwoO w1 v' u (l ++ [x]) l' w' := by
  refine ⟨h.below.grown hg h.below.size (fun k hk => (h.a.lt k hk).1), OwnE.app ho, h.b.kept hg ?_, fun k hk => ?_⟩
  · cases hu : u.ownBlock with
    | none => exact .inl rfl
    | some k => exact .inr (fun e => h.ne k e.symm hu)
  · rcases hw with h1 | h1
    · rw [h1] at hk; exact h.ne k hk
    · intro e
      have := h1 k hk
      have := (h.b.lt k e).2
      omega
set_option maxRecDepth 100000 in
set_option maxHeartbeats 4000000 in
theorem orderTime_c (dp : Option Addr) (n dc : Nat) (d : List (List Int)) (ep : Option Addr) (m ec : Nat) (es : List Evt) (lp : Option Addr) (k lc : Nat) (ls : List Lgr) (f : Int) (w : World) (R)
    (hn : d.length = n) (hn2 : n ≤ maxLen) (hd : RowsAt w dp d) (_hdc : n ≤ dc) (_h1 : True) (hm : es.length = m) (hm2 : m ≤ maxLen) (he : EvsAt w ep es) (_hec : m ≤ ec) (_h2 : True)
    (hk : ls.length = k) (hk2 : k ≤ maxLen) (hl : LgsAt w lp ls) (hlc : k ≤ lc) (_h3 : True) (hf : (Lit.int .u32 f).wf = true)
    (hR : ∀ w', Below w.heap.size w w' → R (.returned (.bool true)) w') :
    Calls Try.prog 6 #[.slice dp n dc, .slice ep m ec, .slice lp k lc, .int .u32 f] w R := by
  subst hn; subst hm; subst hk
  have HR := hide hR; have Hd := hide hd; have He := hide he; have Hl := hide hl
  have hf0 := bounds_u32 hf
  clear hR hd he hl hf
  obtain ⟨i0, hi0, hz0, hz1, hz2⟩ := info_parts Try.info32
  obtain ⟨j0, hj0, hjz0, hjz1, hjz2⟩ := info_parts Try.info3
  obtain ⟨g0, hg0, hgz0, hgz1, hgz2⟩ := info_parts Try.info39
  go_enter Try.func6, Try.ntmps6
  go_wp2_with (go_at_call 10; refine Stop.out ?_)
  refine Stop.go (head_c _ _ ?_)
  intro w1 hb
  have B1 := hide hb
  clear hb
  cases hfw : fewB d es.length ls.length 0 with
  | false =>
    have Hf := hide hfw
    clear hfw
    go_wp2_with (go_at_call 11; refine Stop.out ?_)
    refine Stop.go (few_c dp ep lp none dc ec lc 0 _ _ _ d _ _ hn2 hm2 hk2 (by decide) (Hd.out.keep (Keeps.of_below B1.out)) ?_)
    rw [Hf.out]
    go_wp2
    exact HR.out _ B1.out
  | true =>
  obtain ⟨l1, l2, l3, l4⟩ := fewB_le hfw
  have Hf := hide hfw
  clear hfw
  go_wp2_with (go_at_call 11; refine Stop.out ?_)
  refine Stop.go (few_c dp ep lp none dc ec lc 0 _ _ _ d _ _ hn2 hm2 hk2 (by decide) (Hd.out.keep (Keeps.of_below B1.out)) ?_)
  rw [Hf.out]
  go_wp2_with (go_at_call 19; refine Stop.out ?_)
  refine Stop.go (rvalid_c dp ep lp dc ec lc d es ls _ _ hn2 hm2 hk2 (Hd.out.keep (Keeps.of_below B1.out)) (He.out.keep (Keeps.of_below B1.out)) (Hl.out.keep (Keeps.of_below B1.out)) ?_)
  intro w2 hb
  have B2 := hide (bseq B1.out hb)
  clear hb B1
  cases hwb : wellB d es ls with
  | false =>
    clear hwb
    go_wp2
    exact HR.out _ B2.out
  | true =>
  have HW := hide (wellB_true.1 hwb)
  clear hwb
  have hq0 : 0 ≤ f % 500001 := by omega
  have hq1 : f % 500001 ≤ 500000 := by omega
  have E2 := hide (He.out.keep (Keeps.of_below B2.out))
  go_wp2
  generalize f % 500001 = q at *
  go_loopw [10, 11, 13] (fun v u si wr => ∃ k : Nat, k ≤ es.length ∧ si = .int .i64 k ∧ Hid (TwoO w2 v u ((es.take k).map (moveT q)) ((es.take k).map turnT) wr) ∧ Hid (∀ e ∈ es.take k, 0 ≤ e.low ∧ e.high ≤ 500000 ∧ e.low ≤ e.high)) (fun _ _ si _ => es.length - (intOf si).toNat)
  case atStart => exact ⟨0, Nat.zero_le _, rfl, hide TwoO.start, hide (by simp)⟩
  case round =>
    obtain ⟨k, hk, rfl, HT, HE⟩ := hrel
    by_cases hlt : k < es.length
    · obtain ⟨b, oo, e, rfl, hev, e0, e1, e2, e3⟩ := (E2.out.keep (Keeps.of_below HT.out.below)).ev hlt
      have Hev := hide hev
      have B3 := hide (bseq B2.out (balloc HT.out.below (.cells #[.int .i64 e.office, .int .i64 e.low, .int .i64 e.high, .slice e.np e.nn e.nc] 32)))
      clear hev
      by_cases t1 : e.low < 0
      · go_wp2
        exact HR.out _ B3.out
      by_cases t2 : 500000 < e.high
      · go_wp2
        exact HR.out _ B3.out
      by_cases t3 : e.high < e.low
      · go_wp2
        exact HR.out _ B3.out
      have HE2 := hide (show ∀ x ∈ es.take (k + 1), 0 ≤ x.low ∧ x.high ≤ 500000 ∧ x.low ≤ x.high by
        intro x hx
        rw [List.take_add_one, Hev.out] at hx
        rcases List.mem_append.1 hx with h | h
        · exact HE.out x h
        · simp at h; rw [h]; omega)
      have hla : ((es.take k).map (moveT q)).length ≤ 7 := by rw [List.length_map, List.length_take]; omega
      have hlb : ((es.take k).map turnT).length ≤ 7 := by rw [List.length_map, List.length_take]; omega
      have hBz := HT.out.below.size
      go_wp2_with (at_builtin; refine Stop.out ?_)
      refine Stop.go ?_
      refine wpList_append_where rfl (.tmp 70) (.tmp 82) 23 rfl w2.heap.size 32 i0 _ 4 48 Try.underlying23 hi0 hz0 hz1 hz2 rfl (by omega) _ _ _ rfl (HT.out.next (balloc (balloc (Below.refl _ _) _) _)).a ⟨wr.heap.size + 1, 0, none⟩ 1 1 (moveT q e).cells rfl rfl (blk_news (Blk.new_at (by simp)) rfl) (ev_one _) (by unfold maxLen; omega) (by omega) (by simp; omega) ?_
      intro v1 w3 hown1 hg1 hw1
      have hT3 := (HT.out.next (balloc (balloc (Below.refl _ _) _) _)).app hg1 hown1 hw1
      have hne : u10.ownBlock ≠ some wr.heap.size := fun h => by have := (HT.out.a.lt _ h).2; omega
      have K := (Blk.new wr #[.int .i64 e.office, .int .i64 e.low, .int .i64 e.high, .slice e.np e.nn e.nc] 32).alloc (.cells #[.int .i64 e.office, .int .i64 (e.low + q), .int .i64 (e.high + q), .slice none 0 0] 32)
      have c0 := grow_cell hg1 (K.cell (k := 0) (v := .int .i64 e.office) rfl) hne
      have c1 := grow_cell hg1 (K.cell (k := 1) (v := .int .i64 e.low) rfl) hne
      have c2 := grow_cell hg1 (K.cell (k := 2) (v := .int .i64 e.high) rfl) hne
      have HT3 := hide hT3
      have hBz3 := hT3.below.size
      clear K hg1 hown1 hw1 hne hT3 e0 e1 e2 e3 HT hBz
      go_wp2_with (at_builtin; refine Stop.out ?_)
      refine Stop.go ?_
      refine wpList_append_where rfl (.tmp 84) (.tmp 94) 23 rfl w2.heap.size 32 i0 _ 4 48 Try.underlying23 hi0 hz0 hz1 hz2 rfl (by omega) _ _ _ rfl (HT3.out.next (balloc (Below.refl _ _) _)).b ⟨w3.heap.size, 0, none⟩ 1 1 (turnT e).cells rfl rfl (blk_news (Blk.new _ _ _) rfl) (ev_one _) (by unfold maxLen; omega) (by omega) (by simp; omega) ?_
      intro v2 w4 hown2 hg2 hw2
      have HT4 := hide (show TwoO w2 v1 v2 ((es.take (k + 1)).map (moveT q)) ((es.take (k + 1)).map turnT) w4 by
        rw [map_take_succ _ Hev.out, map_take_succ _ Hev.out]
        exact ((HT3.out.next (balloc (Below.refl _ _) _)).swap.app hg2 hown2 hw2).swap)
      clear hg2 hown2 hw2 HT3 c0 c1 c2
      go_wp2_with fail
      go_roundw
      case rel => exact ⟨k + 1, by omega, by go_num, HT4, HE2⟩
      case measure => simp [intOf]; omega
    · obtain rfl : k = es.length := by omega
      have hT := HT.out
      have hE := HE.out
      rw [List.take_length] at hT hE
      obtain ⟨ap, ac, hva, hA⟩ := hT.a.evs
      obtain ⟨bp, bc, hvb, hB⟩ := hT.b.evs
      subst hva; subst hvb
      rw [List.length_map, List.length_map]
      have HM := hide (fit_move HW.out (fun e he => ⟨(hE e he).1, (hE e he).2.1⟩) hq0 hq1)
      have HV := hide (fit_turn HW.out)
      have A3 := hide hA; have V3 := hide hB; have B3 := hide (bseq B2.out hT.below)
      have D3 := hide (Hd.out.keep (Keeps.of_below B3.out))
      have Hml : Hid ((es.map (moveT q)).length = es.length) := hide (List.length_map _)
      have Hvl : Hid ((es.map turnT).length = es.length) := hide (List.length_map _)
      have Hdist := hide HW.out.dist
      clear HT HE hT hE hA hB E2
      generalize wr = W at *
      generalize es.map (moveT q) = mv at *
      generalize es.map turnT = tv at *
      go_wp2
      go_loopw [15, 16] (fun v si wr => ∃ k : Nat, k ≤ d.length ∧ si = .int .i64 k ∧ Hid (RowsO wr W.heap.size v ((backD d).take k)) ∧ Hid (Below W.heap.size W wr)) (fun _ si _ => d.length - (intOf si).toNat)
      case atStart => exact ⟨0, Nat.zero_le _, rfl, hide RowsO.nil, hide (Below.refl _ _)⟩
      case round =>
        obtain ⟨i, hi, rfl, HO, HB⟩ := hrel
        by_cases hlt2 : i < d.length
        · generalize wr = W2 at *
          have HBI := hide (back_at hlt2)
          go_wp2
          go_loopw [17, 18] (fun v sj w3 => ∃ j : Nat, j ≤ d.length ∧ sj = .int .i64 j ∧ Hid (OwnT w3 W2.heap.size v ((rowI d i).take j)) ∧ Hid (Below W2.heap.size W2 w3)) (fun _ sj _ => d.length - (intOf sj).toNat)
          case atStart => exact ⟨0, Nat.zero_le _, rfl, hide OwnT.nil, hide (Below.refl _ _)⟩
          case round =>
            obtain ⟨j, hj, rfl, HI, HC⟩ := hrel
            by_cases hltj : j < d.length
            · obtain ⟨b, o, r, q1, rc, rfl, hr, cr, hin, hrl⟩ := (D3.out.keep (Keeps.of_below (bseq HB.out HC.out))).at_ hltj
              have hrlen := (Hdist.out.row r (List.mem_of_getElem? hr)).1
              obtain ⟨qb, qo, x, rfl, hx, cx⟩ := hin.at_ (i := i) (by omega)
              have HS := hide (take_succ_of (rowI_at (i := i) hltj))
              have Hds := hide (dst_at hr hx)
              have hir : i < r.length := by omega
              have hlt7 : ((rowI d i).take j).length ≤ 12 := by rw [List.length_take, rowI_len]; omega
              have hBz := HC.out.size
              clear hr hx hin hrlen
              go_wp2_with (at_builtin; refine Stop.out ?_)
              refine Stop.go ?_
              refine wpList_app _ rfl (.tmp 108) (.tmp 116) 25 rfl W2.heap.size 3 j0 _ 1 8 Try.underlying25 hj0 hjz0 hjz1 hjz2 rfl (by omega) _ _ _ rfl (HI.out.next (balloc (Below.refl _ _) _)) (some ⟨wr.heap.size, 0, none⟩) 1 1 [.int .i64 x] rfl (Src.blk (Blk.new _ _ _) rfl rfl) (by simp [Value.oneCell']) (by unfold maxLen; omega) (by omega) (by simp; omega) ?_
              intro v2 w4 hown2 hg2
              have hg2' : wr.grownBy w4 u17.ownBlock := World.grownBy.trans (World.grownBy_alloc _ _ _) hg2
              have HC4 := hide (show Below W2.heap.size W2 w4 from HC.out.grown hg2' HC.out.size (fun k hk => (HI.out.lt k hk).1))
              have HI4 := hide (show OwnT w4 W2.heap.size v2 ((rowI d i).take (j + 1)) by rw [HS.out, Hds.out]; exact OwnT.app hown2)
              clear hg2 hg2' hown2 HI HC cr cx HS Hds
              go_wp2_with fail
              go_roundw
              case rel => exact ⟨j + 1, by omega, by go_num, HI4, HC4⟩
              case measure => simp [intOf]; omega
            · obtain rfl : j = d.length := by omega
              have hI := HI.out
              rw [List.take_of_length_le (by rw [rowI_len]; exact Nat.le_refl _)] at hI
              obtain ⟨rp, rc, rfl, _⟩ := hI.ints
              obtain ⟨xs, hx1, hx2⟩ := (HO.out.next HC.out).own
              have hxl : ((backD d).take i).length ≤ 12 := by rw [List.length_take, back_len]; omega
              have hBz := HB.out.size
              have hCz := HC.out.size
              have HI2 := hide hI; have HX1 := hide hx1; have HX2 := hide hx2
              clear hI hx1 hx2 HI
              go_wp2_with (at_builtin; refine Stop.out ?_)
              refine Stop.go ?_
              obtain ⟨k0, hk0, hkz0, hkz1, hkz2⟩ := info_parts Try.info25
              refine wpList_app _ rfl (.tmp 118) (.tmp 120) 22 rfl W.heap.size 25 k0 _ 1 24 Try.underlying22 hk0 hkz0 hkz1 hkz2 rfl (by omega) _ _ _ rfl (own_below HX1.out (balloc (Below.refl _ _) _)) (some ⟨wr.heap.size, 0, none⟩) 1 1 [.slice rp (rowI d i).length rc] rfl (Src.blk (Blk.new _ _ _) rfl rfl) (by simp [Value.oneCell']) (by unfold maxLen; omega) (by omega) (by simp; omega) ?_
              intro v2 w4 hown2 hg2
              have hg2' : wr.grownBy w4 u15.ownBlock := World.grownBy.trans (World.grownBy_alloc _ _ _) hg2
              have HB4 := hide (show Below W.heap.size W w4 from (bseq HB.out HC.out).grown hg2' (by omega) (fun k hk => (HX1.out.lt k hk).1))
              have HO4 := hide (show RowsO w4 W.heap.size v2 ((backD d).take (i + 1)) by
                rw [take_succ_of HBI.out]
                exact RowsO.app HX1.out HX2.out HI2.out (by rw [rowI_len]; exact hn2) hg2' hown2)
              clear hg2 hg2' hown2 HI2 HX1 HX2 HC HO HB hk0 hkz0 hkz1 hkz2
              go_wp2_with fail
              go_roundw
              case rel => exact ⟨i + 1, by omega, by go_num, HO4, HB4⟩
              case measure => simp [intOf]; omega
        · obtain rfl : i = d.length := by omega
          have hO := HO.out
          rw [List.take_of_length_le (by rw [back_len]; exact Nat.le_refl _)] at hO
          obtain ⟨kp, kc, rfl, hK⟩ := hO.rows
          rw [back_len]
          have K4 := hide hK; have B4 := hide (bseq B3.out HB.out); have A4 := hide (A3.out.keep (Keeps.of_below HB.out)); have V4 := hide (V3.out.keep (Keeps.of_below HB.out))
          have L4 := hide (Hl.out.keep (Keeps.of_below B4.out))
          have Hbl := hide (back_len d)
          clear HO HB hO hK A3 V3 B3 D3
          generalize wr = W3 at *
          generalize backD d = bd at *
          go_wp2
          go_loopw [19, 20] (fun v si wr => ∃ k : Nat, k ≤ ls.length ∧ si = .int .i64 k ∧ Hid (OwnL wr W3.heap.size v ((ls.take k).map turnG)) ∧ Hid (Below W3.heap.size W3 wr)) (fun _ si _ => ls.length - (intOf si).toNat)
          case atStart => exact ⟨0, Nat.zero_le _, rfl, hide OwnL.nil, hide (Below.refl _ _)⟩
          case round =>
            obtain ⟨j, hj, rfl, HO, HB⟩ := hrel
            by_cases hltj : j < ls.length
            · obtain ⟨b, oo, g, rfl, hg, e0, e1, e2⟩ := (L4.out.keep (Keeps.of_below HB.out)).lg (i := j) hltj
              have HS := hide (map_take_succ turnG hg)
              have hfl1 : ((ls.take j).map turnG).length ≤ 7 := by rw [List.length_map, List.length_take]; omega
              have hBz := HB.out.size
              clear hg
              go_wp2
              go_region_law (refine step_app rfl (.tmp 128) (.tmp 145) 24 rfl W3.heap.size 39 g0 _ 3 24 Try.underlying24 hg0 hgz0 hgz1 hgz2 rfl (by omega) u19 _ _ rfl (World.ownsRow.alloc (w := wr.drew) HO.out _) (some ⟨wr.heap.size, 0, none⟩) 1 1 (turnG g).cells rfl (Src.blk (Blk.new wr.drew _ _) rfl rfl) (lg_one _) (by unfold maxLen; omega) (by omega) (by simp; omega) ?_; intro v1 w7 hown1 hg1)
              all_goals
                have h0 := World.grownBy.trans (World.grownBy_alloc wr.drew _ _) hg1
                have hg1' : wr.grownBy w7 u19.ownBlock := ⟨h0.os, h0.tape, h0.output, h0.size, h0.block⟩
                clear h0
                have HB3 := hide (show Below W3.heap.size W3 w7 from HB.out.grown hg1' HB.out.size (fun k hk => (HO.out.lt k hk).1))
                have HO3 := hide (show OwnL w7 W3.heap.size v1 ((ls.take (j + 1)).map turnG) by rw [HS.out]; exact OwnL.app hown1)
                clear hg1 hg1' hown1 e0 e1 e2 HO HB HS
                go_wp2_with fail
                go_roundw
                case rel => exact ⟨j + 1, by omega, by go_num, HO3, HB3⟩
                case measure => simp [intOf]; omega
            · obtain rfl : j = ls.length := by omega
              have hO := HO.out
              rw [List.take_length] at hO
              obtain ⟨op, oc, rfl, hL, _⟩ := hO.lgs
              rw [List.length_map]
              have Hol : Hid ((ls.map turnG).length = ls.length) := hide (List.length_map _)
              have B5 := hide (bseq B4.out HB.out); have A5 := hide (A4.out.keep (Keeps.of_below HB.out)); have V5 := hide (V4.out.keep (Keeps.of_below HB.out)); have K5 := hide (K4.out.keep (Keeps.of_below HB.out)); have O5 := hide hL
              clear HO HB hO hL A4 V4 K4 B4 L4
              generalize wr = W5 at *
              generalize ls.map turnG = og at *
              cases hfit : fitR d es ls with
              | none =>
                have Hf1 := hide hfit
                have Hf2 := hide (show fitR d mv ls = none by have := HM.out; rw [hfit] at this; cases h : fitR d mv ls with | none => rfl | some _ => rw [h] at this; cases this)
                have Hf3 := hide (show fitR bd tv og = none by have := HV.out; rw [hfit] at this; cases h : fitR bd tv og with | none => rfl | some _ => rw [h] at this; cases this)
                clear hfit HM HV
                go_wp2_with (go_at_call 12; refine Stop.out ?_)
                refine Stop.go (fit_c dp ep lp dc ec lc d es ls _ _ hn2 hm2 hk2 (Hd.out.keep (Keeps.of_below B5.out)) (He.out.keep (Keeps.of_below B5.out)) (Hl.out.keep (Keeps.of_below B5.out)) ?_ ?_)
                rotate_left
                · intro ts' hts'
                  rw [Hf1.out] at hts'; cases hts'
                intro _ w6 hb
                have B6 := hide (bseq B5.out hb); have A6 := hide (A5.out.keep (Keeps.of_below hb)); have V6 := hide (V5.out.keep (Keeps.of_below hb)); have K6 := hide (K5.out.keep (Keeps.of_below hb)); have O6 := hide (O5.out.keep (Keeps.of_below hb))
                clear hb B5 A5 V5 K5 O5
                go_wp2_with (go_at_call 12; refine Stop.out ?_)
                refine Stop.go (fitN_c dp ap lp dc ac lc d mv ls _ _ rfl Hml.out rfl (by omega) (by omega) (by omega) (Hd.out.keep (Keeps.of_below B6.out)) A6.out (Hl.out.keep (Keeps.of_below B6.out)) ?_ ?_)
                rotate_left
                · intro ts' hts'
                  rw [Hf2.out] at hts'; cases hts'
                intro _ w7 hb
                have B7 := hide (bseq B6.out hb); have V7 := hide (V6.out.keep (Keeps.of_below hb)); have K7 := hide (K6.out.keep (Keeps.of_below hb)); have O7 := hide (O6.out.keep (Keeps.of_below hb))
                clear hb B6 A6 V6 K6 O6
                go_wp2_with (go_at_call 12; refine Stop.out ?_)
                refine Stop.go (fitN_c kp bp op kc bc oc bd tv og _ _ Hbl.out Hvl.out Hol.out (by omega) (by omega) (by omega) K7.out V7.out O7.out ?_ ?_)
                rotate_left
                · intro ts' hts'
                  rw [Hf3.out] at hts'; cases hts'
                intro _ w8 hb
                have B8 := hide (bseq B7.out hb)
                clear hb
                go_wp2
                exact HR.out _ B8.out
              | some x =>
                have Hf1 := hide hfit
                have Hf2 := hide (show fitR d mv ls ≠ none by intro h; have := HM.out; rw [hfit, h] at this; cases this)
                have Hf3 := hide (show fitR bd tv og ≠ none by intro h; have := HV.out; rw [hfit, h] at this; cases this)
                clear hfit HM HV
                go_wp2_with (go_at_call 12; refine Stop.out ?_)
                refine Stop.go (fit_c dp ep lp dc ec lc d es ls _ _ hn2 hm2 hk2 (Hd.out.keep (Keeps.of_below B5.out)) (He.out.keep (Keeps.of_below B5.out)) (Hl.out.keep (Keeps.of_below B5.out)) ?_ ?_)
                · intro hnone
                  rw [Hf1.out] at hnone; cases hnone
                intro x1 _ c1 c2 w6 hb _
                have B6 := hide (bseq B5.out hb); have A6 := hide (A5.out.keep (Keeps.of_below hb)); have V6 := hide (V5.out.keep (Keeps.of_below hb)); have K6 := hide (K5.out.keep (Keeps.of_below hb)); have O6 := hide (O5.out.keep (Keeps.of_below hb))
                clear hb B5 A5 V5 K5 O5
                go_wp2_with (go_at_call 12; refine Stop.out ?_)
                refine Stop.go (fitN_c dp ap lp dc ac lc d mv ls _ _ rfl Hml.out rfl (by omega) (by omega) (by omega) (Hd.out.keep (Keeps.of_below B6.out)) A6.out (Hl.out.keep (Keeps.of_below B6.out)) ?_ ?_)
                · intro hnone
                  exact absurd hnone Hf2.out
                intro x2 _ c3 c4 w7 hb _
                have B7 := hide (bseq B6.out hb); have V7 := hide (V6.out.keep (Keeps.of_below hb)); have K7 := hide (K6.out.keep (Keeps.of_below hb)); have O7 := hide (O6.out.keep (Keeps.of_below hb))
                clear hb B6 A6 V6 K6 O6
                go_wp2_with (go_at_call 12; refine Stop.out ?_)
                refine Stop.go (fitN_c kp bp op kc bc oc bd tv og _ _ Hbl.out Hvl.out Hol.out (by omega) (by omega) (by omega) K7.out V7.out O7.out ?_ ?_)
                · intro hnone
                  exact absurd hnone Hf3.out
                intro x3 _ c5 c6 w8 hb _
                have B8 := hide (bseq B7.out hb)
                clear hb
                go_wp2
                exact HR.out _ B8.out

set_option maxRecDepth 100000 in
theorem time_holds_lifted (os : Os) (started : os.Started) (H : Type) (enc : TypeId × Value → H) :
    ReturnsInHanded {} Try.checked os 6 .any (Rows.orderTimeSpec.pre6 enc Try.prog Try.f6 Rows.orderTimeRow.domain false) (Rows.orderTimeSpec.post enc Try.prog Try.f6 false true false false) := by
  refine returnsInHanded_of_change (C := Try.checked) Try.own started (by kernel_rfl) Try.func6
    (ChangeSpec.witness6 (enc := enc) (C := Try.checked) false ⟨#[], #[.slice none 0 0, .slice none 0 0, .slice none 0 0, .int .u32 0], []⟩ 8 (by kernel_rfl) (by kernel_rfl) (by kernel_rfl) (by kernel_rfl)) ?_
  intro W base args ds gs before hval0 hW hcnd _
  have hval : ∀ (j : Nat) t v, Try.f6.params[j]? = some t → args[j]? = some v → Value.okWide Try.prog W .any base t v := hval0
  have hW' := hW
  obtain ⟨p, q, hA0, hV, rfl, hfz, hnd⟩ := hW
  have hA : DataW.TrodAll enc Try.prog W 0 (fun _ => true) true Try.f6.params.toList args.toList ds p := hA0
  have hA1 := hA
  rw [Try.params6] at hA hval
  obtain ⟨v0, vs0, d0, ds0, p0, q0, hargs, rfl, rfl, h0, r0⟩ := trodAll_cons hA
  obtain ⟨v1, vs1, d1, ds1, p1, q1, rfl, rfl, rfl, h1, r1⟩ := trodAll_cons r0
  obtain ⟨v2, vs2, d2, ds2, p2, q2, rfl, rfl, rfl, h2, r2⟩ := trodAll_cons r1
  obtain ⟨v3, vs3, d3, ds3, p3, q3, rfl, rfl, rfl, h3, r3⟩ := trodAll_cons r2
  obtain ⟨rfl, rfl, rfl⟩ := trodAll_nil r3
  obtain rfl : args = #[v0, v1, v2, v3] := by cases args; simp_all
  obtain ⟨rfl, rfl⟩ := trodVars_none hV
  obtain ⟨a0, n0, c0, l0, rfl, hl0, hm0, hi0, hz0, hw0⟩ := open_rows (hval 0 22 v0 rfl rfl) h0
  obtain ⟨a1, n1, c1, l1, rfl, hl1, hm1, hi1, hz1, hw1⟩ := open_evs (hval 1 23 v1 rfl rfl) h1
  obtain ⟨a2, n2, c2, l2, rfl, hl2, hm2, hi2, hz2, hw2⟩ := open_lgs (hval 2 24 v2 rfl rfl) h2
  obtain ⟨x3, rfl, _, _, hw3⟩ := open_int Try.underlying36 (hval 3 36 v3 rfl rfl) h3
  refine orderTime_c a0 n0 c0 l0 a1 n1 c1 l1 a2 n2 c2 l2 x3 W _ hl0 hm0 hi0 hz0 hw0 hl1 hm1 hi1 hz1 hw1 hl2 hm2 hi2 hz2 hw2 hw3 fun W' bel => ?_
  exact ⟨_, rfl, law_post Try.laidOut bel rfl hW' hA1 (by kernel_rfl) rfl Try.underlying4 rfl rfl rfl⟩

theorem time_holds : Rows.OrderTimeSaid :=
  OpenClaim.holds_of_wide 6 Try.f6 rfl rfl rfl rfl rfl rfl rfl ⟨rfl, rfl, rfl, rfl, rfl⟩ rfl rfl rfl rfl rfl (by kernel_rfl) Try.func6 (by kernel_rfl)
    (of_decide_eq_true (by kernel_rfl)) (by unfold Func.isWrapper; rw [if_neg (of_decide_eq_false (by kernel_rfl))]; exact ⟨rfl, rfl⟩)
    (fun os started H enc _ => time_holds_lifted os started H enc)

end Go.Proofs.Ytaopfoicdjejnaa
