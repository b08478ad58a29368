/- The full way. -/
import Derived.Test.YtaopfoicdjejnaaK2
set_option linter.unusedVariables false
set_option linter.unusedSimpArgs false
namespace Go.Proofs.Ytaopfoicdjejnaa
open Go.RowKit

theorem Try.info54 : (Try.prog.info? 54).map (fun i => (i.zero, i.size, i.bytes)) = some (some (.agg #[.int .u32 0, .int .i64 0]), 2, 16) := by kernel_rfl
theorem run_field88 (a b c : Int) (w : World) : (Instr.field 88 (.agg #[.int .i64 a, .int .i64 b, .int .i64 c]) 0).run Try.prog w = .ok (.int .i64 a) w := by kernel_rfl
theorem MpAt.made (w : World) : MpAt (w.alloc (.map #[] 0)) w.heap.size [] := ⟨#[], 0, by show (w.heap.push _)[w.heap.size]? = _; simp, rfl⟩

/-- A map's block is no row of cells: what could be read stays. -/
theorem keepsM {a b : World} {mb : Nat} {L : List (Stt × Stp)} (h : a.grownBy b (some mb)) (hm : MpAt a mb L) : Keeps a b := fun ad v hv => by
  obtain ⟨es, c, h1, _⟩ := hm
  have hne : ad.block ≠ mb := fun e => by rw [← e] at h1; simp [World.cell?, h1] at hv
  rw [World.cell?_of_block (h.block ad.block (block_lt hv) (fun e => hne (by injection e)))]
  exact hv
theorem grow_next {a b c : World} {row : Option Nat} (h : a.grownBy b row) (hb : Below b.heap.size b c) : a.grownBy c row :=
  ⟨hb.os.trans h.os, hb.tape.trans h.tape, hb.output.trans h.output, Nat.le_trans h.size hb.size, fun k hk hne => (hb.block k (Nat.lt_of_lt_of_le hk h.size)).trans (h.block k hk hne)⟩
theorem grow_row {a b c : World} {mb : Nat} {row : Option Nat} (h : a.grownBy b (some mb)) (hg : b.grownBy c row) (hr : ∀ k, row = some k → a.heap.size ≤ k ∨ k = mb) : a.grownBy c (some mb) :=
  ⟨hg.os.trans h.os, hg.tape.trans h.tape, hg.output.trans h.output, Nat.le_trans h.size hg.size, fun k hk hne => (hg.block k (Nat.lt_of_lt_of_le hk h.size) (fun e => by
    rcases hr k e.symm with h1 | h1
    · omega
    · exact hne (by rw [h1]))).trans (h.block k hk hne)⟩
/-- While a level is gone through. -/
structure LW (W1 : World) (mb : Nat) (v : Value) (st : Bst × List Stt) (wr : World) : Prop where
  gr : W1.grownBy wr (some mb)
  mp : ∃ L, MpAt wr mb L ∧ find2 L = st.1
  own : wr.ownsRow W1.heap.size 54 2 v st.2.length (st.2.flatMap sc)
  lt : mb < W1.heap.size
theorem LW.next {W1 : World} {mb : Nat} {v : Value} {st : Bst × List Stt} {wr w' : World} (h : LW W1 mb v st wr) (hb : Below wr.heap.size wr w') : LW W1 mb v st w' := by
  obtain ⟨L, h1, h2⟩ := h.mp
  exact ⟨grow_next h.gr hb, ⟨L, h1.next hb, h2⟩, own_below h.own hb, h.lt⟩
theorem LW.row {W1 : World} {mb : Nat} {v v' : Value} {st st' : Bst × List Stt} {wr w' : World} (h : LW W1 mb v st wr) (hg : wr.grownBy w' v.ownBlock) (ho : w'.ownsRow W1.heap.size 54 2 v' st'.2.length (st'.2.flatMap sc)) (h1 : st'.1 = st.1) : LW W1 mb v' st' w' := by
  obtain ⟨L, k1, k2⟩ := h.mp
  exact ⟨grow_row h.gr hg (fun k hk => .inl (h.own.lt k hk).1), ⟨L, k1.block (hg.block mb k1.lt (fun e => by have := (h.own.lt mb e.symm).1; have := h.lt; omega)), by rw [h1]; exact k2⟩, ho, h.lt⟩
theorem LW.map {W1 : World} {mb : Nat} {v : Value} {st st' : Bst × List Stt} {wr w' : World} {L : List (Stt × Stp)} (h : LW W1 mb v st wr) (hg : wr.grownBy w' (some mb)) (hm : MpAt w' mb L) (h1 : find2 L = st'.1) (h2 : st'.2 = st.2) : LW W1 mb v st' w' :=
  ⟨grow_row h.gr hg (fun k hk => .inr (by injection hk with hk; exact hk.symm)), ⟨L, hm, h1⟩, by rw [h2]; exact h.own.kept hg (by
    cases hv : v.ownBlock with
    | none => exact .inl rfl
    | some k => exact .inr (fun e => by have := (h.own.lt k hv).1; have := h.lt; injection e with e; omega)), h.lt⟩
/-- What was there at a world stays, but for a map and a row. -/
structure LC (wc : World) (mb : Nat) (v0 v : Value) (wr : World) : Prop where
  block : ∀ k, k < wc.heap.size → k ≠ mb → v0.ownBlock ≠ some k → wr.heap[k]? = wc.heap[k]?
  size : wc.heap.size ≤ wr.heap.size
  ob : v.ownBlock = v0.ownBlock ∨ ∀ k, v.ownBlock = some k → wc.heap.size ≤ k
theorem LC.refl (wc : World) (mb : Nat) (v : Value) : LC wc mb v v wc := ⟨fun _ _ _ _ => rfl, Nat.le_refl _, .inl rfl⟩
theorem LC.next {wc : World} {mb : Nat} {v0 v : Value} {wr w' : World} (h : LC wc mb v0 v wr) (hb : Below wr.heap.size wr w') : LC wc mb v0 v w' :=
  ⟨fun k hk h1 h2 => (hb.block k (Nat.lt_of_lt_of_le hk h.size)).trans (h.block k hk h1 h2), Nat.le_trans h.size hb.size, h.ob⟩
theorem LC.row {wc : World} {mb : Nat} {v0 v v' : Value} {wr w' : World} (h : LC wc mb v0 v wr) (hg : wr.grownBy w' v.ownBlock) (hw : v'.ownBlock = v.ownBlock ∨ ∀ k, v'.ownBlock = some k → wr.heap.size ≤ k) : LC wc mb v0 v' w' := by
  refine ⟨fun k hk h1 h2 => (hg.block k (Nat.lt_of_lt_of_le hk h.size) (fun e => ?_)).trans (h.block k hk h1 h2), Nat.le_trans h.size hg.size, ?_⟩
  · rcases h.ob with h3 | h3
    · exact h2 (by rw [← h3]; exact e.symm)
    · have := h3 k e.symm; omega
  · rcases hw with h3 | h3
    · rw [h3]; exact h.ob
    · exact .inr fun k hk => Nat.le_trans h.size (h3 k hk)
theorem LC.map {wc : World} {mb : Nat} {v0 v : Value} {wr w' : World} (h : LC wc mb v0 v wr) (hg : wr.grownBy w' (some mb)) : LC wc mb v0 v w' :=
  ⟨fun k hk h1 h2 => (hg.block k (Nat.lt_of_lt_of_le hk h.size) (fun e => h1 (by injection e))).trans (h.block k hk h1 h2), Nat.le_trans h.size hg.size, h.ob⟩
theorem LC.blk {wc : World} {mb : Nat} {v0 v : Value} {wr : World} {g : Nat} {cs : Array Value} {t : TypeId} (h : LC wc mb v0 v wr) (hk : Blk wc g cs t) (h1 : g ≠ mb) (h2 : v0.ownBlock ≠ some g) : Blk wr g cs t :=
  (h.block g hk.lt h1 h2).trans hk
theorem LC.ints {wc : World} {mb : Nat} {v0 v : Value} {wr : World} {q : Option Addr} {l : List Int} {L : List (Stt × Stp)} (h : LC wc mb v0 v wr) (hi : IntsAt .i64 wc q l) (hm : MpAt wc mb L) (hq : ∀ a, q = some a → v0.ownBlock ≠ some a.block) : IntsAt .i64 wr q l := fun hl => by
  obtain ⟨b, o, hp, hc⟩ := hi hl
  refine ⟨b, o, hp, fun i x hx => ?_⟩
  have h1 := hc i x hx
  have hne : b ≠ mb := fun e => by
    obtain ⟨es, c, h2, _⟩ := hm
    rw [← e] at h2
    simp [World.cell?, h2] at h1
  rw [World.cell?_of_block (h.block b (block_lt h1) hne (hq _ hp))]
  exact h1
theorem sc_len : ∀ x, (sc x).length = 2 := fun _ => rfl
theorem find_some {L : List (Stt × Stp)} {b : Bst} {x : Stt} (h : find2 L = b) : ∀ p, b x = some p → ∃ i, findL L x 0 = some (i, p) := fun p hp => by
  rw [← h, ← findL_2 L x 0] at hp
  obtain ⟨r, hr, rfl⟩ := Option.map_eq_some_iff.1 hp
  exact ⟨r.1, hr⟩
theorem find_none {L : List (Stt × Stp)} {b : Bst} {x : Stt} (h : find2 L = b) (hx : b x = none) : findL L x 0 = none := by
  rw [← h, ← findL_2 L x 0] at hx
  exact Option.map_eq_none_iff.1 hx
theorem foldl_take_succ {α β : Type} (f : β → α → β) (b : β) (l : List α) (i : Nat) (x : α) (hx : l[i]? = some x) : (l.take (i + 1)).foldl f b = f ((l.take i).foldl f b) x := by
  rw [List.take_add_one, hx, List.foldl_append]; rfl

theorem mk25 (w : World) (n : Nat) (hn : n ≤ 100000) : ∃ w', Sem.run Try.prog (Instr.makeSlice 25 (.int .i64 (n : Int)) (.int .i64 (n : Int))) w = .ok (.slice (some ⟨w.heap.size, 0, none⟩) n n) w' ∧
    w'.ownsRow w.heap.size 3 1 (.slice (some ⟨w.heap.size, 0, none⟩) n n) n ((List.replicate n (0 : Int)).map (Value.int .i64)) ∧ Below w.heap.size w w' ∧ w.heap.size < w'.heap.size := by
  obtain ⟨i, hi, h⟩ := Option.map_eq_some_iff.1 Try.info3
  simp only [Prod.mk.injEq] at h
  obtain ⟨hz, hs, hb⟩ := h
  obtain ⟨w', h1, h2, h3⟩ := run_makeSlice_full (P := Try.prog) w w.heap.size 25 3 i (.int .i64 0) 1 Try.underlying25 hi hz hs .i64 .i64 n (by omega) (by rw [hb]; omega) (by unfold maxLen; omega) (Nat.le_refl _)
  rw [show (madeCells (Value.cells (.int .i64 0)) (n * 1)).toList = (List.replicate n (0 : Int)).map (Value.int .i64) by rw [List.map_replicate, Nat.mul_one]; exact toList_madeCells_one (.int .i64 0) n] at h2
  refine ⟨w', h1, h2, (Below.refl _ _).grown h3 (Nat.le_refl _) (fun k hk => by cases hk), ?_⟩
  rcases h2.2 with ⟨hv, _⟩ | ⟨g, cap, cur, hv, _, hh, _⟩
  · cases hv
  · injection hv with hv; injection hv with hv; injection hv with hv
    rw [hv]; exact lt_of_block hh
theorem back_step {D : Nat → Nat → Int} {uf : Nat → Un} {n : Nat} {s : Bst × List Stt} (h : Full D uf n n s) {k : Stt} {p : Stp} {m : Nat} (hp : s.1 k = some p) (hc : cntF n k + (m + 1) = n) :
    (s.1 ⟨clearF k.done p.unit, p.off⟩).isSome = true ∧ cntF n ⟨clearF k.done p.unit, p.off⟩ + m = n ∧ p.unit < n := by
  rcases h.path k p hp with ⟨h1, h2⟩ | ⟨prev, h1, h2, h3, h4, h5⟩
  · have : cntF n ⟨0, none⟩ = n := by unfold cntF; rw [leftF_zero, List.length_range]
    rw [h1] at hc; omega
  · have hl := (choices_mem h4).1
    have hcl := clear_after hl
    have e : (⟨clearF k.done p.unit, p.off⟩ : Stt) = prev := by
      rw [h2, h3]
      show (⟨clearF (prev.done ||| 2 ^ p.unit) p.unit, prev.off⟩ : Stt) = prev
      rw [hcl]
    have hca := cnt_after (D := D) (us := uf) (t := 0) hl
    rw [← h2] at hca
    rw [e]
    exact ⟨h1, by omega, (mem_leftF.1 hl).1⟩
/-- While the way back is written. -/
structure BK (w : World) (mb g kb n : Nat) (L : List (Stt × Stp)) (st : Stt) (xs : List Int) (wr : World) : Prop where
  below : Below w.heap.size w wr
  mp : MpAt wr mb L
  own : wr.ownsRow w.heap.size 3 1 (.slice (some ⟨g, 0, none⟩) n n) n (xs.map (Value.int .i64))
  blk : Blk wr kb #[.int .u32 (st.done : Int), .int .i64 (offI st.off)] 54
  kg : kb ≠ g
  km : kb ≠ mb
  gm : g ≠ mb
  kw : w.heap.size ≤ kb
  gw : w.heap.size ≤ g
theorem BK.next {w : World} {mb g kb n : Nat} {L : List (Stt × Stp)} {st : Stt} {xs : List Int} {wr w' : World} (h : BK w mb g kb n L st xs wr) (hb : Below wr.heap.size wr w') : BK w mb g kb n L st xs w' :=
  ⟨bseq h.below hb, h.mp.next hb, own_below h.own hb, h.blk.next hb, h.kg, h.km, h.gm, h.kw, h.gw⟩
theorem BK.put {w : World} {mb g kb n : Nat} {L : List (Stt × Stp)} {st : Stt} {xs : List Int} {wr : World} (h : BK w mb g kb n L st xs wr) (i : Nat) (x : Int) : BK w mb g kb n L st (xs.set i x) (wr.setCell ⟨g, i, none⟩ (.int .i64 x)) :=
  ⟨h.below.setCell (p := ⟨g, i, none⟩) h.gw _, h.mp.set (a := ⟨g, i, none⟩) h.gm _, owni_set h.own i x, h.blk.set_other (a := ⟨g, i, none⟩) (fun e => h.kg e.symm) _, h.kg, h.km, h.gm, h.kw, h.gw⟩
theorem BK.box {w : World} {mb g kb n : Nat} {L : List (Stt × Stp)} {st : Stt} {xs : List Int} {wr : World} (h : BK w mb g kb n L st xs wr) (st' : Stt) :
    BK w mb g kb n L st' xs ((wr.setCell ⟨kb, 0, none⟩ (.int .u32 (st'.done : Int))).setCell ⟨kb, 1, none⟩ (.int .i64 (offI st'.off))) := by
  have hne : (Value.slice (some ⟨g, 0, none⟩) n n).ownBlock ≠ some kb := fun e => by simp [Value.ownBlock] at e; exact h.kg e.symm
  exact ⟨(h.below.setCell (p := ⟨kb, 0, none⟩) h.kw _).setCell (p := ⟨kb, 1, none⟩) h.kw _, (h.mp.set (a := ⟨kb, 0, none⟩) h.km _).set (a := ⟨kb, 1, none⟩) h.km _,
    ownsRow_setCell_other (ownsRow_setCell_other h.own (a := ⟨kb, 0, none⟩) hne _) (a := ⟨kb, 1, none⟩) hne _, (h.blk.set 0 _).set 1 _, h.kg, h.km, h.gm, h.kw, h.gw⟩
theorem BK.new {w : World} {mb g kb n : Nat} {L : List (Stt × Stp)} {st : Stt} {xs : List Int} {wr : World} (h : BK w mb g kb n L st xs wr) : BK w mb g wr.heap.size n L st xs (wr.alloc (.cells #[.int .u32 (st.done : Int), .int .i64 (offI st.off)] 54)) := by
  have hg := (h.own.lt g rfl).2
  have hm := h.mp.lt
  have := h.below.size
  have h1 := h.next (balloc (Below.refl _ _) (.cells #[.int .u32 (st.done : Int), .int .i64 (offI st.off)] 54))
  exact ⟨h1.below, h1.mp, h1.own, Blk.new _ _ _, by omega, by omega, h.gm, by omega, h.gw⟩
theorem choices_len {D : Nat → Nat → Int} {uf : Nat → Un} {n : Nat} {st : Stt} {t : Int} : (choicesF D uf n st t).length ≤ n + 1 := by
  have h1 : (leftF n st.done).length ≤ n := by
    unfold leftF
    have := List.length_filter_le (fun u => !st.done.testBit u) (List.range n)
    rwa [List.length_range] at this
  unfold choicesF
  split
  · simp
  · split
    · simp
    · have := List.length_filter_le (readyF D uf n st.done) (leftF n st.done)
      omega
theorem one_none {D : Nat → Nat → Int} {uf : Nat → Un} {now : Stt} {t : Int} {s : Bst × List Stt} {u : Nat} (h : s.1 (afterF uf now u) = none) : oneF D uf now t s u = (putF s.1 (afterF uf now u) ⟨beginF D uf now.off t u + (uf u).span, u, now.off⟩, s.2 ++ [afterF uf now u]) := by
  unfold oneF; rw [h]
theorem one_less {D : Nat → Nat → Int} {uf : Nat → Un} {now : Stt} {t : Int} {s : Bst × List Stt} {u : Nat} {old : Stp} (h : s.1 (afterF uf now u) = some old) (hl : beginF D uf now.off t u + (uf u).span < old.time) : oneF D uf now t s u = (putF s.1 (afterF uf now u) ⟨beginF D uf now.off t u + (uf u).span, u, now.off⟩, s.2) := by
  unfold oneF; rw [h]; simp only; rw [if_pos hl]
theorem one_not {D : Nat → Nat → Int} {uf : Nat → Un} {now : Stt} {t : Int} {s : Bst × List Stt} {u : Nat} {old : Stp} (h : s.1 (afterF uf now u) = some old) (hl : ¬ beginF D uf now.off t u + (uf u).span < old.time) : oneF D uf now t s u = s := by
  unfold oneF; rw [h]; simp only; rw [if_neg hl]
theorem sc_one (st : Stt) : ∀ u ∈ sc st, u.oneCell' = true := by
  intro u hu
  simp only [sc, List.mem_cons, List.not_mem_nil, or_false] at hu
  rcases hu with rfl | rfl <;> rfl

set_option maxRecDepth 100000 in
set_option maxHeartbeats 16000000 in
theorem full_c (sb : Nat) (d : List (List Int)) (us : List Uv) (fs : List Nat) (w : World) (R) (hS : SrF w sb d us fs) (hok : SrOk d us) (hfs : FsOk (dst d) (unF us) us.length fs) (hU : ∀ u < us.length, UnOk (dst d) (unF us) u)
    (hR0 : (fullF (dst d) (unF us) us.length us.length).2 = [] → ∀ w', Below w.heap.size w w' → R (.returned (.tuple #[.slice none 0 0, .bool false])) w')
    (hR1 : ∀ k L, (fullF (dst d) (unF us) us.length us.length).2 = k :: L → ∀ q c w', Below w.heap.size w w' → IntsAt .i64 w' q (nats (backF (fullF (dst d) (unF us) us.length us.length).1 us.length k [])) → R (.returned (.tuple #[.slice q us.length c, .bool true])) w') :
    Calls Try.prog 27 #[.pointer (some ⟨sb, 0, none⟩)] w R := by
  have HR0 := hide hR0; have HR1 := hide hR1; have HS := hide hS; have Hok := hide hok; have Hfs := hide hfs
  have hz1 : (w.alloc (.cells #[.int .u32 0, .int .i64 (-1)] 54)).heap.size = w.heap.size + 1 := by simp
  obtain ⟨w1, hm1, hM1, hg1⟩ := MpAt.update (MpAt.made (w.alloc (.cells #[.int .u32 0, .int .i64 (-1)] 54))) ⟨0, none⟩ ⟨0, 0, some 0⟩
  have hm2 : (Instr.mapUpdate 89 (.map (some (w.heap.size + 1))) (.agg #[.int .u32 0, .int .i64 (-1)]) (.agg #[.int .i64 0, .int .i64 0, .int .i64 0])).run Try.prog ((w.alloc (.cells #[.int .u32 0, .int .i64 (-1)] 54)).alloc (.map #[] 0)) = .ok () w1 := by rw [hz1] at hm1; exact hm1
  rw [hz1] at hM1 hg1
  have K1 := hide ((Blk.new w #[.int .u32 0, .int .i64 (-1)] 54).alloc (.map #[] 0))
  have hk1 : Blk w1 w.heap.size #[.int .u32 0, .int .i64 (-1)] 54 := (hg1.block w.heap.size (by simp; omega) (by simp)).trans K1.out
  have b0 := hk1.cell (k := 0) (v := .int .u32 0) rfl
  have b1 := hk1.cell (k := 1) (v := .int .i64 (-1)) rfl
  have hB1 : Below w.heap.size w w1 := (balloc (balloc (Below.refl _ _) _) _).grown hg1 (by simp; omega) (fun k hk => by injection hk with hk; omega)
  have HB1 := hide hB1
  obtain ⟨up, uc, c1⟩ := (hS.keep ((Keeps.of_below hB1).trans (Keeps.alloc w1 (.cells #[.int .u32 0, .int .i64 (-1)] 54)))).c1
  have HM1 := hide hM1
  have hmm := @run_makeMap Try.prog
  clear hR0 hR1 hS hok hfs hM1 hg1 K1 hk1 hB1 hm1 hz1
  obtain ⟨i0, hi0, hz0, hz1, hz2⟩ := info_parts Try.info54
  go_enter Try.func27, Try.ntmps27
  go_wp2
  have hW0 := hide (And.intro (balloc HB1.out (.cells #[.int .u32 0, .int .i64 (-1)] 54)) (And.intro (HM1.out.next (balloc (Below.refl _ _) (.cells #[.int .u32 0, .int .i64 (-1)] 54))) (EncAt.lit (w := w1) (t := 54) sc_len [(⟨0, none⟩ : Stt)])))
  clear c1 b0 b1 hm2 HB1 HM1 hmm
  have hmb : w.heap.size ≤ w.heap.size + 1 := by omega
  obtain ⟨mb, hmbe⟩ : ∃ mb, w.heap.size + 1 = mb := ⟨_, rfl⟩
  rw [hmbe] at hW0 hmb ⊢
  clear hmbe
  have hfew := Hok.out.few
  go_loopw [6, 33] (fun lv sr wr => ∃ (r : Nat) (q : Option Addr) (c : Nat), r ≤ us.length ∧ lv = .slice q (fullF (dst d) (unF us) us.length r).2.length c ∧ sr = .int .i64 r ∧ Hid (Below w.heap.size w wr ∧ (∃ L, MpAt wr mb L ∧ find2 L = (fullF (dst d) (unF us) us.length r).1) ∧ EncAt 2 sc wr q (fullF (dst d) (unF us) us.length r).2) ∧ Hid (FOk d (fullF (dst d) (unF us) us.length r))) (fun _ sr _ => us.length - (intOf sr).toNat)
  case atStart => exact ⟨0, _, 1, Nat.zero_le _, rfl, rfl, hide ⟨hW0.out.1, ⟨_, hW0.out.2.1, by rw [find2_put]; rfl⟩, hW0.out.2.2⟩, hide (FOk.start d)⟩
  case round =>
    clear hW0
    obtain ⟨r, q, c, hr, rfl, rfl, HI, HF⟩ := hrel
    by_cases hlt : r < us.length
    · obtain ⟨s0, hs0⟩ : ∃ s0, fullF (dst d) (unF us) us.length r = s0 := ⟨_, rfl⟩
      have Hs0 := hide (show fullF (dst d) (unF us) us.length (r + 1) = s0.2.foldl (nowF (dst d) (unF us) us.length) (s0.1, []) by rw [fullF, hs0]; rfl)
      rw [hs0] at HI HF ⊢
      clear hs0
      have hll := HF.out.len Hok.out.dist.few
      obtain ⟨W1, rfl⟩ : ∃ W1 : World, W1 = wr := ⟨_, rfl⟩
      go_wp2
      go_loopw [7, 37] (fun nv si wr => ∃ i : Nat, i ≤ s0.2.length ∧ si = .int .i64 i ∧ Hid (LW W1 mb nv ((s0.2.take i).foldl (nowF (dst d) (unF us) us.length) (s0.1, [])) wr) ∧ Hid (FOk d ((s0.2.take i).foldl (nowF (dst d) (unF us) us.length) (s0.1, [])) ∧ ∀ k ∈ s0.2, (((s0.2.take i).foldl (nowF (dst d) (unF us) us.length) (s0.1, [])).1 k).isSome = true)) (fun _ si _ => s0.2.length - (intOf si).toNat)
      case atStart => exact ⟨0, Nat.zero_le _, rfl, hide ⟨World.grownBy.refl _ _, HI.out.2.1, World.ownsRow_nil .., by obtain ⟨L, h, _⟩ := HI.out.2.1; exact h.lt⟩, hide ⟨HF.out.level, HF.out.mem⟩⟩
      case round =>
        obtain ⟨i, hi, rfl, HL, HG⟩ := hrel
        by_cases hlti : i < s0.2.length
        · obtain ⟨Li, hLi, hLi2⟩ := HI.out.2.1
          have HK := hide (keepsM HL.out.gr hLi)
          obtain ⟨eb, eo, now, rfl, hnow, hcn⟩ := (HI.out.2.2.keep HK.out).at_ hlti
          have n0 := hcn 0 _ rfl
          have n1 := hcn 1 _ rfl
          simp only [Nat.add_zero] at n0
          have Hfold := hide (foldl_take_succ (nowF (dst d) (unF us) us.length) (s0.1, []) s0.2 i now hnow)
          have hmem := List.mem_of_getElem? hnow
          have Hmem := hide hmem
          have Hnow := hide hnow
          obtain ⟨s, hs⟩ : ∃ s, (s0.2.take i).foldl (nowF (dst d) (unF us) us.length) (s0.1, []) = s := ⟨_, rfl⟩
          rw [hs] at HL HG Hfold
          clear hs hcn hmem hnow hLi hLi2
          obtain ⟨p, hp⟩ := Option.isSome_iff_exists.1 (HG.out.2 now Hmem.out)
          have hst := HG.out.1.time (HG.out.2 now Hmem.out)
          obtain ⟨t, ht⟩ : ∃ t, timeF s.1 now = t := ⟨_, rfl⟩
          have htp : p.time = t := by rw [← ht]; unfold timeF; rw [hp]; rfl
          rw [ht] at hst
          have Ht := hide ht
          have Hst := hide hst
          have h00 := hst.lo
          have h01 := hst.hi
          obtain ⟨L, hL, hL2⟩ := HL.out.mp
          obtain ⟨ix, hix⟩ := find_some hL2 p hp
          have hlk := (hL.next (w' := wr.alloc (.cells #[.int .u32 (now.done : Int), .int .i64 (offI now.off)] 54)) (balloc (Below.refl _ _) _)).lookup now false
          rw [hix] at hlk
          simp only [Bool.false_eq_true, if_false, pv, sv, htp] at hlk
          have hfld := run_field88 t p.unit (offI p.off)
          have HK0 := hide (Blk.new wr #[.int .u32 (now.done : Int), .int .i64 (offI now.off)] 54)
          have k0 := HK0.out.cell (k := 0) (v := .int .u32 (now.done : Int)) rfl
          have k1 := HK0.out.cell (k := 1) (v := .int .i64 (offI now.off)) rfl
          have HS1 := hide (HS.out.keep (((Keeps.of_below HI.out.1).trans HK.out).trans (Keeps.alloc wr (.cells #[.int .u32 (now.done : Int), .int .i64 (offI now.off)] 54))))
          clear ht htp hst hp hix hL hL2
          go_wp2_with (go_at_call 43; refine Stop.out ?_)
          refine Stop.go (choices_c sb d us fs now.done now.off t _ _ HS1.out Hok.out Hfs.out Hst.out.done Hst.out.lo Hst.out.hi Hst.out.off ?_)
          intro cq cc wc hb hcq hcb
          have hC0 : choicesF (dst d) (unF us) us.length ⟨now.done, now.off⟩ t = choicesF (dst d) (unF us) us.length now t := rfl
          rw [hC0] at hcq ⊢
          clear hC0
          have hnw := hide (show nowF (dst d) (unF us) us.length s now = (choicesF (dst d) (unF us) us.length now t).foldl (oneF (dst d) (unF us) now t) s by unfold nowF; rw [Ht.out])
          have hCm := hide (fun u (h : u ∈ choicesF (dst d) (unF us) us.length now t) => choices_mem h)
          have hCl := hide (show (choicesF (dst d) (unF us) us.length now t).length ≤ 17 from Nat.le_trans choices_len (by have := Hok.out.few; omega))
          obtain ⟨C, hC⟩ : ∃ C, choicesF (dst d) (unF us) us.length now t = C := ⟨_, rfl⟩
          rw [hC] at hcq hnw hCm hCl ⊢
          clear hC
          have hbox := balloc (Below.refl wr.heap.size wr) (.cells #[.int .u32 (now.done : Int), .int .i64 (offI now.off)] 54)
          have hbw := bseq hbox hb
          have HL1 := hide (HL.out.next hbw)
          have HS2 := hide (HS1.out.keep (Keeps.of_below hb))
          have HK2 := hide (HK0.out.next hb)
          have hg0 : ∀ k, u7.ownBlock = some k → k < wr.heap.size := fun k hk => (HL.out.own.lt k hk).2
          have HLC := hide (And.intro (LC.refl wc mb u7) (And.intro (show u7.ownBlock ≠ some wr.heap.size from fun e => by have := hg0 _ e; omega) (show ∀ a, cq = some a → u7.ownBlock ≠ some a.block from fun a ha e => by have := hg0 _ e; have := hcb a ha; simp at this; omega)))
          have hbn := HL.out.lt
          have hbn2 := HL.out.gr.size
          have Hcq := hide hcq
          obtain ⟨nb, hnb⟩ : ∃ nb, wr.heap.size = nb := ⟨_, rfl⟩
          rw [hnb] at HK2 HLC ⊢
          have hnbm : nb ≠ mb := by omega
          clear hb hcb hbox hbw HL HK0 HS1 k0 k1 n0 n1 hlk hfld hg0 hbn hbn2 hnb hcq
          obtain ⟨v0, rfl⟩ : ∃ v0 : Value, v0 = u7 := ⟨_, rfl⟩
          have HSf : Hid (∀ w', W1.grownBy w' (some mb) → SrF w' sb d us fs) := hide (fun w' hg => by obtain ⟨L, h, _⟩ := HI.out.2.1; exact HS.out.keep ((Keeps.of_below HI.out.1).trans (keepsM hg h)))
          have hMc := hide HL1.out.mp
          have hcl17 := hCl.out
          go_wp2
          go_loopw [7, 50] (fun nv sj wr => ∃ j : Nat, j ≤ C.length ∧ sj = .int .i64 j ∧ Hid (LW W1 mb nv ((C.take j).foldl (oneF (dst d) (unF us) now t) s) wr) ∧ Hid (FOk d ((C.take j).foldl (oneF (dst d) (unF us) now t) s) ∧ ∀ k ∈ s0.2, (((C.take j).foldl (oneF (dst d) (unF us) now t) s).1 k).isSome = true) ∧ Hid (LC wc mb v0 nv wr)) (fun _ sj _ => C.length - (intOf sj).toNat)
          case atStart => exact ⟨0, Nat.zero_le _, rfl, HL1, HG, hide HLC.out.1⟩
          case round =>
            clear HL1 HS2
            obtain ⟨j, hj, rfl, HL1, HG1, HLC1⟩ := hrel
            obtain ⟨nv, rfl⟩ : ∃ nv : Value, nv = u7 := ⟨_, rfl⟩
            by_cases hltj : j < C.length
            · obtain ⟨Lc, hLc, _⟩ := hMc.out
              obtain ⟨ib, io, ux, rfl, hux, hcu⟩ := (HLC1.out.ints Hcq.out hLc HLC.out.2.2).at_ (i := j) (by simp [nats]; omega)
              obtain ⟨u, hu, rfl⟩ : ∃ u : Nat, C[j]? = some u ∧ (u : Int) = ux := by
                unfold nats at hux
                rw [List.getElem?_map] at hux
                obtain ⟨y, hy, e⟩ := Option.map_eq_some_iff.1 hux
                exact ⟨y, hy, e⟩
              have HuC := hide (List.mem_of_getElem? hu)
              have Hfold1 := hide (foldl_take_succ (oneF (dst d) (unF us) now t) s C j u hu)
              obtain ⟨hmem, hbeg⟩ := hCm.out u (List.mem_of_getElem? hu)
              have hun := (mem_leftF.1 hmem).1
              obtain ⟨s1, hs1⟩ : ∃ s1, (C.take j).foldl (oneF (dst d) (unF us) now t) s = s1 := ⟨_, rfl⟩
              rw [hs1] at HL1 HG1 Hfold1
              have HNB := hide (HLC1.out.blk HK2.out hnbm HLC.out.2.1)
              clear hLc hux hu hmem hs1
              obtain ⟨y, hy⟩ : ∃ y, beginF (dst d) (unF us) now.off t u = y := ⟨_, rfl⟩
              obtain ⟨sp, hsp⟩ : ∃ sp, (unF us u).span = sp := ⟨_, rfl⟩
              have hbd := begin_bd (off := now.off) (time := t) Hok.out hun
              rw [hsp, hy] at hbd
              rw [hy] at hbeg
              have Hy := hide hy; have Hsp := hide hsp
              clear hy hsp
              obtain ⟨z1, z2, z3, z4⟩ := hbd
              have hwr : IntKind.i64.wrap (y + sp) = y + sp := IntWalk.i64_in _ (by omega)
              have k0 := HNB.out.cell (k := 0) (v := .int .u32 (now.done : Int)) rfl
              have k1 := HNB.out.cell (k := 1) (v := .int .i64 (offI now.off)) rfl
              go_wp2_with (go_at_call 29; refine Stop.out ?_)
              refine Stop.go (after_c sb d us now.done (offI now.off) u _ _ (HSf.out _ HL1.out.gr).1 Hok.out hun Hst.out.done ?_)
              intro w3 hb
              obtain ⟨z, hz⟩ : ∃ z, now.done ||| 2 ^ u = z := ⟨_, rfl⟩
              obtain ⟨x2, hx2⟩ : ∃ x2, offI (some (unF us u).exit) = x2 := ⟨_, rfl⟩
              rw [hz, hx2]
              have Hrea := hide (show sv (afterF (unF us) now u) = .agg #[.int .u32 (z : Int), .int .i64 x2] by rw [← hz, ← hx2]; rfl)
              have Hsc := hide (show sc (afterF (unF us) now u) = [.int .u32 (z : Int), .int .i64 x2] by rw [← hz, ← hx2]; rfl)
              clear hz hx2
              have hal := balloc (Below.refl w3.heap.size w3) (.cells #[.int .u32 (z : Int), .int .i64 x2] 54)
              have hb4 := bseq hb hal
              have HL4 := hide (HL1.out.next hb4); have HC4 := hide (HLC1.out.next hb4); have HN4 := hide (HNB.out.next hb4)
              have HR4 := hide (Blk.new w3 #[.int .u32 (z : Int), .int .i64 x2] 54)
              have hnr : ∀ k, nv.ownBlock = some k → k < w3.heap.size := fun k hk => Nat.lt_of_lt_of_le (HL1.out.own.lt k hk).2 hb.size
              clear hb hal hb4 HL1 HLC1 HNB k0 k1 hcu
              have k0 := HN4.out.cell (k := 0) (v := .int .u32 (now.done : Int)) rfl
              have k1 := HN4.out.cell (k := 1) (v := .int .i64 (offI now.off)) rfl
              have HS4 := hide (HSf.out _ HL4.out.gr)
              obtain ⟨ux, hux⟩ : ∃ ux, us[u]? = some ux := ⟨_, List.getElem?_eq_getElem hun⟩
              have hspx : ux.un.span = sp := by rw [← Hsp.out, unF_at hux]
              obtain ⟨dp, dc, ub, uo, uc', c0, c1, hrow, cu⟩ := HS4.out.1.at_ hux
              have hi1 : (0 : Int) ≤ (u : Int) := by omega
              have hi2 : (u : Int) < (us.length : Int) := by omega
              have HX := hide (Hok.out.ok ux (List.mem_of_getElem? hux)).1
              clear c0 hrow hux
              go_wp2
              rcases ux with ⟨ui, ue⟩ | ⟨ug, ua, ub'⟩
              · simp only [Uv.val, Uv.un, Uv.Ok] at cu HX hspx
                subst hspx
                rw [Int.add_zero] at hwr
                have f3 := m1_span; have f4 := m2_span
                obtain ⟨w4, hw4⟩ : ∃ w4, w3.alloc (.cells #[.int .u32 (z : Int), .int .i64 x2] 54) = w4 := ⟨_, rfl⟩
                obtain ⟨rb, hrb⟩ : ∃ rb, w3.heap.size = rb := ⟨_, rfl⟩
                rw [hw4] at HL4 HC4 HN4 HR4 k0 k1 HS4 c1 cu ⊢
                rw [hrb] at HR4 hnr ⊢
                clear hw4 hrb
                have KB : Hid (∀ w', Below w4.heap.size w4 w' → Below w4.heap.size w4 w' ∧ w'.cell? ⟨nb, 0, none⟩ = some (.int .u32 (now.done : Int)) ∧ w'.cell? ⟨nb, 1, none⟩ = some (.int .i64 (offI now.off)) ∧ w'.cell? ⟨sb, 1, none⟩ = some (.slice (some ⟨ub, uo, none⟩) us.length uc') ∧ w'.cell? ⟨ub, uo + u, none⟩ = some (.iface 80 (agOne ui ue))) :=
                  hide (fun w' hb => ⟨hb, cell_later hb k0, cell_later hb k1, cell_later hb c1, cell_later hb cu⟩)
                clear k0 k1 c1 cu
                go_region_held3 (fun w' => Below w4.heap.size w4 w' ∧ w'.cell? ⟨nb, 0, none⟩ = some (.int .u32 (now.done : Int)) ∧ w'.cell? ⟨nb, 1, none⟩ = some (.int .i64 (offI now.off)) ∧ w'.cell? ⟨sb, 1, none⟩ = some (.slice (some ⟨ub, uo, none⟩) us.length uc') ∧ w'.cell? ⟨ub, uo + u, none⟩ = some (.iface 80 (agOne ui ue)))
                  (first | exact KB.out _ b5 | exact KB.out _ b6 | exact KB.out _ ((Below.refl _ _).drew))
                  (first
                    | (go_at_call 28; refine begin_c sb d us now.done now.off t u _ _ (SrAt.keep (Keeps.of_below (by first | exact b6 | exact (Below.refl _ _).drew)) HS4.out.1) Hok.out hun Hst.out.lo Hst.out.hi Hst.out.off ?_; intro w5 hb5; rw [Hy.out]; have b5 : Below w4.heap.size w4 w5 := (by first | exact bseq b6 hb5 | exact bseq ((Below.refl _ _).drew) hb5))
                    | (go_at_call 75; refine spanOne_c _ _ _ _ ?_; intro w6 hb6; have b6 : Below w4.heap.size w4 w6 := (by first | exact bseq b5 hb6 | exact bseq ((Below.refl _ _).drew) hb6))
                    | (go_at_call 70; refine spanLeg_c _ _ _ _ _ ?_; intro w6 hb6; have b6 : Below w4.heap.size w4 w6 := (by first | exact bseq b5 hb6 | exact bseq ((Below.refl _ _).drew) hb6)))
                all_goals
                  rename_i hS
                  obtain ⟨hb2, _⟩ := hS
                  have HL5 := hide (HL4.out.next hb2); have HC5 := hide (HC4.out.next hb2); have HN5 := hide (HN4.out.next hb2); have HR5 := hide (HR4.out.next hb2)
                  clear hb2 HL4 HC4 HN4 HR4 hwr f3 f4 KB HX
                  try clear hb5 b5
                  try clear hb6 b6
                  obtain ⟨e, he⟩ : ∃ e, y = e := ⟨_, rfl⟩
                  have He := hide (show beginF (dst d) (unF us) now.off t u + (unF us u).span = e by rw [Hy.out, Hsp.out, ← he]; exact Int.add_zero y)
                  rw [he]
                  clear he Hy Hsp z1 z2 z3 z4 HS4
                  have HG2 := hide (HG1.out.1.one Hok.out Hst.out hun (hCm.out u HuC.out).2)
                  have HG3 := hide (fun k (hk : k ∈ s0.2) => one_some (D := dst d) (uf := unF us) (now := now) (t := t) (u := u) (HG1.out.2 k hk))
                  have hll1 := HG1.out.1.len Hok.out.dist.few
                  obtain ⟨L5, hL5, hL52⟩ := HL5.out.mp
                  have hlk := hL5.lookup (afterF (unF us) now u) true
                  rw [Hrea.out] at hlk
                  have r0 := HR5.out.cell (k := 0) (v := .int .u32 (z : Int)) rfl
                  have r1 := HR5.out.cell (k := 1) (v := .int .i64 x2) rfl
                  cases hl : s1.1 (afterF (unF us) now u) with
                  | none =>
                    rw [find_none hL52 hl] at hlk
                    simp only [if_true] at hlk
                    have Ho := hide (one_none (D := dst d) (uf := unF us) (now := now) (t := t) (u := u) hl)
                    have HL6 := hide (HL5.out.next (balloc (balloc (Below.refl _ _) (.cells #[.int .i64 0, .int .i64 0, .int .i64 0] 88)) (.cells #[.int .u32 (z : Int), .int .i64 x2] 54)))
                    have HC6 := hide (HC5.out.next (balloc (balloc (Below.refl _ _) (.cells #[.int .i64 0, .int .i64 0, .int .i64 0] 88)) (.cells #[.int .u32 (z : Int), .int .i64 x2] 54)))
                    have HR6 := hide (HR5.out.next (balloc (balloc (Below.refl _ _) (.cells #[.int .i64 0, .int .i64 0, .int .i64 0] 88)) (.cells #[.int .u32 (z : Int), .int .i64 x2] 54)))
                    have HR5a := hide (HR5.out.next (balloc (Below.refl _ _) (.cells #[.int .i64 0, .int .i64 0, .int .i64 0] 88)))
                    have r2 := HR5a.out.cell (k := 0) (v := .int .u32 (z : Int)) rfl
                    have r3 := HR5a.out.cell (k := 1) (v := .int .i64 x2) rfl
                    clear hl hL5 hL52
                    go_wp2_with (at_builtin; refine Stop.out ?_)
                    refine Stop.go ?_
                    refine wpList_append_where rfl (.tmp 80) (.tmp 82) 90 rfl W1.heap.size 54 i0 _ 2 16 Try.underlying90 hi0 hz0 hz1 hz2 rfl (by omega) _ s1.2.length (s1.2.flatMap sc) rfl HL6.out.own _ 1 1 [.int .u32 (z : Int), .int .i64 x2] rfl rfl ?_ (by rw [← Hsc.out]; exact sc_one _) (by unfold maxLen; omega) (by omega) HL6.out.gr.size ?_
                    · intro jj uu hh
                      rw [Addr.add_lit, Nat.zero_add]
                      exact (Blk.new_at (by simp)).cell (by simpa using hh)
                    intro v7 w7 hown hg hw
                    rw [← Hsc.out] at hown
                    have HL7 := hide (HL6.out.row (st' := (s1.1, s1.2 ++ [afterF (unF us) now u])) hg (by simpa using hown) rfl)
                    have HC7 := hide (HC6.out.row hg hw)
                    have HN7 := hide (HC7.out.blk HK2.out hnbm HLC.out.2.1)
                    have HR7 := hide (show Blk w7 rb #[.int .u32 (z : Int), .int .i64 x2] 54 from (hg.block rb HR6.out.lt (fun e => by have := hnr rb e.symm; omega)).trans HR6.out)
                    obtain ⟨L7, hL7, hL72⟩ := HL7.out.mp
                    obtain ⟨w8, hu8, hM8, hg8⟩ := hL7.update (afterF (unF us) now u) ⟨e, u, now.off⟩
                    rw [Hrea.out] at hu8
                    simp only [pv] at hu8
                    have HL8 := hide (HL7.out.map (st' := (putF s1.1 (afterF (unF us) now u) ⟨e, u, now.off⟩, s1.2 ++ [afterF (unF us) now u])) hg8 hM8 (by rw [find2_put, hL72]) rfl)
                    have HC8 := hide (HC7.out.map hg8)
                    have q0 := HR7.out.cell (k := 0) (v := .int .u32 (z : Int)) rfl
                    have q1 := HR7.out.cell (k := 1) (v := .int .i64 x2) rfl
                    have q2 := HN7.out.cell (k := 1) (v := .int .i64 (offI now.off)) rfl
                    clear hown hg hw hL7 hL72 hM8 hg8 r0 r1 r2 r3 hlk HL5 HC5 HN5 HR5 HL6 HC6 HR6 HR5a HL7 HC7 HN7 HR7
                    go_wp2_with fail
                    clear q0 q1 q2 hu8
                    go_roundw
                    case rel =>
                      rw [He.out] at Ho
                      exact ⟨j + 1, by omega, by go_num, by rw [Hfold1.out, Ho.out]; exact HL8, by rw [Hfold1.out]; exact hide ⟨HG2.out, HG3.out⟩, HC8⟩
                    case measure => simp [intOf]; omega
                  | some old =>
                    obtain ⟨ix, hix⟩ := find_some hL52 old hl
                    rw [hix] at hlk
                    simp only [if_true, pv] at hlk
                    have HL6 := hide (HL5.out.next (balloc (Below.refl _ _) (.cells #[.int .i64 old.time, .int .i64 (old.unit : Int), .int .i64 (offI old.off)] 88)))
                    have HC6 := hide (HC5.out.next (balloc (Below.refl _ _) (.cells #[.int .i64 old.time, .int .i64 (old.unit : Int), .int .i64 (offI old.off)] 88)))
                    have HR6 := hide (HR5.out.next (balloc (Below.refl _ _) (.cells #[.int .i64 old.time, .int .i64 (old.unit : Int), .int .i64 (offI old.off)] 88)))
                    have HN6 := hide (HN5.out.next (balloc (Below.refl _ _) (.cells #[.int .i64 old.time, .int .i64 (old.unit : Int), .int .i64 (offI old.off)] 88)))
                    obtain ⟨L7, hL7, hL72⟩ := HL6.out.mp
                    obtain ⟨w8, hu8, hM8, hg8⟩ := hL7.update (afterF (unF us) now u) ⟨e, u, now.off⟩
                    rw [Hrea.out] at hu8
                    simp only [pv] at hu8
                    have HL8 := hide (HL6.out.map (st' := (putF s1.1 (afterF (unF us) now u) ⟨e, u, now.off⟩, s1.2)) hg8 hM8 (by rw [find2_put, hL72]) rfl)
                    have HC8 := hide (HC6.out.map hg8)
                    have q0 := HR6.out.cell (k := 0) (v := .int .u32 (z : Int)) rfl
                    have q1 := HR6.out.cell (k := 1) (v := .int .i64 x2) rfl
                    have q2 := HN6.out.cell (k := 1) (v := .int .i64 (offI now.off)) rfl
                    clear hL5 hL52 hix hL7 hL72 hM8 hg8
                    by_cases hlt' : e < old.time
                    · have Ho := hide (one_less (D := dst d) (uf := unF us) (now := now) (t := t) (u := u) hl (by rw [He.out]; exact hlt'))
                      clear hl
                      go_wp2
                      clear r0 r1 q0 q1 q2 hu8 hlk
                      go_roundw
                      case rel =>
                        rw [He.out] at Ho
                        exact ⟨j + 1, by omega, by go_num, by rw [Hfold1.out, Ho.out]; exact HL8, by rw [Hfold1.out]; exact hide ⟨HG2.out, HG3.out⟩, HC8⟩
                      case measure => simp [intOf]; omega
                    · have Ho := hide (one_not (D := dst d) (uf := unF us) (now := now) (t := t) (u := u) hl (by rw [He.out]; exact hlt'))
                      clear hl
                      go_wp2
                      clear r0 r1 q0 q1 q2 hu8 hlk
                      go_roundw
                      case rel =>
                        exact ⟨j + 1, by omega, by go_num, by rw [Hfold1.out, Ho.out]; exact HL6, by rw [Hfold1.out]; exact hide ⟨HG2.out, HG3.out⟩, HC6⟩
                      case measure => simp [intOf]; omega
              · simp only [Uv.val, Uv.un, Uv.Ok] at cu HX hspx
                subst hspx
                skip
                have f3 := m1_span; have f4 := m2_span
                obtain ⟨w4, hw4⟩ : ∃ w4, w3.alloc (.cells #[.int .u32 (z : Int), .int .i64 x2] 54) = w4 := ⟨_, rfl⟩
                obtain ⟨rb, hrb⟩ : ∃ rb, w3.heap.size = rb := ⟨_, rfl⟩
                rw [hw4] at HL4 HC4 HN4 HR4 k0 k1 HS4 c1 cu ⊢
                rw [hrb] at HR4 hnr ⊢
                clear hw4 hrb
                have KB : Hid (∀ w', Below w4.heap.size w4 w' → Below w4.heap.size w4 w' ∧ w'.cell? ⟨nb, 0, none⟩ = some (.int .u32 (now.done : Int)) ∧ w'.cell? ⟨nb, 1, none⟩ = some (.int .i64 (offI now.off)) ∧ w'.cell? ⟨sb, 1, none⟩ = some (.slice (some ⟨ub, uo, none⟩) us.length uc') ∧ w'.cell? ⟨ub, uo + u, none⟩ = some (.iface 78 (agLeg ug ua ub'))) :=
                  hide (fun w' hb => ⟨hb, cell_later hb k0, cell_later hb k1, cell_later hb c1, cell_later hb cu⟩)
                clear k0 k1 c1 cu
                go_region_held3 (fun w' => Below w4.heap.size w4 w' ∧ w'.cell? ⟨nb, 0, none⟩ = some (.int .u32 (now.done : Int)) ∧ w'.cell? ⟨nb, 1, none⟩ = some (.int .i64 (offI now.off)) ∧ w'.cell? ⟨sb, 1, none⟩ = some (.slice (some ⟨ub, uo, none⟩) us.length uc') ∧ w'.cell? ⟨ub, uo + u, none⟩ = some (.iface 78 (agLeg ug ua ub')))
                  (first | exact KB.out _ b5 | exact KB.out _ b6 | exact KB.out _ ((Below.refl _ _).drew))
                  (first
                    | (go_at_call 28; refine begin_c sb d us now.done now.off t u _ _ (SrAt.keep (Keeps.of_below (by first | exact b6 | exact (Below.refl _ _).drew)) HS4.out.1) Hok.out hun Hst.out.lo Hst.out.hi Hst.out.off ?_; intro w5 hb5; rw [Hy.out]; have b5 : Below w4.heap.size w4 w5 := (by first | exact bseq b6 hb5 | exact bseq ((Below.refl _ _).drew) hb5))
                    | (go_at_call 75; refine spanOne_c _ _ _ _ ?_; intro w6 hb6; have b6 : Below w4.heap.size w4 w6 := (by first | exact bseq b5 hb6 | exact bseq ((Below.refl _ _).drew) hb6))
                    | (go_at_call 70; refine spanLeg_c _ _ _ _ _ ?_; intro w6 hb6; have b6 : Below w4.heap.size w4 w6 := (by first | exact bseq b5 hb6 | exact bseq ((Below.refl _ _).drew) hb6)))
                all_goals
                  rename_i hS
                  obtain ⟨hb2, _⟩ := hS
                  have HL5 := hide (HL4.out.next hb2); have HC5 := hide (HC4.out.next hb2); have HN5 := hide (HN4.out.next hb2); have HR5 := hide (HR4.out.next hb2)
                  clear hb2 HL4 HC4 HN4 HR4 hwr f3 f4 KB HX
                  try clear hb5 b5
                  try clear hb6 b6
                  obtain ⟨e, he⟩ : ∃ e, y + ug.gap = e := ⟨_, rfl⟩
                  have He := hide (show beginF (dst d) (unF us) now.off t u + (unF us u).span = e by rw [Hy.out, Hsp.out, ← he])
                  rw [he]
                  clear he Hy Hsp z1 z2 z3 z4 HS4
                  have HG2 := hide (HG1.out.1.one Hok.out Hst.out hun (hCm.out u HuC.out).2)
                  have HG3 := hide (fun k (hk : k ∈ s0.2) => one_some (D := dst d) (uf := unF us) (now := now) (t := t) (u := u) (HG1.out.2 k hk))
                  have hll1 := HG1.out.1.len Hok.out.dist.few
                  obtain ⟨L5, hL5, hL52⟩ := HL5.out.mp
                  have hlk := hL5.lookup (afterF (unF us) now u) true
                  rw [Hrea.out] at hlk
                  have r0 := HR5.out.cell (k := 0) (v := .int .u32 (z : Int)) rfl
                  have r1 := HR5.out.cell (k := 1) (v := .int .i64 x2) rfl
                  cases hl : s1.1 (afterF (unF us) now u) with
                  | none =>
                    rw [find_none hL52 hl] at hlk
                    simp only [if_true] at hlk
                    have Ho := hide (one_none (D := dst d) (uf := unF us) (now := now) (t := t) (u := u) hl)
                    have HL6 := hide (HL5.out.next (balloc (balloc (Below.refl _ _) (.cells #[.int .i64 0, .int .i64 0, .int .i64 0] 88)) (.cells #[.int .u32 (z : Int), .int .i64 x2] 54)))
                    have HC6 := hide (HC5.out.next (balloc (balloc (Below.refl _ _) (.cells #[.int .i64 0, .int .i64 0, .int .i64 0] 88)) (.cells #[.int .u32 (z : Int), .int .i64 x2] 54)))
                    have HR6 := hide (HR5.out.next (balloc (balloc (Below.refl _ _) (.cells #[.int .i64 0, .int .i64 0, .int .i64 0] 88)) (.cells #[.int .u32 (z : Int), .int .i64 x2] 54)))
                    have HR5a := hide (HR5.out.next (balloc (Below.refl _ _) (.cells #[.int .i64 0, .int .i64 0, .int .i64 0] 88)))
                    have r2 := HR5a.out.cell (k := 0) (v := .int .u32 (z : Int)) rfl
                    have r3 := HR5a.out.cell (k := 1) (v := .int .i64 x2) rfl
                    clear hl hL5 hL52
                    go_wp2_with (at_builtin; refine Stop.out ?_)
                    refine Stop.go ?_
                    refine wpList_append_where rfl (.tmp 80) (.tmp 82) 90 rfl W1.heap.size 54 i0 _ 2 16 Try.underlying90 hi0 hz0 hz1 hz2 rfl (by omega) _ s1.2.length (s1.2.flatMap sc) rfl HL6.out.own _ 1 1 [.int .u32 (z : Int), .int .i64 x2] rfl rfl ?_ (by rw [← Hsc.out]; exact sc_one _) (by unfold maxLen; omega) (by omega) HL6.out.gr.size ?_
                    · intro jj uu hh
                      rw [Addr.add_lit, Nat.zero_add]
                      exact (Blk.new_at (by simp)).cell (by simpa using hh)
                    intro v7 w7 hown hg hw
                    rw [← Hsc.out] at hown
                    have HL7 := hide (HL6.out.row (st' := (s1.1, s1.2 ++ [afterF (unF us) now u])) hg (by simpa using hown) rfl)
                    have HC7 := hide (HC6.out.row hg hw)
                    have HN7 := hide (HC7.out.blk HK2.out hnbm HLC.out.2.1)
                    have HR7 := hide (show Blk w7 rb #[.int .u32 (z : Int), .int .i64 x2] 54 from (hg.block rb HR6.out.lt (fun e => by have := hnr rb e.symm; omega)).trans HR6.out)
                    obtain ⟨L7, hL7, hL72⟩ := HL7.out.mp
                    obtain ⟨w8, hu8, hM8, hg8⟩ := hL7.update (afterF (unF us) now u) ⟨e, u, now.off⟩
                    rw [Hrea.out] at hu8
                    simp only [pv] at hu8
                    have HL8 := hide (HL7.out.map (st' := (putF s1.1 (afterF (unF us) now u) ⟨e, u, now.off⟩, s1.2 ++ [afterF (unF us) now u])) hg8 hM8 (by rw [find2_put, hL72]) rfl)
                    have HC8 := hide (HC7.out.map hg8)
                    have q0 := HR7.out.cell (k := 0) (v := .int .u32 (z : Int)) rfl
                    have q1 := HR7.out.cell (k := 1) (v := .int .i64 x2) rfl
                    have q2 := HN7.out.cell (k := 1) (v := .int .i64 (offI now.off)) rfl
                    clear hown hg hw hL7 hL72 hM8 hg8 r0 r1 r2 r3 hlk HL5 HC5 HN5 HR5 HL6 HC6 HR6 HR5a HL7 HC7 HN7 HR7
                    go_wp2_with fail
                    clear q0 q1 q2 hu8
                    go_roundw
                    case rel =>
                      rw [He.out] at Ho
                      exact ⟨j + 1, by omega, by go_num, by rw [Hfold1.out, Ho.out]; exact HL8, by rw [Hfold1.out]; exact hide ⟨HG2.out, HG3.out⟩, HC8⟩
                    case measure => simp [intOf]; omega
                  | some old =>
                    obtain ⟨ix, hix⟩ := find_some hL52 old hl
                    rw [hix] at hlk
                    simp only [if_true, pv] at hlk
                    have HL6 := hide (HL5.out.next (balloc (Below.refl _ _) (.cells #[.int .i64 old.time, .int .i64 (old.unit : Int), .int .i64 (offI old.off)] 88)))
                    have HC6 := hide (HC5.out.next (balloc (Below.refl _ _) (.cells #[.int .i64 old.time, .int .i64 (old.unit : Int), .int .i64 (offI old.off)] 88)))
                    have HR6 := hide (HR5.out.next (balloc (Below.refl _ _) (.cells #[.int .i64 old.time, .int .i64 (old.unit : Int), .int .i64 (offI old.off)] 88)))
                    have HN6 := hide (HN5.out.next (balloc (Below.refl _ _) (.cells #[.int .i64 old.time, .int .i64 (old.unit : Int), .int .i64 (offI old.off)] 88)))
                    obtain ⟨L7, hL7, hL72⟩ := HL6.out.mp
                    obtain ⟨w8, hu8, hM8, hg8⟩ := hL7.update (afterF (unF us) now u) ⟨e, u, now.off⟩
                    rw [Hrea.out] at hu8
                    simp only [pv] at hu8
                    have HL8 := hide (HL6.out.map (st' := (putF s1.1 (afterF (unF us) now u) ⟨e, u, now.off⟩, s1.2)) hg8 hM8 (by rw [find2_put, hL72]) rfl)
                    have HC8 := hide (HC6.out.map hg8)
                    have q0 := HR6.out.cell (k := 0) (v := .int .u32 (z : Int)) rfl
                    have q1 := HR6.out.cell (k := 1) (v := .int .i64 x2) rfl
                    have q2 := HN6.out.cell (k := 1) (v := .int .i64 (offI now.off)) rfl
                    clear hL5 hL52 hix hL7 hL72 hM8 hg8
                    by_cases hlt' : e < old.time
                    · have Ho := hide (one_less (D := dst d) (uf := unF us) (now := now) (t := t) (u := u) hl (by rw [He.out]; exact hlt'))
                      clear hl
                      go_wp2
                      clear r0 r1 q0 q1 q2 hu8 hlk
                      go_roundw
                      case rel =>
                        rw [He.out] at Ho
                        exact ⟨j + 1, by omega, by go_num, by rw [Hfold1.out, Ho.out]; exact HL8, by rw [Hfold1.out]; exact hide ⟨HG2.out, HG3.out⟩, HC8⟩
                      case measure => simp [intOf]; omega
                    · have Ho := hide (one_not (D := dst d) (uf := unF us) (now := now) (t := t) (u := u) hl (by rw [He.out]; exact hlt'))
                      clear hl
                      go_wp2
                      clear r0 r1 q0 q1 q2 hu8 hlk
                      go_roundw
                      case rel =>
                        exact ⟨j + 1, by omega, by go_num, by rw [Hfold1.out, Ho.out]; exact HL6, by rw [Hfold1.out]; exact hide ⟨HG2.out, HG3.out⟩, HC6⟩
                      case measure => simp [intOf]; omega
            · obtain rfl : j = C.length := by omega
              have Hfin := hide (show (s0.2.take (i + 1)).foldl (nowF (dst d) (unF us) us.length) (s0.1, []) = (C.take C.length).foldl (oneF (dst d) (unF us) now t) s by rw [Hfold.out, hnw.out, List.take_length])
              go_wp2
              go_roundw
              case rel => exact ⟨i + 1, by omega, by go_num, by rw [Hfin.out]; exact HL1, by rw [Hfin.out]; exact HG1⟩
              case measure => simp [intOf]; omega
        · obtain rfl : i = s0.2.length := by omega
          have hful := hide (show fullF (dst d) (unF us) us.length (r + 1) = (s0.2.take s0.2.length).foldl (nowF (dst d) (unF us) us.length) (s0.1, []) by rw [Hs0.out, List.take_length])
          rw [← hful.out] at HL HG
          obtain ⟨nq, nc, hnv⟩ := own_slice HL.out.own
          subst hnv
          go_wp2
          go_roundw
          case rel => exact ⟨r + 1, nq, nc, by omega, rfl, by go_num, hide ⟨bgrown HI.out.1 HL.out.gr hmb, HL.out.mp, EncAt.of_own sc_len (by omega) HL.out.own⟩, hide HG.out.1⟩
          case measure => simp [intOf]; omega
    · obtain rfl : r = us.length := by omega
      have hinv := full_inv (D := dst d) (us := unF us) (n := us.length) Hok.out.dist.Tri hU us.length (Nat.le_refl _)
      have Hinv := hide hinv
      obtain ⟨sF, hsF⟩ : ∃ sF, fullF (dst d) (unF us) us.length us.length = sF := ⟨_, rfl⟩
      rw [hsF] at HI HF Hinv HR0 HR1 ⊢
      have hll := HF.out.len Hok.out.dist.few
      have hfew := Hok.out.few
      clear hsF hinv
      cases hlv : sF.2 with
      | nil =>
        rw [List.length_nil]
        have HR2 := hide (HR0.out hlv)
        clear hlv
        go_wp2
        exact HR2.out _ HI.out.1
      | cons k0' Lv =>
        have HR2 := hide (HR1.out k0' Lv hlv)
        rw [hlv] at hll
        obtain ⟨eb, eo, k0, rfl, hk0, hcn⟩ := HI.out.2.2.at_ (i := 0) (by rw [hlv]; simp)
        have hkk : k0' = k0 := by rw [hlv] at hk0; simpa using hk0
        subst hkk
        have hmemk : k0' ∈ sF.2 := by rw [hlv]; simp
        obtain ⟨m, hm⟩ : ∃ m, (k0' :: Lv).length = m + 1 := ⟨_, rfl⟩
        rw [hm] at hll ⊢
        have n0 := hcn 0 _ rfl
        have n1 := hcn 1 _ rfl
        simp only [Nat.add_zero, Nat.zero_mul] at n0 n1
        obtain ⟨w2, hms, hown, hb2, hz2'⟩ := mk25 wr us.length (by omega)
        obtain ⟨up', uc', c1⟩ := (HS.out.keep ((Keeps.of_below HI.out.1))).c1
        have c2 := cell_later hb2 c1
        have c3 := cell_later hb2 n0
        have c4 := cell_later hb2 n1
        have hw1 : IntKind.i64.wrap ((us.length : Int) - 1) = (us.length : Int) - 1 := IntWalk.i64_in _ (by omega)
        have hB2 := hide (bseq HI.out.1 hb2)
        have Hown := hide hown
        have HB22 := hide hb2
        have Hmk := hide hmemk
        clear hlv hk0 hm hcn n0 n1 hb2 hown hmemk
        go_wp2
        have a2 := Keeps.alloc w2 (.cells #[.int .u32 0, .int .i64 0] 54) _ _ c2
        have a3 := Keeps.alloc w2 (.cells #[.int .u32 0, .int .i64 0] 54) _ _ c3
        have a4 := Keeps.alloc w2 (.cells #[.int .u32 0, .int .i64 0] 54) _ _ c4
        go_region
        go_wp2
        obtain ⟨L, hL, hL2⟩ := HI.out.2.1
        have hg0 := (Hown.out.lt _ rfl).2
        have hmbl := hL.lt
        have h000 := HI.out.1.size
        have hb2' : Below wr.heap.size wr w2 := HB22.out
        have HBK := hide (show BK w mb wr.heap.size w2.heap.size us.length L k0' (List.replicate us.length 0) (w2.alloc (.cells #[.int .u32 (k0'.done : Int), .int .i64 (offI k0'.off)] 54)).drew from
          ⟨(balloc hB2.out _).drew, (hL.next hb2').next ((balloc (Below.refl _ _) _).drew), own_below (own_mono Hown.out h000) ((balloc (Below.refl _ _) _).drew), (Blk.new _ _ _).drew, by omega, by omega, by omega, by omega, h000⟩)
        have HP := hide (show (sF.1 k0').isSome = true ∧ cntF us.length k0' + us.length = us.length ∧ (List.replicate us.length (0 : Int)).length = us.length ∧ (List.replicate us.length (0 : Int)).drop us.length = nats [] ∧ backF sF.1 us.length k0' [] = backF sF.1 us.length k0' [] from
          ⟨HF.out.mem k0' Hmk.out, Hinv.out.size k0' Hmk.out, by simp, by simp [nats], rfl⟩)
        have HL2 := hide hL2
        obtain ⟨g, hge⟩ : ∃ g, wr.heap.size = g := ⟨_, rfl⟩
        rw [hge] at HBK ⊢
        clear hg0 hmbl hb2' hL hL2 a2 a3 a4 c1 c2 c3 c4 hms hB2 Hown HB22 hge hz2' hw1
        go_loopw [18, 19] (fun si sk wr => ∃ (m : Nat) (st : Stt) (acc : List Nat) (xs : List Int) (kb : Nat), m ≤ us.length ∧ si = .int .i64 ((m : Int) - 1) ∧ sk = .pointer (some ⟨kb, 0, none⟩) ∧ Hid (BK w mb g kb us.length L st xs wr) ∧
          Hid ((sF.1 st).isSome = true ∧ cntF us.length st + m = us.length ∧ xs.length = us.length ∧ xs.drop m = nats acc ∧ backF sF.1 m st acc = backF sF.1 us.length k0' [])) (fun si _ _ => (intOf si + 1).toNat)
        case atStart => exact ⟨us.length, k0', [], _, _, Nat.le_refl _, rfl, rfl, HBK, HP⟩
        case round =>
          clear HBK HP
          obtain ⟨m, st, acc, xs, kb, hmn, rfl, rfl, HBK, HP⟩ := hrel
          cases m with
          | zero =>
            have hx : xs = nats acc := by have := HP.out.2.2.2.1; simpa using this
            have HB := hide (show acc = backF sF.1 us.length k0' [] from HP.out.2.2.2.2)
            have hi0 : ¬ (0 : Int) ≤ ((0 : Nat) : Int) - 1 := by omega
            have hown := HBK.out.own
            rw [hx] at hown
            have Hown := hide hown
            clear hx hown
            go_wp2
            exact HR2.out _ _ _ HBK.out.below (by rw [← HB.out]; exact IntsAt.of_own Hown.out)
          | succ m =>
            rw [show ((m + 1 : Nat) : Int) - 1 = (m : Int) by omega]
            obtain ⟨p, hp⟩ := Option.isSome_iff_exists.1 HP.out.1
            obtain ⟨s1, s2, s3⟩ := back_step Hinv.out hp HP.out.2.1
            have hok := (HF.out.ok st p hp)
            obtain ⟨ix, hix⟩ := find_some HL2.out p hp
            have hlk := HBK.out.mp.lookup st false
            rw [hix] at hlk
            simp only [Bool.false_eq_true, if_false, pv, sv] at hlk
            have hmn' : (m : Int) < (us.length : Int) := by omega
            have HB1 := hide (HBK.out.next (balloc (Below.refl _ _) (.cells #[.int .i64 p.time, .int .i64 (p.unit : Int), .int .i64 (offI p.off)] 88)))
            have b0 := HBK.out.blk.cell (k := 0) (v := .int .u32 (st.done : Int)) rfl
            have b1 := HBK.out.blk.cell (k := 1) (v := .int .i64 (offI st.off)) rfl
            have HK2 := hide (Blk.new wr #[.int .i64 p.time, .int .i64 (p.unit : Int), .int .i64 (offI p.off)] 88)
            have cg : (wr.alloc (.cells #[.int .i64 p.time, .int .i64 (p.unit : Int), .int .i64 (offI p.off)] 88)).cell? ⟨g, m, none⟩ = _ := owni_cell HB1.out.own (i := m) (by omega)
            have fg := fun k => HB1.out.own.frozenAt k
            have HB2 := hide ((HBK.out.put m (p.unit : Int)).next (balloc (Below.refl _ _) (.cells #[.int .i64 p.time, .int .i64 (p.unit : Int), .int .i64 (offI p.off)] 88)))
            have hgb := (HBK.out.own.lt g rfl).2
            have HK3 := hide (Blk.new_at (w := wr.setCell ⟨g, m, none⟩ (.int .i64 (p.unit : Int))) (cs := #[.int .i64 p.time, .int .i64 (p.unit : Int), .int .i64 (offI p.off)]) (t := 88) (n := wr.heap.size) (by simp [World.setCell]))
            have hpu := hok.2
            have hdone := hok.1.done
            have Hs := hide (And.intro s1 (And.intro s2 hp))
            clear hok hix s1 s2 hp
            go_wp2
            generalize (wr.setCell ⟨g, m, none⟩ (.int .i64 (p.unit : Int))).alloc (.cells #[.int .i64 p.time, .int .i64 (p.unit : Int), .int .i64 (offI p.off)] 88) = W3 at *
            obtain ⟨ob, hob⟩ : ∃ ob, wr.heap.size = ob := ⟨_, rfl⟩
            rw [hob] at HK3 ⊢
            clear b0 b1 cg fg hlk hgb hob HK2 HB1 HBK
            have b0 := HB2.out.blk.cell (k := 0) (v := .int .u32 (st.done : Int)) rfl
            have b1 := HB2.out.blk.cell (k := 1) (v := .int .i64 (offI st.off)) rfl
            have fb := HB2.out.blk.free
            have d1 := HK3.out.cell (k := 1) (v := .int .i64 (p.unit : Int)) rfl
            have d2 := HK3.out.cell (k := 2) (v := .int .i64 (offI p.off)) rfl
            obtain ⟨q, hq⟩ : ∃ q, 2 ^ p.unit = q := ⟨_, rfl⟩
            obtain ⟨e1, e2, e3⟩ := shl_val hpu hq
            have e5 : (2 : Int) ^ p.unit = (q : Int) := by rw [← hq]; simp
            have e4 := andNot_val hdone (show q < 65536 by rw [← hq]; exact two_lt hpu)
            obtain ⟨z, hz⟩ : ∃ z, lessF st.done q = z := ⟨_, rfl⟩
            rw [hz] at e4
            rw [← hq] at hz
            have Hz := hide (show clearF st.done p.unit = z from hz)
            clear hz hq
            have hB3 := HB2.out.box ⟨z, p.off⟩
            have v0 := hB3.blk.cell (k := 0) (v := .int .u32 (z : Int)) rfl
            have v1 := hB3.blk.cell (k := 1) (v := .int .i64 (offI p.off)) rfl
            have hsz : ((W3.setCell ⟨kb, 0, none⟩ (.int .u32 (z : Int))).setCell ⟨kb, 1, none⟩ (.int .i64 (offI p.off))).heap.size = W3.heap.size := by simp [World.setCell]
            have hB4 := hB3.new
            simp only at hB4
            rw [hsz] at hB4
            have HB5 := hide (hB4.next ((Below.refl _ _).drew))
            have HPn := hide (show (sF.1 ⟨z, p.off⟩).isSome = true ∧ cntF us.length ⟨z, p.off⟩ + m = us.length ∧ (xs.set m (p.unit : Int)).length = us.length ∧ (xs.set m (p.unit : Int)).drop m = nats (p.unit :: acc) ∧ backF sF.1 m ⟨z, p.off⟩ (p.unit :: acc) = backF sF.1 us.length k0' [] by
              rw [← Hz.out]
              refine ⟨Hs.out.1, Hs.out.2.1, by rw [List.length_set]; exact HP.out.2.2.1, ?_, ?_⟩
              · have h1 := HP.out.2.2.2.1
                have h2 := HP.out.2.2.1
                rw [List.drop_eq_getElem_cons (by rw [List.length_set]; omega), List.getElem_set_self, List.drop_set_of_lt (by omega), h1]
                rfl
              · have h3 := HP.out.2.2.2.2
                rw [backF, Hs.out.2.2] at h3
                exact h3)
            clear hB3 hB4 hsz Hs hdone hpu
            go_still_tail 9, (by kernel_rfl)
            go_wp2
            clear b0 b1 fb d1 d2 e1 e2 e3 e4 e5 v0 v1
            go_roundw
            case rel => exact ⟨m, by omega, rfl, ⟨z, p.off⟩, p.unit :: acc, xs.set m (p.unit : Int), HB5, HPn⟩
            case measure => simp [intOf]; omega
end Go.Proofs.Ytaopfoicdjejnaa
