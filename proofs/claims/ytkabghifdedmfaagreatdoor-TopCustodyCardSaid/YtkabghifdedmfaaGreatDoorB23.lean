/- Digests: the path of a leaf grows. -/
import Derived.Test.YtkabghifdedmfaaGreatDoorB22
set_option linter.unusedVariables false
set_option linter.unusedSimpArgs false
namespace Go.Proofs.YtkabghifdedmfaaGreatDoor
open Go.RowKit Go.Sort Go.Shelf
attribute [local go_sem] Oper.semAt_some

theorem wpIn_app {F : Fence} {n : Nat} {P : Program} (w : World) {o : Oper} {a : Act} {K : Act → World → Prop} {Q : Exit → Act → World → Prop}
    (s x : Operand) (t : TypeId) (hop : o.op = Op.call { callee := Callee.builtin Builtin.append, args := #[s, x], argTypes := #[t, t] })
    (base : Nat) (e : TypeId) (i : TypeInfo) (z : Value) (size bytes : Nat) (h1 : P.underlying t = some (.slice e)) (h2 : P.info? e = some i) (h3 : i.zero = some z) (h4 : i.size = size) (h5 : i.bytes = bytes) (h6 : z.cells.size = size) (h7 : 0 < size)
    (v : Value) (k : Nat) (xs : List Value) (hs : a.eval s = v) (hown : w.ownsRow base e size v k xs) (ad : Addr) (m c : Nat) (news : List Value) (hx : a.eval x = .slice (some ad) m c) (hn : news.length = m * size)
    (hc : ∀ j u, news[j]? = some u → w.cell? (ad.add j) = some u) (h1c : ∀ u ∈ news, u.oneCell' = true) (b1 : k + m ≤ maxLen) (b2 : (k + m) * bytes ≤ 140737488355328) (b3 : base ≤ w.heap.size)
    (hK : ∀ v' w', w'.ownsRow base e size v' (k + m) (xs ++ news) → w.grownBy w' v.ownBlock → (v'.ownBlock = v.ownBlock ∨ ∀ k, v'.ownBlock = some k → w.heap.size ≤ k) → K (a.put o.dst v') w') :
    o.wpIn F n P a w K Q := by
  obtain ⟨v', w', hrun, r1, r2, r3⟩ := run_append_own (P := P) w base t o.type e i z size bytes h1 h2 h3 h4 h5 h6 h7 v k xs hown ad m c news hn hc h1c b1 b2 b3
  have r4 := app_where w base t o.type e i z size bytes h1 h2 h3 h4 h5 h6 h7 v k xs hown ad m c news hn hc h1c b1 b2 v' w' hrun
  unfold Oper.wpIn
  refine ⟨?_, ?_⟩
  · simp [Oper.about, hop, resolve, Target.leads, Sem.run_pure]
  · rw [Oper.semAt_plain F _ _ (by rw [hop]; intro c hc'; cases hc')]
    simp [execOp, hop, resolve, invoke, builtin, hs, hx, hrun, Result.andThen]
    exact hK v' w' r1 r2 r4
noncomputable def pthReg : Code := (regionsOf (Tryz.f16.body.getD .skip)).getD 7 .skip
set_option maxRecDepth 100000 in
set_option maxHeartbeats 4000000 in
theorem pth_reg (l n : Nat) (Q : Exit → Act → World → Prop) (b3 b5 g m c ix k B : Nat) (v : Value) (row zs : List Int) (wr : World) (hm : m ≤ 1000) (hix : ix < m) (hk : k ≤ 1000) (hBs0 : B ≤ wr.heap.size) (Hl : Hid (row.length = m)) (HI : Hid (IntsAt .i64 wr (some ⟨g, 0, none⟩) row))
    (HO : Hid (wr.ownsRow B 3 1 v k (zs.map (Value.int .i64)))) (h5 : Blk wr b5 #[v] 24) (c3 : wr.cell? ⟨b3, 0, none⟩ = some (.int .i64 (ix : Int))) (hne : v.ownBlock ≠ some b5) {u0 u1 u2 u4 u7 u8 u9 u10 u11 u12 u13 u14 u15 u16 u17 u18 u19 u20 u21 u22 u23 u24 u25 u26 u27 u28 u29 u30 u31 u32 u33 u34 : Value}
    (HN : Hid (∀ v' w9 v26 v27 v28 v29 v30 v31, w9.ownsRow B 3 1 v' (k + 1) ((zs ++ [sibP row ix]).map (Value.int .i64)) → wr.grownBy w9 v.ownBlock → (v'.ownBlock = v.ownBlock ∨ ∀ k, v'.ownBlock = some k → wr.heap.size ≤ k) → Q .normal { tmps := #[u0, u1, u2, .pointer (some ⟨b3, 0, none⟩), u4, .pointer (some ⟨b5, 0, none⟩), .slice (some ⟨g, 0, none⟩) m c, u7, u8, u9, u10, u11, u12, u13, u14, u15, u16, u17, u18, u19, u20, u21, u22, u23, u24, u25, v26, v27, v28, v29, v30, v31, u32, u33, u34], defers := [] } (w9.setCell ⟨b5, 0, none⟩ v'))) :
    pthReg.wpIn (Fence.wide.inRound l) n Tryz.prog Q { tmps := #[u0, u1, u2, .pointer (some ⟨b3, 0, none⟩), u4, .pointer (some ⟨b5, 0, none⟩), .slice (some ⟨g, 0, none⟩) m c, u7, u8, u9, u10, u11, u12, u13, u14, u15, u16, u17, u18, u19, u20, u21, u22, u23, u24, u25, u26, u27, u28, u29, u30, u31, u32, u33, u34], defers := [] } wr := by
  obtain ⟨i3, hi0, hz0, hz1, hz2⟩ := info_parts Tryz.info3'
  have c5 := h5.cell (k := 0) rfl
  have hlt := h5.lt
  have hbA : Below wr.heap.size wr (wr.alloc (.cells #[.int .i64 (sibP row ix)] 3)).drew := (balloc (Below.refl _ _) _).drew
  have hBA : Blk (wr.alloc (.cells #[.int .i64 (sibP row ix)] 3)).drew b5 #[v] 24 := h5.next hbA
  have c5a : (wr.alloc (.cells #[.int .i64 (sibP row ix)] 3)).cell? ⟨b5, 0, none⟩ = some v := (h5.next (balloc (Below.refl _ _) _)).cell (k := 0) rfl
  have hBs : B ≤ (wr.alloc (.cells #[.int .i64 (sibP row ix)] 3)).drew.heap.size := by simp; omega
  have hcl : ∀ j u, ([.int .i64 (sibP row ix)] : List Value)[j]? = some u → (wr.alloc (.cells #[.int .i64 (sibP row ix)] 3)).drew.cell? ⟨wr.heap.size, j, none⟩ = some u := fun j u hu => (Blk.new wr #[.int .i64 (sibP row ix)] 3).cell (k := j) (by simpa using hu)
  have hG : ∀ {w9 : World}, (wr.alloc (.cells #[.int .i64 (sibP row ix)] 3)).drew.grownBy w9 v.ownBlock → wr.grownBy w9 v.ownBlock := fun h => World.grownBy.trans (grownBy_drew (World.grownBy_alloc wr (.cells #[.int .i64 (sibP row ix)] 3) v.ownBlock)) h
  simp only [pthReg, Tryz.f16, Option.getD, regionsOf, List.append_eq, List.nil_append, List.append_nil, List.cons_append, List.getD, List.getElem?_cons_succ, List.getElem?_cons_zero]
  refine wpIn_region_any (by kernel_rfl) ?_
  change wpAnyIn _ _ _ _ _ _ _ _ _ (World.drew _)
  refine wpAnyIn_ready (rs := [0, 1, 2]) (by kernel_rfl) (by simp) ?_
  refine AllReadyIn.cons rfl (fun K hK => ?_) (AllReadyIn.cons rfl (fun K hK => ?_) (AllReadyIn.cons rfl (fun K hK => ?_) AllReadyIn.nil))
  · go_simp
    refine hK _ _ ?_
    clear hK K
    refine wpAnyIn_ready (rs := [1, 2]) (by kernel_rfl) (by simp) ?_
    refine AllReadyIn.cons rfl (fun K hK => ?_) (AllReadyIn.cons rfl (fun K hK => ?_) AllReadyIn.nil)
    · go_simp
      refine hK _ _ ?_
      clear hK K
      refine wpAnyIn_ready (rs := [2]) (by kernel_rfl) (by simp) ?_
      refine AllReadyIn.cons rfl (fun K hK => ?_) AllReadyIn.nil
      go_simp
      refine hK _ _ ?_
      clear hK K
      refine wpAnyIn_ready (rs := [3]) (by kernel_rfl) (by simp) ?_
      refine AllReadyIn.cons rfl (fun K hK => ?_) AllReadyIn.nil
      go_simp
      refine ⟨trivial, (fun h => by cases h), CallsIn.inRound _ (callsIn_wide.2 (sibling_c (some ⟨g, 0, none⟩) m c ix row wr.drew _ Hl.out (by omega) hix (show IntsAt .i64 wr.drew _ _ from HI.out) ?_))⟩
      refine hK _ _ ?_
      clear hK K
      refine wpAnyIn_ready (rs := [4]) (by kernel_rfl) (by simp) ?_
      refine AllReadyIn.cons rfl (fun K hK => ?_) AllReadyIn.nil
      go_simp
      refine hK _ _ ?_
      clear hK K
      have c5 := c5a
      refine wpAnyIn_ready (rs := [5]) (by kernel_rfl) (by simp) ?_
      refine AllReadyIn.cons rfl (fun K hK => ?_) AllReadyIn.nil
      refine ite_of (by kernel_rfl) ?_
      refine wpIn_app _ (.tmp 26) (.tmp 30) 24 rfl B 3 i3 _ 1 8 Tryz.underlying24 hi0 hz0 hz1 hz2 rfl (by omega) v k (zs.map (Value.int .i64)) rfl (own_below HO.out hbA) ⟨wr.heap.size, 0, none⟩ 1 1 [.int .i64 (sibP row ix)] rfl rfl (fun j u hu => by rw [Addr.add_lit, Nat.zero_add]; exact hcl j u hu) (by simp [Value.oneCell']) (by unfold maxLen; omega) (by omega) hBs ?_
      intro v9 w9 hOwn9 hgr hwh
      obtain ⟨g9, cap9, rfl, hg9a, hg9b⟩ := own_form hOwn9 (by omega)
      refine hK _ _ ?_
      clear hK K
      have hb9 : Blk w9 b5 #[v] 24 := (hgr.block b5 (by simp; omega) (fun e => hne e.symm)).trans hBA
      have c9 := hb9.cell (k := 0) rfl
      have f9 := hb9.free 0
      refine wpAnyIn_ready (rs := [6]) (by kernel_rfl) (by simp) ?_
      refine AllReadyIn.cons rfl (fun K hK => ?_) AllReadyIn.nil
      go_simp
      refine hK _ _ ?_
      clear hK K
      refine wpAnyIn_done (by kernel_rfl) ?_ _
      exact HN.out _ _ _ _ _ _ _ _ (by rw [List.map_append]; exact hOwn9) (hG hgr) (by rcases hwh with h | h; exact .inl h; exact .inr (fun k hk => by have := h k hk; simp at this; omega))
    · go_simp
      refine hK _ _ ?_
      clear hK K
      refine wpAnyIn_ready (rs := [1]) (by kernel_rfl) (by simp) ?_
      refine AllReadyIn.cons rfl (fun K hK => ?_) AllReadyIn.nil
      go_simp
      refine hK _ _ ?_
      clear hK K
      refine wpAnyIn_ready (rs := [3]) (by kernel_rfl) (by simp) ?_
      refine AllReadyIn.cons rfl (fun K hK => ?_) AllReadyIn.nil
      go_simp
      refine ⟨trivial, (fun h => by cases h), CallsIn.inRound _ (callsIn_wide.2 (sibling_c (some ⟨g, 0, none⟩) m c ix row wr.drew _ Hl.out (by omega) hix (show IntsAt .i64 wr.drew _ _ from HI.out) ?_))⟩
      refine hK _ _ ?_
      clear hK K
      refine wpAnyIn_ready (rs := [4]) (by kernel_rfl) (by simp) ?_
      refine AllReadyIn.cons rfl (fun K hK => ?_) AllReadyIn.nil
      go_simp
      refine hK _ _ ?_
      clear hK K
      have c5 := c5a
      refine wpAnyIn_ready (rs := [5]) (by kernel_rfl) (by simp) ?_
      refine AllReadyIn.cons rfl (fun K hK => ?_) AllReadyIn.nil
      refine ite_of (by kernel_rfl) ?_
      refine wpIn_app _ (.tmp 26) (.tmp 30) 24 rfl B 3 i3 _ 1 8 Tryz.underlying24 hi0 hz0 hz1 hz2 rfl (by omega) v k (zs.map (Value.int .i64)) rfl (own_below HO.out hbA) ⟨wr.heap.size, 0, none⟩ 1 1 [.int .i64 (sibP row ix)] rfl rfl (fun j u hu => by rw [Addr.add_lit, Nat.zero_add]; exact hcl j u hu) (by simp [Value.oneCell']) (by unfold maxLen; omega) (by omega) hBs ?_
      intro v9 w9 hOwn9 hgr hwh
      obtain ⟨g9, cap9, rfl, hg9a, hg9b⟩ := own_form hOwn9 (by omega)
      refine hK _ _ ?_
      clear hK K
      have hb9 : Blk w9 b5 #[v] 24 := (hgr.block b5 (by simp; omega) (fun e => hne e.symm)).trans hBA
      have c9 := hb9.cell (k := 0) rfl
      have f9 := hb9.free 0
      refine wpAnyIn_ready (rs := [6]) (by kernel_rfl) (by simp) ?_
      refine AllReadyIn.cons rfl (fun K hK => ?_) AllReadyIn.nil
      go_simp
      refine hK _ _ ?_
      clear hK K
      refine wpAnyIn_done (by kernel_rfl) ?_ _
      exact HN.out _ _ _ _ _ _ _ _ (by rw [List.map_append]; exact hOwn9) (hG hgr) (by rcases hwh with h | h; exact .inl h; exact .inr (fun k hk => by have := h k hk; simp at this; omega))
  · go_simp
    refine hK _ _ ?_
    clear hK K
    refine wpAnyIn_ready (rs := [0, 2]) (by kernel_rfl) (by simp) ?_
    refine AllReadyIn.cons rfl (fun K hK => ?_) (AllReadyIn.cons rfl (fun K hK => ?_) AllReadyIn.nil)
    · go_simp
      refine hK _ _ ?_
      clear hK K
      refine wpAnyIn_ready (rs := [2]) (by kernel_rfl) (by simp) ?_
      refine AllReadyIn.cons rfl (fun K hK => ?_) AllReadyIn.nil
      go_simp
      refine hK _ _ ?_
      clear hK K
      refine wpAnyIn_ready (rs := [3]) (by kernel_rfl) (by simp) ?_
      refine AllReadyIn.cons rfl (fun K hK => ?_) AllReadyIn.nil
      go_simp
      refine ⟨trivial, (fun h => by cases h), CallsIn.inRound _ (callsIn_wide.2 (sibling_c (some ⟨g, 0, none⟩) m c ix row wr.drew _ Hl.out (by omega) hix (show IntsAt .i64 wr.drew _ _ from HI.out) ?_))⟩
      refine hK _ _ ?_
      clear hK K
      refine wpAnyIn_ready (rs := [4]) (by kernel_rfl) (by simp) ?_
      refine AllReadyIn.cons rfl (fun K hK => ?_) AllReadyIn.nil
      go_simp
      refine hK _ _ ?_
      clear hK K
      have c5 := c5a
      refine wpAnyIn_ready (rs := [5]) (by kernel_rfl) (by simp) ?_
      refine AllReadyIn.cons rfl (fun K hK => ?_) AllReadyIn.nil
      refine ite_of (by kernel_rfl) ?_
      refine wpIn_app _ (.tmp 26) (.tmp 30) 24 rfl B 3 i3 _ 1 8 Tryz.underlying24 hi0 hz0 hz1 hz2 rfl (by omega) v k (zs.map (Value.int .i64)) rfl (own_below HO.out hbA) ⟨wr.heap.size, 0, none⟩ 1 1 [.int .i64 (sibP row ix)] rfl rfl (fun j u hu => by rw [Addr.add_lit, Nat.zero_add]; exact hcl j u hu) (by simp [Value.oneCell']) (by unfold maxLen; omega) (by omega) hBs ?_
      intro v9 w9 hOwn9 hgr hwh
      obtain ⟨g9, cap9, rfl, hg9a, hg9b⟩ := own_form hOwn9 (by omega)
      refine hK _ _ ?_
      clear hK K
      have hb9 : Blk w9 b5 #[v] 24 := (hgr.block b5 (by simp; omega) (fun e => hne e.symm)).trans hBA
      have c9 := hb9.cell (k := 0) rfl
      have f9 := hb9.free 0
      refine wpAnyIn_ready (rs := [6]) (by kernel_rfl) (by simp) ?_
      refine AllReadyIn.cons rfl (fun K hK => ?_) AllReadyIn.nil
      go_simp
      refine hK _ _ ?_
      clear hK K
      refine wpAnyIn_done (by kernel_rfl) ?_ _
      exact HN.out _ _ _ _ _ _ _ _ (by rw [List.map_append]; exact hOwn9) (hG hgr) (by rcases hwh with h | h; exact .inl h; exact .inr (fun k hk => by have := h k hk; simp at this; omega))
    · go_simp
      refine hK _ _ ?_
      clear hK K
      refine wpAnyIn_ready (rs := [0, 3]) (by kernel_rfl) (by simp) ?_
      refine AllReadyIn.cons rfl (fun K hK => ?_) (AllReadyIn.cons rfl (fun K hK => ?_) AllReadyIn.nil)
      · go_simp
        refine hK _ _ ?_
        clear hK K
        refine wpAnyIn_ready (rs := [3]) (by kernel_rfl) (by simp) ?_
        refine AllReadyIn.cons rfl (fun K hK => ?_) AllReadyIn.nil
        go_simp
        refine ⟨trivial, (fun h => by cases h), CallsIn.inRound _ (callsIn_wide.2 (sibling_c (some ⟨g, 0, none⟩) m c ix row wr.drew _ Hl.out (by omega) hix (show IntsAt .i64 wr.drew _ _ from HI.out) ?_))⟩
        refine hK _ _ ?_
        clear hK K
        refine wpAnyIn_ready (rs := [4]) (by kernel_rfl) (by simp) ?_
        refine AllReadyIn.cons rfl (fun K hK => ?_) AllReadyIn.nil
        go_simp
        refine hK _ _ ?_
        clear hK K
        have c5 := c5a
        refine wpAnyIn_ready (rs := [5]) (by kernel_rfl) (by simp) ?_
        refine AllReadyIn.cons rfl (fun K hK => ?_) AllReadyIn.nil
        refine ite_of (by kernel_rfl) ?_
        refine wpIn_app _ (.tmp 26) (.tmp 30) 24 rfl B 3 i3 _ 1 8 Tryz.underlying24 hi0 hz0 hz1 hz2 rfl (by omega) v k (zs.map (Value.int .i64)) rfl (own_below HO.out hbA) ⟨wr.heap.size, 0, none⟩ 1 1 [.int .i64 (sibP row ix)] rfl rfl (fun j u hu => by rw [Addr.add_lit, Nat.zero_add]; exact hcl j u hu) (by simp [Value.oneCell']) (by unfold maxLen; omega) (by omega) hBs ?_
        intro v9 w9 hOwn9 hgr hwh
        obtain ⟨g9, cap9, rfl, hg9a, hg9b⟩ := own_form hOwn9 (by omega)
        refine hK _ _ ?_
        clear hK K
        have hb9 : Blk w9 b5 #[v] 24 := (hgr.block b5 (by simp; omega) (fun e => hne e.symm)).trans hBA
        have c9 := hb9.cell (k := 0) rfl
        have f9 := hb9.free 0
        refine wpAnyIn_ready (rs := [6]) (by kernel_rfl) (by simp) ?_
        refine AllReadyIn.cons rfl (fun K hK => ?_) AllReadyIn.nil
        go_simp
        refine hK _ _ ?_
        clear hK K
        refine wpAnyIn_done (by kernel_rfl) ?_ _
        exact HN.out _ _ _ _ _ _ _ _ (by rw [List.map_append]; exact hOwn9) (hG hgr) (by rcases hwh with h | h; exact .inl h; exact .inr (fun k hk => by have := h k hk; simp at this; omega))
      · go_simp
        refine ⟨trivial, (fun h => by cases h), CallsIn.inRound _ (callsIn_wide.2 (sibling_c (some ⟨g, 0, none⟩) m c ix row wr.drew _ Hl.out (by omega) hix (show IntsAt .i64 wr.drew _ _ from HI.out) ?_))⟩
        refine hK _ _ ?_
        clear hK K
        refine wpAnyIn_ready (rs := [0, 4]) (by kernel_rfl) (by simp) ?_
        refine AllReadyIn.cons rfl (fun K hK => ?_) (AllReadyIn.cons rfl (fun K hK => ?_) AllReadyIn.nil)
        · go_simp
          refine hK _ _ ?_
          clear hK K
          refine wpAnyIn_ready (rs := [4]) (by kernel_rfl) (by simp) ?_
          refine AllReadyIn.cons rfl (fun K hK => ?_) AllReadyIn.nil
          go_simp
          refine hK _ _ ?_
          clear hK K
          have c5 := c5a
          refine wpAnyIn_ready (rs := [5]) (by kernel_rfl) (by simp) ?_
          refine AllReadyIn.cons rfl (fun K hK => ?_) AllReadyIn.nil
          refine ite_of (by kernel_rfl) ?_
          refine wpIn_app _ (.tmp 26) (.tmp 30) 24 rfl B 3 i3 _ 1 8 Tryz.underlying24 hi0 hz0 hz1 hz2 rfl (by omega) v k (zs.map (Value.int .i64)) rfl (own_below HO.out hbA) ⟨wr.heap.size, 0, none⟩ 1 1 [.int .i64 (sibP row ix)] rfl rfl (fun j u hu => by rw [Addr.add_lit, Nat.zero_add]; exact hcl j u hu) (by simp [Value.oneCell']) (by unfold maxLen; omega) (by omega) hBs ?_
          intro v9 w9 hOwn9 hgr hwh
          obtain ⟨g9, cap9, rfl, hg9a, hg9b⟩ := own_form hOwn9 (by omega)
          refine hK _ _ ?_
          clear hK K
          have hb9 : Blk w9 b5 #[v] 24 := (hgr.block b5 (by simp; omega) (fun e => hne e.symm)).trans hBA
          have c9 := hb9.cell (k := 0) rfl
          have f9 := hb9.free 0
          refine wpAnyIn_ready (rs := [6]) (by kernel_rfl) (by simp) ?_
          refine AllReadyIn.cons rfl (fun K hK => ?_) AllReadyIn.nil
          go_simp
          refine hK _ _ ?_
          clear hK K
          refine wpAnyIn_done (by kernel_rfl) ?_ _
          exact HN.out _ _ _ _ _ _ _ _ (by rw [List.map_append]; exact hOwn9) (hG hgr) (by rcases hwh with h | h; exact .inl h; exact .inr (fun k hk => by have := h k hk; simp at this; omega))
        · go_simp
          refine hK _ _ ?_
          clear hK K
          have c5 := c5a
          refine wpAnyIn_ready (rs := [0]) (by kernel_rfl) (by simp) ?_
          refine AllReadyIn.cons rfl (fun K hK => ?_) AllReadyIn.nil
          go_simp
          refine hK _ _ ?_
          clear hK K
          refine wpAnyIn_ready (rs := [5]) (by kernel_rfl) (by simp) ?_
          refine AllReadyIn.cons rfl (fun K hK => ?_) AllReadyIn.nil
          refine ite_of (by kernel_rfl) ?_
          refine wpIn_app _ (.tmp 26) (.tmp 30) 24 rfl B 3 i3 _ 1 8 Tryz.underlying24 hi0 hz0 hz1 hz2 rfl (by omega) v k (zs.map (Value.int .i64)) rfl (own_below HO.out hbA) ⟨wr.heap.size, 0, none⟩ 1 1 [.int .i64 (sibP row ix)] rfl rfl (fun j u hu => by rw [Addr.add_lit, Nat.zero_add]; exact hcl j u hu) (by simp [Value.oneCell']) (by unfold maxLen; omega) (by omega) hBs ?_
          intro v9 w9 hOwn9 hgr hwh
          obtain ⟨g9, cap9, rfl, hg9a, hg9b⟩ := own_form hOwn9 (by omega)
          refine hK _ _ ?_
          clear hK K
          have hb9 : Blk w9 b5 #[v] 24 := (hgr.block b5 (by simp; omega) (fun e => hne e.symm)).trans hBA
          have c9 := hb9.cell (k := 0) rfl
          have f9 := hb9.free 0
          refine wpAnyIn_ready (rs := [6]) (by kernel_rfl) (by simp) ?_
          refine AllReadyIn.cons rfl (fun K hK => ?_) AllReadyIn.nil
          go_simp
          refine hK _ _ ?_
          clear hK K
          refine wpAnyIn_done (by kernel_rfl) ?_ _
          exact HN.out _ _ _ _ _ _ _ _ (by rw [List.map_append]; exact hOwn9) (hG hgr) (by rcases hwh with h | h; exact .inl h; exact .inr (fun k hk => by have := h k hk; simp at this; omega))
  · go_simp
    refine hK _ _ ?_
    clear hK K
    refine wpAnyIn_ready (rs := [0, 1]) (by kernel_rfl) (by simp) ?_
    refine AllReadyIn.cons rfl (fun K hK => ?_) (AllReadyIn.cons rfl (fun K hK => ?_) AllReadyIn.nil)
    · go_simp
      refine hK _ _ ?_
      clear hK K
      refine wpAnyIn_ready (rs := [1]) (by kernel_rfl) (by simp) ?_
      refine AllReadyIn.cons rfl (fun K hK => ?_) AllReadyIn.nil
      go_simp
      refine hK _ _ ?_
      clear hK K
      refine wpAnyIn_ready (rs := [3]) (by kernel_rfl) (by simp) ?_
      refine AllReadyIn.cons rfl (fun K hK => ?_) AllReadyIn.nil
      go_simp
      refine ⟨trivial, (fun h => by cases h), CallsIn.inRound _ (callsIn_wide.2 (sibling_c (some ⟨g, 0, none⟩) m c ix row wr.drew _ Hl.out (by omega) hix (show IntsAt .i64 wr.drew _ _ from HI.out) ?_))⟩
      refine hK _ _ ?_
      clear hK K
      refine wpAnyIn_ready (rs := [4]) (by kernel_rfl) (by simp) ?_
      refine AllReadyIn.cons rfl (fun K hK => ?_) AllReadyIn.nil
      go_simp
      refine hK _ _ ?_
      clear hK K
      have c5 := c5a
      refine wpAnyIn_ready (rs := [5]) (by kernel_rfl) (by simp) ?_
      refine AllReadyIn.cons rfl (fun K hK => ?_) AllReadyIn.nil
      refine ite_of (by kernel_rfl) ?_
      refine wpIn_app _ (.tmp 26) (.tmp 30) 24 rfl B 3 i3 _ 1 8 Tryz.underlying24 hi0 hz0 hz1 hz2 rfl (by omega) v k (zs.map (Value.int .i64)) rfl (own_below HO.out hbA) ⟨wr.heap.size, 0, none⟩ 1 1 [.int .i64 (sibP row ix)] rfl rfl (fun j u hu => by rw [Addr.add_lit, Nat.zero_add]; exact hcl j u hu) (by simp [Value.oneCell']) (by unfold maxLen; omega) (by omega) hBs ?_
      intro v9 w9 hOwn9 hgr hwh
      obtain ⟨g9, cap9, rfl, hg9a, hg9b⟩ := own_form hOwn9 (by omega)
      refine hK _ _ ?_
      clear hK K
      have hb9 : Blk w9 b5 #[v] 24 := (hgr.block b5 (by simp; omega) (fun e => hne e.symm)).trans hBA
      have c9 := hb9.cell (k := 0) rfl
      have f9 := hb9.free 0
      refine wpAnyIn_ready (rs := [6]) (by kernel_rfl) (by simp) ?_
      refine AllReadyIn.cons rfl (fun K hK => ?_) AllReadyIn.nil
      go_simp
      refine hK _ _ ?_
      clear hK K
      refine wpAnyIn_done (by kernel_rfl) ?_ _
      exact HN.out _ _ _ _ _ _ _ _ (by rw [List.map_append]; exact hOwn9) (hG hgr) (by rcases hwh with h | h; exact .inl h; exact .inr (fun k hk => by have := h k hk; simp at this; omega))
    · go_simp
      refine hK _ _ ?_
      clear hK K
      refine wpAnyIn_ready (rs := [0, 3]) (by kernel_rfl) (by simp) ?_
      refine AllReadyIn.cons rfl (fun K hK => ?_) (AllReadyIn.cons rfl (fun K hK => ?_) AllReadyIn.nil)
      · go_simp
        refine hK _ _ ?_
        clear hK K
        refine wpAnyIn_ready (rs := [3]) (by kernel_rfl) (by simp) ?_
        refine AllReadyIn.cons rfl (fun K hK => ?_) AllReadyIn.nil
        go_simp
        refine ⟨trivial, (fun h => by cases h), CallsIn.inRound _ (callsIn_wide.2 (sibling_c (some ⟨g, 0, none⟩) m c ix row wr.drew _ Hl.out (by omega) hix (show IntsAt .i64 wr.drew _ _ from HI.out) ?_))⟩
        refine hK _ _ ?_
        clear hK K
        refine wpAnyIn_ready (rs := [4]) (by kernel_rfl) (by simp) ?_
        refine AllReadyIn.cons rfl (fun K hK => ?_) AllReadyIn.nil
        go_simp
        refine hK _ _ ?_
        clear hK K
        have c5 := c5a
        refine wpAnyIn_ready (rs := [5]) (by kernel_rfl) (by simp) ?_
        refine AllReadyIn.cons rfl (fun K hK => ?_) AllReadyIn.nil
        refine ite_of (by kernel_rfl) ?_
        refine wpIn_app _ (.tmp 26) (.tmp 30) 24 rfl B 3 i3 _ 1 8 Tryz.underlying24 hi0 hz0 hz1 hz2 rfl (by omega) v k (zs.map (Value.int .i64)) rfl (own_below HO.out hbA) ⟨wr.heap.size, 0, none⟩ 1 1 [.int .i64 (sibP row ix)] rfl rfl (fun j u hu => by rw [Addr.add_lit, Nat.zero_add]; exact hcl j u hu) (by simp [Value.oneCell']) (by unfold maxLen; omega) (by omega) hBs ?_
        intro v9 w9 hOwn9 hgr hwh
        obtain ⟨g9, cap9, rfl, hg9a, hg9b⟩ := own_form hOwn9 (by omega)
        refine hK _ _ ?_
        clear hK K
        have hb9 : Blk w9 b5 #[v] 24 := (hgr.block b5 (by simp; omega) (fun e => hne e.symm)).trans hBA
        have c9 := hb9.cell (k := 0) rfl
        have f9 := hb9.free 0
        refine wpAnyIn_ready (rs := [6]) (by kernel_rfl) (by simp) ?_
        refine AllReadyIn.cons rfl (fun K hK => ?_) AllReadyIn.nil
        go_simp
        refine hK _ _ ?_
        clear hK K
        refine wpAnyIn_done (by kernel_rfl) ?_ _
        exact HN.out _ _ _ _ _ _ _ _ (by rw [List.map_append]; exact hOwn9) (hG hgr) (by rcases hwh with h | h; exact .inl h; exact .inr (fun k hk => by have := h k hk; simp at this; omega))
      · go_simp
        refine ⟨trivial, (fun h => by cases h), CallsIn.inRound _ (callsIn_wide.2 (sibling_c (some ⟨g, 0, none⟩) m c ix row wr.drew _ Hl.out (by omega) hix (show IntsAt .i64 wr.drew _ _ from HI.out) ?_))⟩
        refine hK _ _ ?_
        clear hK K
        refine wpAnyIn_ready (rs := [0, 4]) (by kernel_rfl) (by simp) ?_
        refine AllReadyIn.cons rfl (fun K hK => ?_) (AllReadyIn.cons rfl (fun K hK => ?_) AllReadyIn.nil)
        · go_simp
          refine hK _ _ ?_
          clear hK K
          refine wpAnyIn_ready (rs := [4]) (by kernel_rfl) (by simp) ?_
          refine AllReadyIn.cons rfl (fun K hK => ?_) AllReadyIn.nil
          go_simp
          refine hK _ _ ?_
          clear hK K
          have c5 := c5a
          refine wpAnyIn_ready (rs := [5]) (by kernel_rfl) (by simp) ?_
          refine AllReadyIn.cons rfl (fun K hK => ?_) AllReadyIn.nil
          refine ite_of (by kernel_rfl) ?_
          refine wpIn_app _ (.tmp 26) (.tmp 30) 24 rfl B 3 i3 _ 1 8 Tryz.underlying24 hi0 hz0 hz1 hz2 rfl (by omega) v k (zs.map (Value.int .i64)) rfl (own_below HO.out hbA) ⟨wr.heap.size, 0, none⟩ 1 1 [.int .i64 (sibP row ix)] rfl rfl (fun j u hu => by rw [Addr.add_lit, Nat.zero_add]; exact hcl j u hu) (by simp [Value.oneCell']) (by unfold maxLen; omega) (by omega) hBs ?_
          intro v9 w9 hOwn9 hgr hwh
          obtain ⟨g9, cap9, rfl, hg9a, hg9b⟩ := own_form hOwn9 (by omega)
          refine hK _ _ ?_
          clear hK K
          have hb9 : Blk w9 b5 #[v] 24 := (hgr.block b5 (by simp; omega) (fun e => hne e.symm)).trans hBA
          have c9 := hb9.cell (k := 0) rfl
          have f9 := hb9.free 0
          refine wpAnyIn_ready (rs := [6]) (by kernel_rfl) (by simp) ?_
          refine AllReadyIn.cons rfl (fun K hK => ?_) AllReadyIn.nil
          go_simp
          refine hK _ _ ?_
          clear hK K
          refine wpAnyIn_done (by kernel_rfl) ?_ _
          exact HN.out _ _ _ _ _ _ _ _ (by rw [List.map_append]; exact hOwn9) (hG hgr) (by rcases hwh with h | h; exact .inl h; exact .inr (fun k hk => by have := h k hk; simp at this; omega))
        · go_simp
          refine hK _ _ ?_
          clear hK K
          have c5 := c5a
          refine wpAnyIn_ready (rs := [0]) (by kernel_rfl) (by simp) ?_
          refine AllReadyIn.cons rfl (fun K hK => ?_) AllReadyIn.nil
          go_simp
          refine hK _ _ ?_
          clear hK K
          refine wpAnyIn_ready (rs := [5]) (by kernel_rfl) (by simp) ?_
          refine AllReadyIn.cons rfl (fun K hK => ?_) AllReadyIn.nil
          refine ite_of (by kernel_rfl) ?_
          refine wpIn_app _ (.tmp 26) (.tmp 30) 24 rfl B 3 i3 _ 1 8 Tryz.underlying24 hi0 hz0 hz1 hz2 rfl (by omega) v k (zs.map (Value.int .i64)) rfl (own_below HO.out hbA) ⟨wr.heap.size, 0, none⟩ 1 1 [.int .i64 (sibP row ix)] rfl rfl (fun j u hu => by rw [Addr.add_lit, Nat.zero_add]; exact hcl j u hu) (by simp [Value.oneCell']) (by unfold maxLen; omega) (by omega) hBs ?_
          intro v9 w9 hOwn9 hgr hwh
          obtain ⟨g9, cap9, rfl, hg9a, hg9b⟩ := own_form hOwn9 (by omega)
          refine hK _ _ ?_
          clear hK K
          have hb9 : Blk w9 b5 #[v] 24 := (hgr.block b5 (by simp; omega) (fun e => hne e.symm)).trans hBA
          have c9 := hb9.cell (k := 0) rfl
          have f9 := hb9.free 0
          refine wpAnyIn_ready (rs := [6]) (by kernel_rfl) (by simp) ?_
          refine AllReadyIn.cons rfl (fun K hK => ?_) AllReadyIn.nil
          go_simp
          refine hK _ _ ?_
          clear hK K
          refine wpAnyIn_done (by kernel_rfl) ?_ _
          exact HN.out _ _ _ _ _ _ _ _ (by rw [List.map_append]; exact hOwn9) (hG hgr) (by rcases hwh with h | h; exact .inl h; exact .inr (fun k hk => by have := h k hk; simp at this; omega))
end Go.Proofs.YtkabghifdedmfaaGreatDoor
