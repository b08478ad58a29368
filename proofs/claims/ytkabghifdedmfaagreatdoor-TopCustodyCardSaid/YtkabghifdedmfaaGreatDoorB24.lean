/- Digests: the path of a leaf. -/
import Derived.Test.YtkabghifdedmfaaGreatDoorB23
set_option linter.unusedVariables false
set_option linter.unusedSimpArgs false
namespace Go.Proofs.YtkabghifdedmfaaGreatDoor
open Go.RowKit Go.Sort Go.Shelf
attribute [local go_sem] Oper.semAt_some

/-- The path and the index, row by row. -/
def pstep (st : List Int × Nat) (row : List Int) : List Int × Nat := if 1 < row.length then (st.1 ++ [sibP row st.2], st.2 / 2) else st
theorem path_rows : ∀ (n : Nat) (row acc : List Int) (i : Nat), ((rowsP n row).foldl pstep (acc, i)).1 = acc ++ (if row.length ≤ 2 ^ n then pathP n row i else ((rowsP n row).foldl pstep (acc, i)).1.drop acc.length) ∨ ¬ row.length ≤ 2 ^ n := by
  intro n
  induction n with
  | zero =>
    intro row acc i
    by_cases h : row.length ≤ 2 ^ 0
    · left
      rw [if_pos h, rowsP, List.foldl_cons, List.foldl_nil, pathP, pstep, if_neg (by simpa using h), List.append_nil]
    · exact .inr h
  | succ n ih =>
    intro row acc i
    by_cases h : row.length ≤ 2 ^ (n + 1)
    · left
      rw [if_pos h, rowsP, pathP, List.foldl_cons]
      by_cases h1 : 1 < row.length
      · rw [if_pos h1, if_pos h1, pstep, if_pos h1]
        have hl : (aboveP row).length ≤ 2 ^ n := by rw [aboveP_len]; have : 2 ^ (n + 1) = 2 * 2 ^ n := (by rw [Nat.pow_succ]; omega); omega
        rcases ih (aboveP row) (acc ++ [sibP row i]) (i / 2) with e | e
        · rw [if_pos hl] at e; rw [e, List.append_assoc]; rfl
        · exact absurd hl e
      · rw [if_neg h1, if_neg h1, pstep, if_neg h1]; simp
    · exact .inr h
theorem path_fold {n : Nat} {row : List Int} (h : row.length ≤ 2 ^ n) (i : Nat) : ((rowsP n row).foldl pstep ([], i)).1 = pathP n row i := by
  rcases path_rows n row [] i with e | e
  · rw [if_pos h, List.nil_append] at e; exact e
  · exact absurd h e
/-- The index is one of the row that comes next. -/
theorem idx_ok : ∀ (n : Nat) (row : List Int) (acc : List Int) (i : Nat) (pre : List (List Int)) (x : List Int) (rest : List (List Int)), i < row.length → rowsP n row = pre ++ x :: rest → (pre.foldl pstep (acc, i)).2 < x.length
  | n, row, acc, i, [], x, rest, hi, h => by
    rw [List.nil_append] at h
    have : x = row := by
      cases n with
      | zero => rw [rowsP] at h; injection h with h _; exact h.symm
      | succ n => rw [rowsP] at h; injection h with h _; exact h.symm
    rw [this]; exact hi
  | 0, row, acc, i, y :: pre, x, rest, hi, h => by
    rw [rowsP, List.cons_append] at h
    injection h with _ h
    cases pre <;> cases h
  | n + 1, row, acc, i, y :: pre, x, rest, hi, h => by
    rw [rowsP, List.cons_append] at h
    injection h with h1 h2
    subst h1
    by_cases h1 : 1 < row.length
    · rw [if_pos h1] at h2
      rw [List.foldl_cons, pstep, if_pos h1]
      exact idx_ok n (aboveP row) (acc ++ [sibP row i]) (i / 2) pre x rest (by rw [aboveP_len]; omega) h2
    · rw [if_neg h1] at h2
      cases pre <;> cases h2
theorem rowsP_len : ∀ (n : Nat) (row : List Int), ∀ x ∈ rowsP n row, x.length ≤ row.length
  | 0, row, x, hx => by rw [rowsP] at hx; rw [List.mem_singleton.1 hx]; exact Nat.le_refl _
  | n + 1, row, x, hx => by
    rw [rowsP] at hx
    rcases List.mem_cons.1 hx with rfl | hx
    · exact Nat.le_refl _
    · split at hx
      · have := rowsP_len n (aboveP row) x hx; rw [aboveP_len] at this; omega
      · cases hx
theorem pstep_len (pre : List (List Int)) : ∀ (acc : List Int) (i : Nat), (pre.foldl pstep (acc, i)).1.length ≤ acc.length + pre.length := by
  induction pre with
  | nil => intro acc i; simp
  | cons x pre ih =>
    intro acc i
    rw [List.foldl_cons, pstep]
    split
    · have := ih (acc ++ [sibP x i]) (i / 2); simp at this ⊢; omega
    · have := ih acc i; simp at this ⊢; omega
def badP (b3 b5 : Nat) (W : World) (k : Nat) : Prop := k = b3 ∨ k = b5 ∨ ∃ v, W.cell? ⟨b5, 0, none⟩ = some v ∧ v.ownBlock = some k
structure PI (w : World) (b3 b5 i : Nat) (pre : List Rw) (W : World) : Prop where
  idx : Blk W b3 #[.int .i64 (((pre.map Rw.l).foldl pstep ([], i)).2 : Int)] 3
  row : ∃ v, Blk W b5 #[v] 24 ∧ W.ownsRow (b5 + 1) 3 1 v ((pre.map Rw.l).foldl pstep ([], i)).1.length (((pre.map Rw.l).foldl pstep ([], i)).1.map (Value.int .i64))
  below : Below w.heap.size w W
theorem own_cs {w : World} {base e size n k : Nat} {v : Value} {xs : List Value} (h : w.ownsRow base e size v n xs) (hk : v.ownBlock = some k) : ∃ cs, Blk w k cs e := by
  rcases h.2 with ⟨hv, _⟩ | ⟨g', cap', cur, hv, _⟩
  · rw [hv] at hk; cases hk
  · subst hv; cases hk; exact own_blk h
set_option maxRecDepth 100000 in
set_option maxHeartbeats 2000000 in
theorem path_c (p : Option Addr) (n cap K i : Nat) (ls : List ByteArray) (w : World) (R) (hn : ls.length = n) (hi : i < n) (hnK : n ≤ 2 ^ K) (hn1 : n ≤ 1000) (hls : ∀ s ∈ ls, s.size ≤ 100000) (hT : StrsAt w p ls)
    (hR : ∀ w' q c', Below w.heap.size w w' → IntsAt .i64 w' q (pathP K (leavesP ls) i) → (∀ a : Addr, q = some a → w.heap.size ≤ a.block) → R (.returned (.slice q (pathP K (leavesP ls) i).length c')) w') : Calls Tryz.prog 16 #[.slice p n cap, .int .i64 i] w R := by
  have HR := hide hR; have Hn := hide hn; have HT := hide hT; have Hls := hide hls; have HnK := hide hnK
  have t1 : ¬ (1000 : Int) < (n : Int) := by omega
  have t2 : ¬ (i : Int) < 0 := by omega
  have t3 : ¬ (n : Int) ≤ (i : Int) := by omega
  clear hR hn hT hls hnK
  obtain ⟨w1, hw1⟩ : ∃ w1, w.alloc (.cells #[.int .i64 (i : Int)] 3) = w1 := ⟨_, rfl⟩
  have k1 : Blk w1 w.heap.size #[.int .i64 (i : Int)] 3 := hw1 ▸ Blk.new _ _ _
  have c1 := k1.cell (k := 0) rfl
  have hb1 : Below w.heap.size w w1 := hw1 ▸ balloc (Below.refl _ _) _
  refine (callsIn_wide (n := 5)).1 ?_
  refine callsIn_of_wp_marks Tryz.func16 rfl trivial ?_ rfl
  simp only [Tryz.ntmps16, List.size_toArray, List.length_cons, List.length_nil, Nat.reduceAdd, Nat.reduceSub, Array.replicate_succ, Array.replicate_zero, List.push_toArray, List.append_toArray, List.nil_append, List.cons_append]
  refine wpIn_wide.2 ?_
  go_wp2_with (go_at_call 40; refine Stop.out ?_)
  refine Stop.go (rows_c p n cap _ _ ?_)
  obtain ⟨w2, hw2⟩ : ∃ w2, (w1.alloc (.cells #[.slice none 0 0] 24)).alloc (.cells #[.slice p n cap] 30) = w2 := ⟨_, rfl⟩
  have hs1 : w1.heap.size = w.heap.size + 1 := by rw [← hw1]; simp
  have hs2 : w2.heap.size = w.heap.size + 3 := by rw [← hw2]; simp; omega
  have hb12 : Below w1.heap.size w1 w2 := by rw [← hw2]; exact balloc (balloc (Below.refl _ _) _) _
  have hbx : Blk w2 w1.heap.size #[.slice none 0 0] 24 := by rw [← hw2]; exact (Blk.new _ _ _).next (balloc (Below.refl _ _) _)
  have hc1 : w2.cell? ⟨w1.heap.size + 1, 0, none⟩ = some (.slice p n cap) := by
    rw [← hw2]; exact (Blk.new_at (n := w1.heap.size + 1) (by simp)).cell (k := 0) rfl
  have HI0 := hide (show PI w w.heap.size w1.heap.size i [] w2 from ⟨k1.next hb12, ⟨_, hbx, World.ownsRow_nil _ _ _ _⟩, bseq hb1 hb12⟩)
  have Hs2 := hide hs2; have Hs1 := hide hs1
  have Hll := hide (show (leavesP ls).length = n by unfold leavesP; rw [List.length_map]; exact Hn.out)
  have HC1 := hide hc1; have Hbx := hide hbx
  clear hs1 hs2 hb12 hbx hc1 hb1
  go_wp2
  clear hw2 hw1 k1 c1
  refine (wpIn_wide (n := 5)).1 ?_
  refine rangeFunc_C (α := Rw) rfl (by omega) (gf := 81) (lb := #[.pointer (some ⟨w1.heap.size + 1, 0, none⟩)]) rfl trivial (enters_of Tryz.func81 (by kernel_rfl) rfl)
    (rows_seq 4 (by omega) ls p cap n (w1.heap.size + 1) K w w2 Hn.out (by omega) HnK.out hn1 Hls.out HT.out HI0.out.below HC1.out) (badP w.heap.size w1.heap.size) ?hK (fun _ => rfl)
    (PI w w.heap.size w1.heap.size i) ?hI ?hIb HI0.out (fun pre W0 x a' W => (IntsAt .i64 W (some ⟨x.g, 0, none⟩) x.l ∧ 1 ≤ x.l.length ∧ ∃ rest, rowsP K (leavesP ls) = pre.map Rw.l ++ x.l :: rest) ∧ a' = { tmps := #[.slice p n cap, .int .i64 (i : Int), undef, .pointer (some ⟨w.heap.size, 0, none⟩), .slice none 0 0, .pointer (some ⟨w1.heap.size, 0, none⟩), .slice (some ⟨x.g, 0, none⟩) x.l.length x.c, .slice p n cap, .int .i64 (n : Int), .bool false, .bool false, .int .i64 (i : Int), .bool false, .bool false, .bool false, .int .i64 (i : Int), .slice p n cap, .int .i64 (n : Int), .bool false, .bool false, .slice p n cap, .func (.func 81) #[] #[.pointer (some ⟨w1.heap.size + 1, 0, none⟩)], .slice (some ⟨x.g, 0, none⟩) x.l.length x.c, undef, undef, undef, undef, undef, undef, undef, undef, undef, undef, undef, undef], defers := [] }) ?hA ?hassign ?hbody ?hdone
  case hK =>
    have hnb : ∀ k, k ≠ w.heap.size → k ≠ w1.heap.size → ¬ badP w.heap.size w1.heap.size w2 k := fun k h1 h2 hh => by
      rcases hh with hh | hh | ⟨v, hv, hk⟩
      · exact h1 hh
      · exact h2 hh
      · rw [Hbx.out.cell (k := 0) rfl] at hv
        injection hv with hv; subst hv; cases hk
    rintro k (hk | rfl)
    · exact ⟨Nat.lt_of_lt_of_le hk HI0.out.below.size, hnb k (by omega) (by have := Hs1.out; omega)⟩
    · exact ⟨by rw [Hs2.out, Hs1.out]; omega, hnb _ (by have := Hs1.out; omega) (by omega)⟩
  case hI =>
    rintro s W W' row ⟨h1, ⟨v, h2, h3⟩, h4⟩ hg hr
    exact ⟨h1.same (same_cells hg hr h1), ⟨v, h2.same (same_cells hg hr h2), own_same h3 (fun k hk => by obtain ⟨cs, hcs⟩ := own_cs h3 hk; exact same_cells hg hr hcs)⟩, below_rec h4 hg hr HI0.out.below.size⟩
  case hIb =>
    rintro s W W' row ⟨h1, ⟨v, h2, h3⟩, h4⟩ hg hr k hk
    rcases hk with rfl | rfl | ⟨v', hv', hk⟩
    · exact ⟨.inl rfl, h1.lt⟩
    · exact ⟨.inr (.inl rfl), h2.lt⟩
    · have h5 := (h2.same (same_cells hg hr h2)).cell (k := 0) rfl
      rw [h5] at hv'; injection hv' with hv'; subst hv'
      exact ⟨.inr (.inr ⟨v, h2.cell (k := 0) rfl, hk⟩), (own_lt h3 hk).2⟩
  case hA =>
    rintro pre W0 a' x W W' row ⟨h0, h1⟩ hg hr
    exact ⟨⟨intsR_own hg hr h0.1, h0.2⟩, h1⟩
  case hassign =>
    intro l pre x W K' hI hp hK
    unfold encRw
    gi_wp2
    exact hK _ _ (KeepsFrom.refl _ _) (Kpb.refl _ _) hI ⟨⟨hp.1, hp.2.1, hp.2.2.2⟩, rfl⟩
  case hbody =>
    rintro l pre x a' W0 W hI hlen ⟨hp, rfl⟩ hk0
    obtain ⟨rest, hrest⟩ := hp.2.2
    have hxl : x.l.length ≤ 1000 := by
      have := rowsP_len K (leavesP ls) x.l (by rw [hrest]; simp)
      rw [Hll.out] at this; omega
    have hfs : ((pre ++ [x]).map Rw.l).foldl pstep ([], i) = pstep ((pre.map Rw.l).foldl pstep ([], i)) x.l := by rw [List.map_append, List.foldl_append]; rfl
    by_cases h1 : 1 < x.l.length
    · have hix := idx_ok K (leavesP ls) [] i (pre.map Rw.l) x.l rest (by rw [Hll.out]; exact hi) hrest
      have hpl := pstep_len (pre.map Rw.l) [] i
      obtain ⟨v, hb5, hown⟩ := hI.row
      have hb3 := hI.idx
      obtain ⟨st, hst⟩ : ∃ st, (pre.map Rw.l).foldl pstep ([], i) = st := ⟨_, rfl⟩
      rw [hst] at hix hpl hown hb3 hfs
      rw [pstep, if_pos h1] at hfs
      have hpl2 : st.1.length ≤ 1000 := by simp at hpl; omega
      have Hfs := hide hfs
      have HO := hide hown; have Hb3 := hide hb3; have HbW := hide hI.below; have Hk0 := hide hk0
      have HIx := hide hp.1
      have hne : v.ownBlock ≠ some w1.heap.size := fun e => by have := (own_lt hown e).1; omega
      have c3 := hb3.cell (k := 0) rfl
      have h1I : (1 : Int) < (x.l.length : Int) := by omega
      have hB5 : w1.heap.size + 1 ≤ W.heap.size := by have := hb5.lt; omega
      obtain ⟨j, hj⟩ : ∃ j, st.2 / 2 = j := ⟨_, rfl⟩
      have e1 : ((st.2 : Nat) : Int).tdiv 2 = (j : Int) := by rw [Int.tdiv_eq_ediv_of_nonneg (by omega)]; omega
      have e2 : IntKind.i64.wrap (j : Int) = (j : Int) := IntWalk.i64_in _ (by omega)
      have Hj := hide hj
      clear hI hk0 hp hown hfs hrest hpl hst hj
      gi_wp2
      refine pth_reg l _ _ w.heap.size w1.heap.size x.g x.l.length x.c st.2 st.1.length (w1.heap.size + 1) v x.l st.1 W hxl hix hpl2 hB5 (hide rfl) HIx HO hb5 c3 hne (hide ?_)
      intro v' w9 v26 v27 v28 v29 v30 v31 hO9 hgr hwh
      have hb39 : Blk w9 w.heap.size #[.int .i64 (st.2 : Int)] 3 := (hgr.block _ Hb3.out.lt (fun e => by have := (own_lt HO.out e.symm).1; have := Hs1.out; omega)).trans Hb3.out
      have hne53 : w1.heap.size ≠ w.heap.size := by have := Hs1.out; omega
      have hb37 : Blk (w9.setCell ⟨w1.heap.size, 0, none⟩ v') w.heap.size #[.int .i64 (st.2 : Int)] 3 := hb39.set_other hne53 v'
      have hb57 : Blk (w9.setCell ⟨w1.heap.size, 0, none⟩ v') w1.heap.size #[v'] 24 := (show Blk w9 w1.heap.size #[v] 24 from (hgr.block _ hb5.lt (fun e => hne e.symm)).trans hb5).set 0 v'
      have d3 := hb37.cell (k := 0) rfl
      have f3 := hb37.free 0
      have hend := And.intro (((KeepsOthers.of_grownBy hgr (fun k o e ho => by obtain ⟨cs, hcs⟩ := own_cs HO.out e; unfold Blk at hcs; rw [hcs] at ho; injection ho with ho; subst ho; rfl)).trans ((KeepsOthers.setCell w9 ⟨w1.heap.size, 0, none⟩ v').trans (KeepsOthers.setCell _ ⟨w.heap.size, 0, none⟩ (.int .i64 (j : Int))))).from w2.heap.size) (And.intro
        (Hk0.out.trans (show Kpb (fun W k => k = w2.heap.size + 1 ∨ badP w.heap.size w1.heap.size W k) W ((w9.setCell ⟨w1.heap.size, 0, none⟩ v').setCell ⟨w.heap.size, 0, none⟩ (.int .i64 (j : Int))) from ⟨by simp [World.setCell]; exact hgr.size, fun k hk hn => by
          have h3 : k ≠ w.heap.size := fun e => hn (.inr (.inl e))
          have h5 : k ≠ w1.heap.size := fun e => hn (.inr (.inr (.inl e)))
          have hv : v.ownBlock ≠ some k := fun e => hn (.inr (.inr (.inr ⟨v, hb5.cell (k := 0) rfl, e⟩)))
          refine ⟨by rw [Below.heap_setCell _ _ _ _ h3, Below.heap_setCell _ _ _ _ h5]; exact hgr.block k hk (fun e => hv e.symm), ?_⟩
          rintro (hh | hh | hh | ⟨v2, hv2, hk2⟩)
          · exact hn (.inl hh)
          · exact h3 hh
          · exact h5 hh
          · have hv3 : ((w9.setCell ⟨w1.heap.size, 0, none⟩ v').setCell ⟨w.heap.size, 0, none⟩ (.int .i64 (j : Int))).cell? ⟨w1.heap.size, 0, none⟩ = some v' := (hb57.set_other (a := ⟨w.heap.size, 0, none⟩) (fun e => hne53 e.symm) _).cell (k := 0) (v := v') rfl
            rw [hv3] at hv2
            injection hv2 with hv2; subst hv2
            rcases hwh with e | e
            · rw [e] at hk2; exact hv hk2
            · have := e k hk2; omega⟩))
        (show PI w w.heap.size w1.heap.size i (pre ++ [x]) ((w9.setCell ⟨w1.heap.size, 0, none⟩ v').setCell ⟨w.heap.size, 0, none⟩ (.int .i64 (j : Int))) from ⟨by rw [Hfs.out]; show Blk _ _ #[.int .i64 ((st.2 / 2 : Nat) : Int)] 3; rw [Hj.out]; exact hb37.set 0 (.int .i64 (j : Int)),
          ⟨v', hb57.set_other (a := ⟨w.heap.size, 0, none⟩) (fun e => hne53 e.symm) _, by
            rw [Hfs.out]
            show World.ownsRow _ _ _ _ v' (st.1 ++ [sibP x.l st.2]).length _
            rw [List.length_append]
            exact own_same hO9 (fun k hk => by
              have := (own_lt hO9 hk).1
              rw [Below.heap_setCell _ _ _ _ (show k ≠ w.heap.size by have := Hs1.out; omega), Below.heap_setCell _ _ _ _ (show k ≠ w1.heap.size by omega)])⟩,
          ((HbW.out.grown hgr HbW.out.size (fun k hk => by have := (own_lt HO.out hk).1; have := Hs1.out; omega)).setCell (p := ⟨w1.heap.size, 0, none⟩) (show w.heap.size ≤ w1.heap.size by have := Hs1.out; omega) _).setCell (p := ⟨w.heap.size, 0, none⟩) (Nat.le_refl _) _⟩))
      have He := hide hend
      clear hend hb39 hb37 hb57 hgr hO9 hwh
      gi_wp2
      exact He.out
    · have h1I : ¬ (1 : Int) < (x.l.length : Int) := by omega
      have hfs2 : ((pre ++ [x]).map Rw.l).foldl pstep ([], i) = (pre.map Rw.l).foldl pstep ([], i) := by rw [hfs, pstep, if_neg h1]
      have He := hide (And.intro (KeepsFrom.refl w2.heap.size W) (And.intro hk0 (show PI w w.heap.size w1.heap.size i (pre ++ [x]) W from ⟨by rw [hfs2]; exact hI.idx, by rw [hfs2]; exact hI.row, hI.below⟩)))
      clear hfs2 hfs hrest hp hI hk0
      gi_wp2
      exact He.out
  case hdone =>
    rintro D1 xs W5 hD1 hxs hI hk1
    obtain ⟨v, hb5, hown⟩ := hI.row
    rw [hxs, path_fold (by rw [Hll.out]; exact HnK.out)] at hown
    have hbel := hI.below.grown (grownBy_putObj' W5 D1 (.deferred none)) hI.below.size (fun k e => by cases e; have := HI0.out.below.size; omega)
    have HF : Hid (∃ q c', v = .slice q (pathP K (leavesP ls) i).length c' ∧ R (.returned (.slice q (pathP K (leavesP ls) i).length c')) (W5.putObj D1 (.deferred none))) := hide (by
      rcases hown.2 with ⟨hv, h0⟩ | ⟨g', cap', cur, hv, _⟩
      · subst hv
        have he : pathP K (leavesP ls) i = [] := List.length_eq_zero_iff.1 h0
        refine ⟨none, 0, by rw [he]; rfl, HR.out _ none 0 hbel ?_ (fun a ha => by cases ha)⟩
        rw [he]; exact fun h => by simp at h
      · subst hv
        exact ⟨_, _, rfl, HR.out _ _ _ hbel ((IntsAt.of_own hown).keep (keeps_put hk1 rfl)) (fun a ha => by cases ha; have := (own_lt hown rfl).1; have := Hs1.out; show w.heap.size ≤ g'; omega)⟩)
    obtain ⟨q, c', rfl, hF⟩ := HF.out
    have d5 := hb5.cell (k := 0) rfl
    have HF2 := hide hF
    have Hk1 := hide hk1
    clear hI hxs hk1 hown HF hF hbel hb5
    go_wp2
    refine ⟨by simp, .inl ⟨_, _, rfl, run_takeDeferred Hk1.out, ?_⟩⟩
    refine ⟨_, results_tmp rfl _ _ _, ?_⟩
    exact HF2.out
end Go.Proofs.YtkabghifdedmfaaGreatDoor
