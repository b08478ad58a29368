/- Steps of a row of the call's own. The contents of a container. -/
import Derived.Test.YtihdpkeclmpehaaA4
import Derived.Deep.RegionHeld3
set_option linter.unusedVariables false
set_option linter.unusedSimpArgs false
namespace Go.Proofs.Ytihdpkeclmpehaa
open Go.RowKit

theorem own_below {w w' : World} {base : Nat} {e : TypeId} {size n : Nat} {v : Value} {xs : List Value} (h : w.ownsRow base e size v n xs) (hb : Below w.heap.size w w') : w'.ownsRow base e size v n xs :=
  h.kept (row := none) ⟨hb.os, hb.tape, hb.output, hb.size, fun k hk _ => hb.block k hk⟩ (by cases v.ownBlock <;> simp)
theorem grow_next {w w1 w2 : World} {row : Option Nat} (h : w.grownBy w1 row) (hb : Below w1.heap.size w1 w2) : w.grownBy w2 row :=
  ⟨hb.os.trans h.os, hb.tape.trans h.tape, hb.output.trans h.output, Nat.le_trans h.size hb.size, fun k hk hne => (hb.block k (Nat.lt_of_lt_of_le hk h.size)).trans (h.block k hk hne)⟩
theorem wp_where {P : Program} {w : World} {o : Oper} {a : Act} {K : Act → World → Prop} {Q : Exit → Act → World → Prop} (s x : Operand) (t : TypeId)
    (ho : o.op = .call { callee := .builtin .append, args := #[s, x], argTypes := #[t, t] })
    (base : Nat) (e : TypeId) (i : TypeInfo) (z : Value) (size bytes : Nat) (ht : P.underlying t = some (.slice e)) (hi : P.info? e = some i) (hz : i.zero = some z)
    (hsize : i.size = size) (hby : i.bytes = bytes) (hzs : z.cells.size = size) (hsz : 0 < size)
    (v : Value) (n : Nat) (xs : List Value) (hs : a.eval s = v) (hown : w.ownsRow base e size v n xs)
    (ad : Addr) (m c : Nat) (news : List Value) (hx : a.eval x = .slice (some ad) m c) (hl : news.length = m * size) (hnews : ∀ j u, news[j]? = some u → w.cell? (ad.add j) = some u) (h1 : ∀ u ∈ news, u.oneCell' = true)
    (h63 : n + m ≤ maxLen) (hbytes : (n + m) * bytes ≤ 140737488355328) (hbase : base ≤ w.heap.size)
    (h : ∀ v' w', w'.ownsRow base e size v' (n + m) (xs ++ news) → w.grownBy w' v.ownBlock → (v'.ownBlock = v.ownBlock ∨ ∀ k, v'.ownBlock = some k → w.heap.size ≤ k) → K (a.put o.dst v') w') : o.wp P a w K Q := by
  obtain ⟨v', w', hr, h2, h3, h4⟩ := run_append_own (P := P) w base t o.type e i z size bytes ht hi hz hsize hby hzs hsz v n xs hown ad m c news hl hnews h1 h63 hbytes hbase
  have hw := app_where w base t o.type e i z size bytes ht hi hz hsize hby hzs hsz v n xs hown ad m c news hl hnews h1 h63 hbytes v' w' hr
  unfold Oper.wp execOp
  simp only [ho, resolve, invoke, builtin, Sem.run_bind, Sem.run_pure, Result.andThen_ok, List.map_toArray, List.map_cons, List.map_nil, hs, hx, hr]
  exact h v' w' h2 h3 hw
theorem step_where {P : Program} {w : World} {ops : Array Oper} {o : Oper} {a : Act} {K : Act → World → Prop} {Q : Exit → Act → World → Prop} {E : Prop} (hgd : o.guard = none) (s x : Operand) (t : TypeId)
    (ho : o.op = .call { callee := .builtin .append, args := #[s, x], argTypes := #[t, t] })
    (base : Nat) (e : TypeId) (i : TypeInfo) (z : Value) (size bytes : Nat) (ht : P.underlying t = some (.slice e)) (hi : P.info? e = some i) (hz : i.zero = some z)
    (hsize : i.size = size) (hby : i.bytes = bytes) (hzs : z.cells.size = size) (hsz : 0 < size)
    (v : Value) (n : Nat) (xs : List Value) (hs : a.eval s = v) (hown : w.ownsRow base e size v n xs)
    (ad : Addr) (m c : Nat) (news : List Value) (hx : a.eval x = .slice (some ad) m c) (hl : news.length = m * size) (hnews : ∀ j u, news[j]? = some u → w.cell? (ad.add j) = some u) (h1 : ∀ u ∈ news, u.oneCell' = true)
    (h63 : n + m ≤ maxLen) (hbytes : (n + m) * bytes ≤ 140737488355328) (hbase : base ≤ w.heap.size)
    (h : ∀ v' w', w'.ownsRow base e size v' (n + m) (xs ++ news) → w.grownBy w' v.ownBlock → (v'.ownBlock = v.ownBlock ∨ ∀ k, v'.ownBlock = some k → w.heap.size ≤ k) → K (a.put o.dst v') w') : if Region.wanted o (yielded ops a.tmps) = true then Oper.wp P o a w K Q else E := by
  rw [if_pos (by simp [Region.wanted, hgd])]
  exact wp_where s x t ho base e i z size bytes ht hi hz hsize hby hzs hsz v n xs hs hown ad m c news hx hl hnews h1 h63 hbytes hbase h
theorem one_cells {v : Value} {w : World} {t : TypeId} {n : Nat} (hn : n = w.heap.size) : ∀ j u, ([v] : List Value)[j]? = some u → (w.alloc (.cells #[v] t)).cell? ((⟨n, 0, none⟩ : Addr).add j) = some u := by
  intro j u h
  rw [Addr.add_lit, Nat.zero_add]
  exact (Blk.new_at hn).cell (by simpa using h)
theorem grow_cell {w w' : World} {row : Option Nat} {b o : Nat} {v : Value} (h : w.grownBy w' row) (hc : w.cell? ⟨b, o, none⟩ = some v) (hne : row ≠ some b) : w'.cell? ⟨b, o, none⟩ = some v := by
  rw [World.cell?_of_block (h.block b (block_lt hc) (fun e => hne e.symm))]; exact hc
theorem grow_drew {w w' : World} {row : Option Nat} (h : w.grownBy w' row) : w.grownBy w'.drew row := grow_next h ((Below.refl _ _).drew)
end Go.Proofs.Ytihdpkeclmpehaa

namespace Go.Proofs.Ytihdpkeclmpehaa
open Go.RowKit

/-- The labels of some tracks at a time. -/
def labsP (l : List Trk) (ins : List Nat) (time : Int) : List ByteArray := ins.map fun i => match (l.map Trk.tk)[i]? with | some t => labelP t time | none => ⟨#[]⟩
theorem labsP_contents (l : List Trk) (s : ByteArray) (time : Int) : labsP l (insideP (l.map Trk.tk) s) time = contentsP (l.map Trk.tk) s time := rfl
theorem Try.info9 : (Try.prog.info? 9).map (fun i => (i.zero, i.size, i.bytes)) = some (some (.string ⟨#[]⟩), 1, 16) := by kernel_rfl
theorem labelP_size {t : Trk} {w : World} (h : TrkAt w t) (time : Int) : (labelP t.tk time).size ≤ maxLen := by
  unfold labelP
  split
  · show (0 : Nat) ≤ maxLen; exact Nat.zero_le _
  · rename_i c _
    cases hx : t.tk.label[c]? with
    | none => show (0 : Nat) ≤ maxLen; exact Nat.zero_le _
    | some s => exact h.label.2 s (List.mem_of_getElem? hx)
abbrev strsV (l : List ByteArray) : List Value := l.map Value.string
/-- Strings that lie at the head of a block of strings. -/
def StrRow (w : World) (p : Option Addr) (l : List ByteArray) : Prop := StrsAt w p l ∧ ∀ a, p = some a → ∃ cs, Blk w a.block cs 9
theorem StrRow.nil {w : World} : StrRow w none [] := ⟨StrsAt.nil, fun a h => by cases h⟩
theorem StrRow.next {w w' : World} {p : Option Addr} {l : List ByteArray} (h : StrRow w p l) (hb : Below w.heap.size w w') : StrRow w' p l :=
  ⟨h.1.keep (Keeps.of_below hb), fun a ha => by obtain ⟨cs, hc⟩ := h.2 a ha; exact ⟨cs, hc.next hb⟩⟩
theorem StrRow.same {w w' : World} {p : Option Addr} {l : List ByteArray} (h : StrRow w p l) (hb : ∀ k cs, Blk w k cs 9 → w'.heap[k]? = w.heap[k]?) : StrRow w' p l :=
  ⟨⟨fun hl => by
      obtain ⟨b, o, hp, hc⟩ := h.1.1 hl
      obtain ⟨cs, hk⟩ := h.2 _ hp
      exact ⟨b, o, hp, fun i x hx c v hv => by rw [World.cell?_of_block (hb b cs hk)]; exact hc i x hx c v hv⟩, h.1.2⟩,
    fun a ha => by obtain ⟨cs, hc⟩ := h.2 a ha; exact ⟨cs, hc.same (hb _ cs hc)⟩⟩
theorem strs_own {w : World} {base : Nat} {v : Value} {l : List ByteArray} (h : w.ownsRow base 9 1 v l.length (strsV l)) (hs : ∀ s ∈ l, s.size ≤ maxLen) : ∃ cp cc, v = .slice cp l.length cc ∧ StrRow w cp l := by
  have e : strsV l = l.flatMap (fun s => [Value.string s]) := by
    unfold strsV
    induction l with
    | nil => rfl
    | cons x l ih => simp [List.flatMap_cons, List.map_eq_flatMap]
  rcases h.2 with ⟨hv, h0⟩ | ⟨g, cap, cur, hv, hb, hh, rest⟩
  · refine ⟨none, 0, by rw [hv, h0], ?_⟩
    rw [List.length_eq_zero_iff.1 h0]; exact StrRow.nil
  · refine ⟨_, _, hv, ⟨?_, hs⟩, fun a ha => by cases ha; exact ⟨cur, hh⟩⟩
    rw [e, hv] at h
    exact EncAt.of_own (fun _ => rfl) (by omega) h

set_option maxRecDepth 100000 in
set_option maxHeartbeats 2000000 in
theorem contents_c (g : Nat) (p : Option Addr) (cap n : Nat) (l : List Trk) (ins : List Nat) (ip : Option Addr) (icap : Nat) (dep : Int) (w : World) (R) (hn : l.length = n) (hl : n ≤ 8) (h : TrksAt w p l) (hk : ∀ t ∈ l, TkOk t.tk)
    (hc2 : w.cell? ⟨g, 2, none⟩ = some (.int .i64 dep)) (hc10 : w.cell? ⟨g, 10, none⟩ = some (.slice ip ins.length icap)) (hi : IntsAt .i64 w ip (ins.map fun (i : Nat) => (i : Int))) (hin : ∀ i ∈ ins, i < n) (hlen : ins.length ≤ 9)
    (hR : ∀ w' cp cc, Below w.heap.size w w' → StrRow w' cp (labsP l ins dep) → R (.returned (.slice cp (labsP l ins dep).length cc)) w') : Calls Try.prog 37 #[.pointer (some ⟨g, 0, none⟩), .slice p n cap] w R := by
  have HR := hide hR; have H := hide h; have Hk := hide hk; have Hn := hide hn; have HI := hide hi; have Hin := hide hin
  obtain ⟨i0, hi0, hz0, hz1, hz2⟩ := info_parts Try.info9
  have HT := hide (And.intro hi0 (And.intro hz0 (And.intro hz1 hz2)))
  obtain ⟨m, hm⟩ : ∃ m, ins.length = m := ⟨_, rfl⟩
  have Hm := hide hm
  rw [hm] at hc10 hlen
  clear hR h hk hn hi hin hi0 hz0 hz1 hz2 hm
  go_enter Try.func37, Try.ntmps37
  go_wp2
  go_loopw [5, 13] (fun v si wr => ∃ j : Nat, j ≤ m ∧ si = .int .i64 j ∧ Hid (wr.ownsRow w.heap.size 9 1 v (labsP l (ins.take j) dep).length (strsV (labsP l (ins.take j) dep))) ∧ Hid (Below w.heap.size w wr)) (fun _ si _ => m - (intOf si).toNat)
  case atStart => exact ⟨0, Nat.zero_le _, rfl, hide (World.ownsRow_nil _ _ _ _), hide (Below.refl _ _)⟩
  case round =>
    obtain ⟨j, hj, rfl, HO, HB⟩ := hrel
    by_cases hlt : j < m
    · obtain ⟨bi, oi, x, rfl, hx, cx⟩ := (HI.out.keep (Keeps.of_below HB.out)).at_ (i := j) (by rw [List.length_map, Hm.out]; exact hlt)
      rw [List.getElem?_map] at hx
      obtain ⟨i, hxi, rfl⟩ := Option.map_eq_some_iff.1 hx
      have hii : i < n := Hin.out i (List.mem_of_getElem? hxi)
      obtain ⟨b, o, t, rfl, hxt, ht, x0, x1, x2, x3, x4, x5, x6, x7, x8, x9⟩ := (H.out.keep (Keeps.of_below HB.out)).trk (i := i) (by rw [Hn.out]; exact hii)
      have Ht := hide ht
      have Hok := hide (Hk.out t (List.mem_of_getElem? hxt))
      have hv := hide t.val_eq
      have d2 := cell_later HB.out hc2
      have HS := hide (show labsP l (ins.take (j + 1)) dep = labsP l (ins.take j) dep ++ [labelP t.tk dep] by
        unfold labsP
        rw [List.take_add_one, hxi]
        show ((ins.take j) ++ [i]).map _ = _
        rw [List.map_append, List.map_singleton, List.getElem?_map, hxt]
        rfl)
      have hll : (labsP l (ins.take j) dep).length ≤ 9 := by unfold labsP; rw [List.length_map, List.length_take]; omega
      have hbnd : ∀ c v, w.cell? ⟨c, v, none⟩ ≠ none → u5.ownBlock ≠ some c := fun c v hc e => by
        have h1 := (HO.out.lt _ e).1
        cases hcv : w.cell? ⟨c, v, none⟩ with
        | none => exact hc hcv
        | some vv => have := block_lt hcv; simp only at this; omega
      have hg : u5.ownBlock ≠ some g := hbnd g 2 (by rw [hc2]; simp)
      have hb : u5.ownBlock ≠ some b := by
        obtain ⟨b', o', _, hp', _, _, c0, _⟩ := H.out.trk (i := i) (by rw [Hn.out]; exact hii)
        injection hp' with hp'; injection hp' with e1 e2
        subst e1
        exact hbnd b _ (by rw [c0]; simp)
      have HX := hide (And.intro hx (And.intro hxi hxt))
      have KB : Hid (∀ w', wr.grownBy w' u5.ownBlock → (wr.grownBy w' u5.ownBlock ∧ w'.cell? ⟨g, 2, none⟩ = some (.int .i64 dep) ∧ w'.cell? ⟨b, o + i * 10, none⟩ = some (.string t.label0) ∧ w'.cell? ⟨b, o + i * 10 + 1, none⟩ = some (.int .i64 t.from0) ∧ w'.cell? ⟨b, o + i * 10 + 2, none⟩ = some (.int .i64 t.to0) ∧ w'.cell? ⟨b, o + i * 10 + 3, none⟩ = some (.int .i64 t.class0) ∧
          w'.cell? ⟨b, o + i * 10 + 4, none⟩ = some (.int .i64 t.accept) ∧ w'.cell? ⟨b, o + i * 10 + 5, none⟩ = some (.slice t.sp t.stops.length t.sc) ∧ w'.cell? ⟨b, o + i * 10 + 6, none⟩ = some (.bool t.lost) ∧ w'.cell? ⟨b, o + i * 10 + 7, none⟩ = some (.slice t.np t.since.length t.nc) ∧
          w'.cell? ⟨b, o + i * 10 + 8, none⟩ = some (.slice t.lp t.label.length t.lc) ∧ w'.cell? ⟨b, o + i * 10 + 9, none⟩ = some (.slice t.ep t.seals.length t.ec))) :=
        hide (fun w' h => ⟨h, grow_cell h d2 hg, grow_cell h x0 hb, grow_cell h x1 hb, grow_cell h x2 hb, grow_cell h x3 hb, grow_cell h x4 hb, grow_cell h x5 hb, grow_cell h x6 hb, grow_cell h x7 hb, grow_cell h x8 hb, grow_cell h x9 hb⟩)
      have hin : (i : Int) < (n : Int) := by omega
      obtain ⟨hi0, hz0, hz1, hz2⟩ := HT.out
      have hsz := HB.out.size
      clear hx hxi hxt ht hbnd hg hb x0 x1 x2 x3 x4 x5 x6 x7 x8 x9 d2
      go_wp2
      go_region_held3 (fun w' => wr.grownBy w' u5.ownBlock ∧ w'.cell? ⟨g, 2, none⟩ = some (.int .i64 dep) ∧ w'.cell? ⟨b, o + i * 10, none⟩ = some (.string t.label0) ∧ w'.cell? ⟨b, o + i * 10 + 1, none⟩ = some (.int .i64 t.from0) ∧ w'.cell? ⟨b, o + i * 10 + 2, none⟩ = some (.int .i64 t.to0) ∧ w'.cell? ⟨b, o + i * 10 + 3, none⟩ = some (.int .i64 t.class0) ∧
          w'.cell? ⟨b, o + i * 10 + 4, none⟩ = some (.int .i64 t.accept) ∧ w'.cell? ⟨b, o + i * 10 + 5, none⟩ = some (.slice t.sp t.stops.length t.sc) ∧ w'.cell? ⟨b, o + i * 10 + 6, none⟩ = some (.bool t.lost) ∧ w'.cell? ⟨b, o + i * 10 + 7, none⟩ = some (.slice t.np t.since.length t.nc) ∧
          w'.cell? ⟨b, o + i * 10 + 8, none⟩ = some (.slice t.lp t.label.length t.lc) ∧ w'.cell? ⟨b, o + i * 10 + 9, none⟩ = some (.slice t.ep t.seals.length t.ec))
        (first | exact KB.out _ (grow_drew (World.grownBy.refl _ _)) | exact KB.out _ b7 | exact KB.out _ (grow_next b6 (balloc (Below.refl _ _) _)) | exact KB.out _ b6)
        (first
        | (go_at_call 53
           rw [← hv.out]
           refine labelAt_c t dep _ _ (Ht.out.keep (Keeps.drew _)) Hok.out.asc Hok.out.labels (by have := Hok.out.few.2; show t.since.length ≤ _; exact Nat.le_trans this (by decide)) ?_
           intro w6 hb6
           have b6 : wr.grownBy w6 u5.ownBlock := grow_next (grow_drew (World.grownBy.refl wr _)) hb6)
        | (refine step_where rfl (.tmp 17) (.tmp 28) 29 rfl w.heap.size 9 i0 _ 1 16 Try.underlying29 hi0 hz0 hz1 hz2 rfl (by omega) u5 _ _ rfl (own_below HO.out (bseq (bseq (Below.refl wr.heap.size wr).drew hb6) (balloc (Below.refl _ _) _))) ⟨w6.heap.size, 0, none⟩ 1 1 [.string (labelP t.tk dep)] rfl rfl (one_cells rfl) (by intro u hu; obtain rfl := List.mem_singleton.1 hu; rfl) (by unfold maxLen; omega) (by omega) (by have := b6.size; simp; omega) ?_
           intro v7 w7 hown hg7 hw7
           have b7 : wr.grownBy w7 u5.ownBlock := World.grownBy.trans (grow_next b6 (balloc (Below.refl _ _) _)) hg7))
      all_goals
        have HB3 := hide (show Below w.heap.size w w7 from HB.out.grown b7 HB.out.size (fun k hk => (HO.out.lt k hk).1))
        have HO3 := hide (show w7.ownsRow w.heap.size 9 1 v7 (labsP l (ins.take (j + 1)) dep).length (strsV (labsP l (ins.take (j + 1)) dep)) by rw [HS.out]; simpa [strsV] using hown)
        clear hown hg7 hw7 b7 KB HB HO HS
        go_wp2_with fail
        go_roundw
        case rel => exact ⟨j + 1, by omega, by go_num, HO3, HB3⟩
        case measure => simp [intOf]; omega
    · obtain rfl : j = m := by omega
      have HF := hide (show ins.take j = ins from List.take_of_length_le (by rw [Hm.out]; exact Nat.le_refl _))
      have HO2 := HO
      rw [HF.out] at HO2
      obtain ⟨cp, cc, hv, hs⟩ := strs_own HO2.out (fun s hs => by
        unfold labsP at hs
        obtain ⟨i, hi, rfl⟩ := List.mem_map.1 hs
        rw [List.getElem?_map]
        cases hx : l[i]? with
        | none => exact Nat.zero_le _
        | some t => exact labelP_size (H.out.2 t (List.mem_of_getElem? hx)) dep)
      subst hv
      have HR1 := hide (HR.out _ _ cc HB.out hs)
      clear hs HO HO2
      go_wp2
      exact HR1.out
end Go.Proofs.Ytihdpkeclmpehaa
