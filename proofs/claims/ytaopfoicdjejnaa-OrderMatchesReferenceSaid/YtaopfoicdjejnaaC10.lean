/- The units of events and legs. -/
import Derived.Test.YtaopfoicdjejnaaC8
import Derived.Test.YtaopfoicdjejnaaC9
set_option linter.unusedVariables false
set_option linter.unusedSimpArgs false
namespace Go.Proofs.Ytaopfoicdjejnaa
open Go.RowKit

theorem insNil_c (w : World) (R) (hR : R (.returned (.tuple #[])) w) : Calls Try.prog 50 #[.slice none 0 0, .int .i64 0, .int .i64 0, .func (.func 40) #[] #[]] w R := by
  have HR := hide hR; clear hR
  go_enter Try.func50, Try.ntmps50
  go_wp2
  go_loop [8] (fun i => i = .int .i64 1) (fun _ => 0)
  case atStart => rfl
  case round =>
    subst hrel
    go_wp2
    go_end0
    exact HR.out
theorem stNil_c (w : World) (R) (hR : R (.returned (.tuple #[])) w) : Calls Try.prog 47 #[.slice none 0 0, .int .i64 0, .func (.func 40) #[] #[]] w R := by
  have HR := hide hR; clear hR
  go_enter Try.func47, Try.ntmps47
  go_wp2
  go_loop [7, 8] (fun a b => a = .int .i64 0 ∧ b = .int .i64 20) (fun _ _ => 0)
  case atStart => exact ⟨rfl, rfl⟩
  case round =>
    obtain ⟨rfl, rfl⟩ := hrel
    go_wp2_with (go_at_call 50; refine insNil_c _ _ ?_)
    go_loop [6] (fun a => a = .int .i64 20) (fun _ => 0)
    case atStart => rfl
    case round =>
      subst hrel
      go_wp2
      go_end0
      exact HR.out
theorem sortNil_c (w : World) (R) (hR : R (.returned (.tuple #[])) w) : Calls Try.prog 39 #[.slice none 0 0, .func (.func 40) #[] #[]] w R := by
  have HR := hide hR; clear hR
  go_enter Try.func39, Try.ntmps39
  go_wp2_with (go_at_call 47; refine stNil_c _ _ ?_)
  go_end0
  exact HR.out

def evAt (es : List Evt) (i : Nat) : Evt := (es[i]?).getD ⟨0, 0, 0, none, 0, 0⟩
theorem evAt_at {es : List Evt} {i : Nat} {e : Evt} (h : es[i]? = some e) : evAt es i = e := by unfold evAt; rw [h]; rfl
def legUv (es : List Evt) (g : Lgr) : Uv := .leg g (evAt es g.src.toNat) (evAt es g.dst.toNat)
def inL (ls : List Lgr) (i : Nat) : Bool := ls.any fun g => g.src == (i : Int) || g.dst == (i : Int)
def onesL (es : List Evt) (ls : List Lgr) (k : Nat) : List Uv := ((List.range k).filter fun i => !inL ls i).map fun i => .one i (evAt es i)
def unitsL (es : List Evt) (ls : List Lgr) : List Uv := ls.map (legUv es) ++ onesL es ls es.length
theorem inL_succ {ls : List Lgr} {k : Nat} {g : Lgr} (h : ls[k]? = some g) (i : Nat) : inL (ls.take (k + 1)) i = (inL (ls.take k) i || (g.src == (i : Int) || g.dst == (i : Int))) := by
  unfold inL
  rw [List.take_add_one, h, List.any_append]
  simp
theorem onesL_no {es : List Evt} {ls : List Lgr} {k : Nat} (h : inL ls k = true) : onesL es ls (k + 1) = onesL es ls k := by
  unfold onesL; rw [List.range_succ, List.filter_append]; simp [h]
theorem onesL_yes {es : List Evt} {ls : List Lgr} {k : Nat} (h : inL ls k = false) : onesL es ls (k + 1) = onesL es ls k ++ [.one k (evAt es k)] := by
  unfold onesL; rw [List.range_succ, List.filter_append]; simp [h]
def bools (l : List Bool) : List Value := l.map Value.bool
/-- While the units are made. -/
structure SP (w : World) (ib n : Nat) (xs : List Bool) (v : Value) (us : List Uv) (wr : World) : Prop where
  below : Below w.heap.size w wr
  inl : wr.ownsRow w.heap.size 4 1 (.slice (some ⟨ib, 0, none⟩) n n) n (xs.map Value.bool)
  own : wr.ownsRow w.heap.size 57 1 v us.length (us.map Uv.val)
  ne : v.ownBlock ≠ some ib
  nil : us = [] → v = .slice none 0 0
section
variable {w : World} {ib n : Nat} {xs : List Bool} {v v' : Value} {us : List Uv} {wr w' : World}
theorem SP.next (h : SP w ib n xs v us wr) (hb : Below wr.heap.size wr w') : SP w ib n xs v us w' := ⟨bseq h.below hb, own_below h.inl hb, own_below h.own hb, h.ne, h.nil⟩
theorem SP.ib_lt (h : SP w ib n xs v us wr) : w.heap.size ≤ ib ∧ ib < wr.heap.size := h.inl.lt ib rfl
theorem SP.put (h : SP w ib n xs v us wr) (i : Nat) (b : Bool) : SP w ib n (xs.set i b) v us (wr.setCell ⟨ib, i, none⟩ (.bool b)) :=
  ⟨h.below.setCell (p := ⟨ib, i, none⟩) h.ib_lt.1 _, by rw [List.map_set]; exact (h.inl.stored i (.bool b)).1, ownsRow_setCell_other h.own (a := ⟨ib, i, none⟩) h.ne _, h.ne, h.nil⟩
theorem SP.cell (h : SP w ib n xs v us wr) {i : Nat} {b : Bool} (hi : xs[i]? = some b) : wr.cell? ⟨ib, i, none⟩ = some (.bool b) := by
  have hl : xs.length = n := by have := h.inl.1; simpa using this
  have := (List.getElem?_eq_some_iff.1 hi).1
  rw [h.inl.cellAt i (by omega), List.getElem?_map, hi]; rfl
theorem SP.app {x : Uv} (h : SP w ib n xs v us wr) (hg : wr.grownBy w' v.ownBlock) (ho : w'.ownsRow w.heap.size 57 1 v' (us.length + 1) (us.map Uv.val ++ [x.val])) (hw : v'.ownBlock = v.ownBlock ∨ ∀ k, v'.ownBlock = some k → wr.heap.size ≤ k) : SP w ib n xs v' (us ++ [x]) w' := by
  have hb := h.ib_lt
  refine ⟨h.below.grown hg h.below.size (fun k hk => (h.own.lt k hk).1), h.inl.kept hg (.inr (fun e => h.ne (by rw [← e]; rfl))), by simpa using ho, ?_, fun e => by simp at e⟩
  rcases hw with h1 | h1
  · rw [h1]; exact h.ne
  · intro e; have := h1 _ e; omega
end

theorem Try.info57 : (Try.prog.info? 57).map (fun i => (i.zero, i.size, i.bytes)) = some (some .nilIface, 1, 16) := by kernel_rfl
theorem mk75 (w : World) (n : Nat) (hn : n ≤ 100000) : ∃ w', Sem.run Try.prog (Instr.makeSlice 75 (.int .i64 (n : Int)) (.int .i64 (n : Int))) w = .ok (.slice (some ⟨w.heap.size, 0, none⟩) n n) w' ∧
    w'.ownsRow w.heap.size 4 1 (.slice (some ⟨w.heap.size, 0, none⟩) n n) n ((List.replicate n false).map Value.bool) ∧ Below w.heap.size w w' := by
  obtain ⟨i, hi, h⟩ := Option.map_eq_some_iff.1 Try.info4
  simp only [Prod.mk.injEq] at h
  obtain ⟨hz, hs, hb⟩ := h
  obtain ⟨w', h1, h2, h3⟩ := run_makeSlice_full (P := Try.prog) w w.heap.size 75 4 i (.bool false) 1 Try.underlying75 hi hz hs .i64 .i64 n (by omega) (by rw [hb]; omega) (by unfold maxLen; omega) (Nat.le_refl _)
  rw [show (madeCells (Value.cells (.bool false)) (n * 1)).toList = (List.replicate n false).map Value.bool by rw [List.map_replicate, Nat.mul_one]; exact toList_madeCells_one (.bool false) n] at h2
  exact ⟨w', h1, h2, (Below.refl _ _).grown h3 (Nat.le_refl _) (fun k hk => by cases hk)⟩
theorem wp_where {P : Program} {w : World} {o : Oper} {a : Act} {K : Act → World → Prop} {Q : Exit → Act → World → Prop} (s x : Operand) (t : TypeId)
    (ho : o.op = .call { callee := .builtin .append, args := #[s, x], argTypes := #[t, t] })
    (base : Nat) (e : TypeId) (i : TypeInfo) (z : Value) (size bytes : Nat) (ht : P.underlying t = some (.slice e)) (hi : P.info? e = some i) (hz : i.zero = some z)
    (hsize : i.size = size) (hby : i.bytes = bytes) (hzs : z.cells.size = size) (hsz : 0 < size)
    (v : Value) (n : Nat) (xs : List Value) (hs : a.eval s = v) (hown : w.ownsRow base e size v n xs)
    (ad : Addr) (m c : Nat) (news : List Value) (hx : a.eval x = .slice (some ad) m c) (hl : news.length = m * size) (hnews : ∀ j u, news[j]? = some u → w.cell? (ad.add j) = some u) (h1 : ∀ u ∈ news, u.oneCell' = true)
    (h63 : n + m ≤ maxLen) (hbytes : (n + m) * bytes ≤ 140737488355328) (hbase : base ≤ w.heap.size)
    (h : ∀ v' w', w'.ownsRow base e size v' (n + m) (xs ++ news) → w.grownBy w' v.ownBlock → (v'.ownBlock = v.ownBlock ∨ ∀ k, v'.ownBlock = some k → w.heap.size ≤ k) → K (a.put o.dst v') w') : o.wp P a w K Q := by
  obtain ⟨v', w', hr, h2, h3, h4⟩ := run_append_own (P := P) w base t o.type e i z size bytes ht hi hz hsize hby hzs hsz v n xs hown ad m c news hl hnews h1 h63 hbytes hbase
  have hw := app_where w base t o.type e i z size bytes ht hi hz hsize hby hzs hsz v n xs hown ad m c news hl hnews h1 h63 hbytes v' w' hr
  unfold Oper.wp execOp
  simp only [ho, resolve, invoke, builtin, Sem.run_bind, Sem.run_pure, Result.andThen_ok, List.map_toArray, List.map_cons, List.map_nil, hs, hx, hr]
  exact h v' w' h2 h3 hw
theorem step_where {P : Program} {w : World} {ops : Array Oper} {o : Oper} {a : Act} {K : Act → World → Prop} {Q : Exit → Act → World → Prop} {E : Prop} (hgd : o.guard = none) (s x : Operand) (t : TypeId)
    (ho : o.op = .call { callee := .builtin .append, args := #[s, x], argTypes := #[t, t] })
    (base : Nat) (e : TypeId) (i : TypeInfo) (z : Value) (size bytes : Nat) (ht : P.underlying t = some (.slice e)) (hi : P.info? e = some i) (hz : i.zero = some z)
    (hsize : i.size = size) (hby : i.bytes = bytes) (hzs : z.cells.size = size) (hsz : 0 < size)
    (v : Value) (n : Nat) (xs : List Value) (hs : a.eval s = v) (hown : w.ownsRow base e size v n xs)
    (ad : Addr) (m c : Nat) (news : List Value) (hx : a.eval x = .slice (some ad) m c) (hl : news.length = m * size) (hnews : ∀ j u, news[j]? = some u → w.cell? (ad.add j) = some u) (h1 : ∀ u ∈ news, u.oneCell' = true)
    (h63 : n + m ≤ maxLen) (hbytes : (n + m) * bytes ≤ 140737488355328) (hbase : base ≤ w.heap.size)
    (h : ∀ v' w', w'.ownsRow base e size v' (n + m) (xs ++ news) → w.grownBy w' v.ownBlock → (v'.ownBlock = v.ownBlock ∨ ∀ k, v'.ownBlock = some k → w.heap.size ≤ k) → K (a.put o.dst v') w') : if Region.wanted o (yielded ops a.tmps) = true then Oper.wp P o a w K Q else E := by
  rw [if_pos (by simp [Region.wanted, hgd])]
  exact wp_where s x t ho base e i z size bytes ht hi hz hsize hby hzs hsz v n xs hs hown ad m c news hx hl hnews h1 h63 hbytes hbase h
theorem one_cells {v : Value} {w : World} {t : TypeId} {n : Nat} (hn : n = w.heap.size) : ∀ j u, ([v] : List Value)[j]? = some u → (w.alloc (.cells #[v] t)).cell? ((⟨n, 0, none⟩ : Addr).add j) = some u := by
  intro j u h
  rw [Addr.add_lit, Nat.zero_add]
  exact (Blk.new_at hn).cell (by simpa using h)
theorem grow_cell {w w' : World} {row : Option Nat} {b o : Nat} {v : Value} (h : w.grownBy w' row) (hc : w.cell? ⟨b, o, none⟩ = some v) (hne : row ≠ some b) : w'.cell? ⟨b, o, none⟩ = some v := by
  rw [World.cell?_of_block (h.block b (block_lt hc) (fun e => hne e.symm))]; exact hc
theorem grow_drew {w w' : World} {row : Option Nat} (h : w.grownBy w' row) : w.grownBy w'.drew row := grow_next h ((Below.refl _ _).drew)
/-- Can a leg be gone in its time? -/
def legOk (d : List (List Int)) (es : List Evt) (g : Lgr) : Prop := dst d (evAt es g.src.toNat).office.toNat (evAt es g.dst.toNat).office.toNat ≠ -1 ∧ dst d (evAt es g.src.toNat).office.toNat (evAt es g.dst.toNat).office.toNat ≤ g.gap
def winOk (u : Uv) : Prop := u.un.low ≤ u.un.high

theorem fm1 : ∀ L : List Uv, L.flatMap (fun u => [u.val]) = L.map Uv.val
  | [] => rfl
  | a :: t => by rw [List.flatMap_cons, fm1 t]; rfl
theorem evAt_office {d : List (List Int)} {es : List Evt} {ls : List Lgr} (hW : WellP d es ls) {i : Nat} (hi : i < es.length) : 0 ≤ (evAt es i).office ∧ (evAt es i).office < d.length := by
  rw [evAt_at (List.getElem?_eq_getElem hi)]
  exact hW.office _ (List.getElem_mem hi)
theorem units_ok {d : List (List Int)} {es : List Evt} {ls : List Lgr} (hW : WellP d es ls) : ∀ u ∈ unitsL es ls, u.Ok ∧ 0 ≤ u.en ∧ u.en < d.length ∧ 0 ≤ u.ex ∧ u.ex < d.length := by
  intro u hu
  unfold unitsL at hu
  rcases List.mem_append.1 hu with h | h
  · obtain ⟨g, hg, rfl⟩ := List.mem_map.1 h
    obtain ⟨a1, a2, a3, a4, a5, a6⟩ := hW.leg g hg
    have h1 := evAt_office hW (i := g.src.toNat) (by omega)
    have h2 := evAt_office hW (i := g.dst.toNat) (by omega)
    exact ⟨⟨h1.1, h2.1, a5, a6⟩, h1.1, h1.2, h2.1, h2.2⟩
  · unfold onesL at h
    obtain ⟨i, hi, rfl⟩ := List.mem_map.1 h
    have hi' := (List.mem_filter.1 hi).1
    have h1 := evAt_office hW (i := i) (by simpa using hi')
    exact ⟨h1.1, h1.1, h1.2, h1.1, h1.2⟩
theorem legs_few {d : List (List Int)} {es : List Evt} {ls : List Lgr} (hW : WellP d es ls) : ls.length ≤ 8 := by
  have h1 : ∀ l : List Lgr, (l.flatMap fun g => [g.src, g.dst]).length = 2 * l.length := fun l => by
    induction l with
    | nil => rfl
    | cons g t ih => simp [ih]; omega
  have h2 : ((ls.flatMap fun g => [g.src, g.dst]).map Int.toNat).Nodup := by
    unfold List.Nodup
    rw [List.pairwise_map]
    refine List.Pairwise.imp_of_mem (fun {a b} ha hb hne e => hne ?_) hW.once
    have ok : ∀ x ∈ (ls.flatMap fun g => [g.src, g.dst]), 0 ≤ x := fun x hx => by
      obtain ⟨g, hg, hx⟩ := List.mem_flatMap.1 hx
      obtain ⟨a1, a2, a3, a4, a5, a6⟩ := hW.leg g hg
      simp at hx
      rcases hx with rfl | rfl <;> omega
    have := ok a ha; have := ok b hb
    omega
  have h3 := nodup_len es.length _ h2 (fun x hx => by
    obtain ⟨y, hy, rfl⟩ := List.mem_map.1 hx
    obtain ⟨g, hg, hy⟩ := List.mem_flatMap.1 hy
    obtain ⟨a1, a2, a3, a4, a5, a6⟩ := hW.leg g hg
    simp at hy
    rcases hy with rfl | rfl <;> omega)
  rw [List.length_map, h1] at h3
  have := hW.few
  omega
set_option maxRecDepth 100000 in
set_option maxHeartbeats 8000000 in
theorem split_c (dp ep lp : Option Addr) (dc ec lc : Nat) (d : List (List Int)) (es : List Evt) (ls : List Lgr) (w : World) (R) (hd : RowsAt w dp d) (he : EvsAt w ep es) (hl : LgsAt w lp ls) (hW : WellP d es ls)
    (hR0 : ((∃ g ∈ ls, ¬ legOk d es g) ∨ ∃ u ∈ unitsL es ls, ¬ winOk u) → ∀ w', Below w.heap.size w w' → R (.returned (.tuple #[.slice none 0 0, .bool false])) w')
    (hR1 : (∀ g ∈ ls, legOk d es g) → (∀ u ∈ unitsL es ls, winOk u) → ∀ q c M w', M.Perm (List.range (unitsL es ls).length) → Srt (keyF (unitsL es ls)) id M → Below w.heap.size w w' → UvsAt w' q (M.map (uvF (unitsL es ls))) → R (.returned (.tuple #[.slice q (unitsL es ls).length c, .bool true])) w') :
    Calls Try.prog 24 #[.slice dp d.length dc, .slice ep es.length ec, .slice lp ls.length lc] w R := by
  have HR0 := hide hR0; have HR1 := hide hR1; have Hd := hide hd; have He := hide he; have Hl := hide hl; have HW := hide hW
  obtain ⟨w1, hm, how, hb1⟩ := mk75 w es.length (by have := hW.few; omega)
  have hfew := hW.few
  have HP := hide (show SP w w.heap.size es.length (List.replicate es.length false) (.slice none 0 0) [] w1 from ⟨hb1, how, World.ownsRow_nil .., by simp [Value.ownBlock], fun _ => rfl⟩)
  obtain ⟨i0, hi0, hz0, hz1, hz2⟩ := info_parts Try.info57
  clear hR0 hR1 hd he hl hW how hb1
  have hls : ls.length ≤ 8 := legs_few HW.out
  go_enter Try.func24, Try.ntmps24
  go_wp2
  clear hm
  obtain ⟨ib, hib⟩ : ∃ ib, w.heap.size = ib := ⟨_, rfl⟩
  rw [hib] at ⊢
  have HP' : Hid (SP w ib es.length (List.replicate es.length false) (.slice none 0 0) [] w1) := by rw [← hib]; exact HP
  clear HP
  go_loopw [8, 24] (fun v sk wr => ∃ (k : Nat) (xs : List Bool), k ≤ ls.length ∧ sk = .int .i64 k ∧ Hid (SP w ib es.length xs v ((ls.take k).map (legUv es)) wr) ∧ Hid (xs.length = es.length ∧ (∀ (i : Nat) (b : Bool), xs[i]? = some b → b = inL (ls.take k) i) ∧ ∀ g ∈ ls.take k, legOk d es g)) (fun _ sk _ => ls.length - (intOf sk).toNat)
  case atStart => exact ⟨0, _, Nat.zero_le _, rfl, HP', hide ⟨by simp, fun i b hb => by
    have := List.mem_of_getElem? hb
    rw [List.mem_replicate] at this
    rw [this.2]; rfl, fun g hg => by simp at hg⟩⟩
  case round =>
    clear HP'
    obtain ⟨k, xs, hk, rfl, HP, HX⟩ := hrel
    by_cases hlt : k < ls.length
    · obtain ⟨lb, lo, g, rfl, hg, l0, l1, l2⟩ := (Hl.out.keep (Keeps.of_below HP.out.below)).lg hlt
      have hw := HW.out.leg g (List.mem_of_getElem? hg)
      have hne : g.src ≠ g.dst := by
        have h1 := HW.out.once
        intro e
        have h2 : ([g.src, g.dst] : List Int).Sublist (ls.flatMap fun g => [g.src, g.dst]) := by
          rw [List.flatMap_def]
          exact List.sublist_flatten_of_mem (List.mem_map.2 ⟨g, List.mem_of_getElem? hg, rfl⟩)
        have h3 := h2.nodup h1
        simp at h3
        exact h3 e
      have Hg := hide hg
      rcases g with ⟨gs, gd, gg⟩
      simp only at hw hne l0 l1 l2
      obtain ⟨a, rfl⟩ : ∃ a : Nat, gs = a := ⟨gs.toNat, by omega⟩
      obtain ⟨b, rfl⟩ : ∃ b : Nat, gd = b := ⟨gd.toNat, by omega⟩
      obtain ⟨w1', w2', w3', w4', w5', w6'⟩ := hw
      have hab : ¬ a = b := by omega
      have ha : a < es.length := by omega
      have hb : b < es.length := by omega
      have HP1 := hide (HP.out.next (balloc (Below.refl _ _) (.cells #[.int .i64 (a : Int), .int .i64 (b : Int), .int .i64 gg] 39)))
      have c0 := HP1.out.cell (i := a) (List.getElem?_eq_getElem (by rw [HX.out.1]; exact ha))
      have c1 := HP1.out.cell (i := b) (List.getElem?_eq_getElem (by rw [HX.out.1]; exact hb))
      have fz := fun j => HP1.out.inl.frozenAt j
      generalize xs[a]'_ = xa at c0
      generalize xs[b]'_ = xb at c1
      have hibl := HP.out.ib_lt.2
      have HPa := (HP.out.put a true).next (balloc (Below.refl _ _) (.cells #[.int .i64 (a : Int), .int .i64 (b : Int), .int .i64 gg] 39))
      have HPb := (HP.out.put b true).next (balloc (Below.refl _ _) (.cells #[.int .i64 (a : Int), .int .i64 (b : Int), .int .i64 gg] 39))
      have ca := HPa.cell (i := b) (List.getElem?_eq_getElem (by rw [List.length_set, HX.out.1]; exact hb))
      have cb := HPb.cell (i := a) (List.getElem?_eq_getElem (by rw [List.length_set, HX.out.1]; exact ha))
      generalize (xs.set a true)[b]'_ = xa' at ca
      generalize (xs.set b true)[a]'_ = xb' at cb
      have fza := fun j => HPa.inl.frozenAt j
      have fzb := fun j => HPb.inl.frozenAt j
      have Ka := Blk.new_at (w := wr.setCell ⟨ib, a, none⟩ (.bool true)) (cs := #[.int .i64 (a : Int), .int .i64 (b : Int), .int .i64 gg]) (t := 39) (n := wr.heap.size) (by simp [World.setCell])
      have Kb := Blk.new_at (w := wr.setCell ⟨ib, b, none⟩ (.bool true)) (cs := #[.int .i64 (a : Int), .int .i64 (b : Int), .int .i64 gg]) (t := 39) (n := wr.heap.size) (by simp [World.setCell])
      have ka0 := Ka.cell (k := 0) (v := .int .i64 (a : Int)) rfl; have ka1 := Ka.cell (k := 1) (v := .int .i64 (b : Int)) rfl
      have kb0 := Kb.cell (k := 0) (v := .int .i64 (a : Int)) rfl; have kb1 := Kb.cell (k := 1) (v := .int .i64 (b : Int)) rfl
      clear hg hne HPa HPb Ka Kb
      go_wp2
      go_region
      go_wp2
      have HP2 := hide (((HP.out.put a true).put b true).next ((balloc (Below.refl _ _) (.cells #[.int .i64 (a : Int), .int .i64 (b : Int), .int .i64 gg] 39)).drew))
      have HK2 := hide (Blk.new_at (w := (wr.setCell ⟨ib, a, none⟩ (.bool true)).setCell ⟨ib, b, none⟩ (.bool true)) (cs := #[.int .i64 (a : Int), .int .i64 (b : Int), .int .i64 gg]) (t := 39) (n := wr.heap.size) (by simp [World.setCell])).drew
      have hvb : u8.ownBlock ≠ some wr.heap.size := fun e => by have := (HP.out.own.lt _ e).2; omega
      clear c0 c1 fz ca cb fza fzb ka0 ka1 kb0 kb1 l0 l1 l2 HP1 HP
      generalize (((wr.setCell ⟨ib, a, none⟩ (.bool true)).setCell ⟨ib, b, none⟩ (.bool true)).alloc (.cells #[.int .i64 (a : Int), .int .i64 (b : Int), .int .i64 gg] 39)).drew = V at *
      obtain ⟨bx, hbx⟩ : ∃ bx, wr.heap.size = bx := ⟨_, rfl⟩
      rw [hbx] at HK2 hvb ⊢
      clear hbx hibl
      have k0 := HK2.out.cell (k := 0) (v := .int .i64 (a : Int)) rfl
      have k1 := HK2.out.cell (k := 1) (v := .int .i64 (b : Int)) rfl
      have k2 := HK2.out.cell (k := 2) (v := .int .i64 gg) rfl
      have hea9 := He.out.at_ ha
      obtain ⟨eb, eo, ea, rfl, hea, ea0, ea1, ea2, ea3⟩ := (He.out.keep (Keeps.of_below HP2.out.below)).ev ha
      have hel : eb < w.heap.size := by
        obtain ⟨b9, o9, x9, hp9, _, hc9⟩ := hea9
        injection hp9 with hp9; injection hp9 with h1 h2
        rw [h1]; exact block_lt (hc9 0 _ rfl)
      clear hea9
      obtain ⟨eb', eo', eb2, heq, heb, eb0, eb1, eb2', eb3⟩ := (He.out.keep (Keeps.of_below HP2.out.below)).ev hb
      injection heq with heq; injection heq with h1 h2
      subst h1; subst h2
      have hoa := HW.out.office ea (List.mem_of_getElem? hea)
      have hob := HW.out.office eb2 (List.mem_of_getElem? heb)
      obtain ⟨rb, ro, r, q, rc, rfl, hr, cr, hi, hrl⟩ := (Hd.out.keep (Keeps.of_below HP2.out.below)).at_ (i := ea.office.toNat) (by omega)
      have hr2 := (HW.out.dist.row r (List.mem_of_getElem? hr)).1
      obtain ⟨qb, qo, x, rfl, hx, cx⟩ := hi.at_ (i := eb2.office.toNat) (by omega)
      have hdx := dst_at hr hx
      have hrng := HW.out.dist.rng ea.office.toNat eb2.office.toNat
      rw [hdx] at hrng
      have hoar : ea.office < (d.length : Int) := hoa.2
      have hoa0 := hoa.1
      have hob0 := hob.1
      have hobr : eb2.office < (r.length : Int) := by omega
      have HD := hide (show dst d (evAt es a).office.toNat (evAt es b).office.toNat = x by rw [evAt_at hea, evAt_at heb]; exact hdx)
      have HU := hide (show legUv es ⟨a, b, gg⟩ = .leg ⟨a, b, gg⟩ ea eb2 by unfold legUv; rw [show (⟨a, b, gg⟩ : Lgr).src.toNat = a by simp, show (⟨a, b, gg⟩ : Lgr).dst.toNat = b by simp, evAt_at hea, evAt_at heb])
      clear hea heb hr hi hrl hr2 hx hdx hoa hob
      by_cases hxm : x = -1
      · subst hxm
        have HR2 := hide (HR0.out (.inl ⟨_, List.mem_of_getElem? Hg.out, fun h => h.1 (by show dst d (evAt es (a : Int).toNat).office.toNat (evAt es (b : Int).toNat).office.toNat = -1; simpa using HD.out)⟩))
        go_wp2
        go_quiet (fail)
        go_wp2
        exact HR2.out _ (below_drewN' HP2.out.below _)
      · have hx0 : 0 ≤ x := by omega
        have hxb : (x == (-1 : Int)) = false := by simpa using hxm
        by_cases hgt : gg < x
        · have HR2 := hide (HR0.out (.inl ⟨_, List.mem_of_getElem? Hg.out, fun h => by
            have h2 : dst d (evAt es (a : Int).toNat).office.toNat (evAt es (b : Int).toNat).office.toNat ≤ gg := h.2
            simp only [Int.toNat_natCast] at h2
            rw [HD.out] at h2; omega⟩))
          clear hxm
          go_wp2
          go_quiet (fail)
          go_wp2
          exact HR2.out _ (below_drewN' HP2.out.below _)
        · have hok := hide (show legOk d es ⟨a, b, gg⟩ by
            constructor
            · show dst d (evAt es (a : Int).toNat).office.toNat (evAt es (b : Int).toNat).office.toNat ≠ -1
              simp only [Int.toNat_natCast]; rw [HD.out]; exact hxm
            · show dst d (evAt es (a : Int).toNat).office.toNat (evAt es (b : Int).toNat).office.toNat ≤ gg
              simp only [Int.toNat_natCast]; rw [HD.out]; omega)
          clear hxm
          go_wp2
          go_quiet (fail)
          go_wp2
          have HP3 := hide (HP2.out.next (below_drewN' (Below.refl _ _) nq))
          have g0 : (V.drewN nq).cell? _ = _ := k0; have g1 : (V.drewN nq).cell? _ = _ := k1; have g2 : (V.drewN nq).cell? _ = _ := k2
          have f0 : (V.drewN nq).cell? _ = _ := ea0; have f1 : (V.drewN nq).cell? _ = _ := ea1; have f2 : (V.drewN nq).cell? _ = _ := ea2; have f3 : (V.drewN nq).cell? _ = _ := ea3
          have h0 : (V.drewN nq).cell? _ = _ := eb0; have h1 : (V.drewN nq).cell? _ = _ := eb1; have h2 : (V.drewN nq).cell? _ = _ := eb2'; have h3 : (V.drewN nq).cell? _ = _ := eb3
          clear k0 k1 k2 ea0 ea1 ea2 ea3 eb0 eb1 eb2' eb3 cr cx HP2 HK2
          generalize V.drewN nq = V2 at *
          have hlb : w.heap.size ≤ V2.heap.size := HP3.out.below.size
          have hkl : ((ls.take k).map (legUv es)).length = k := by rw [List.length_map, List.length_take]; omega
          have HO := HP3.out.own
          rw [hkl] at HO
          have hve : u8.ownBlock ≠ some eb := fun e => by have := (HP3.out.own.lt _ e).1; omega
          have KB : Hid (∀ w', V2.grownBy w' u8.ownBlock → (V2.grownBy w' u8.ownBlock ∧ w'.cell? ⟨bx, 0, none⟩ = some (.int .i64 (a : Int)) ∧ w'.cell? ⟨bx, 1, none⟩ = some (.int .i64 (b : Int)) ∧ w'.cell? ⟨bx, 2, none⟩ = some (.int .i64 gg) ∧
              w'.cell? ⟨eb, eo + a * 4, none⟩ = some (.int .i64 ea.office) ∧ w'.cell? ⟨eb, eo + a * 4 + 1, none⟩ = some (.int .i64 ea.low) ∧ w'.cell? ⟨eb, eo + a * 4 + 2, none⟩ = some (.int .i64 ea.high) ∧ w'.cell? ⟨eb, eo + a * 4 + 3, none⟩ = some (.slice ea.np ea.nn ea.nc) ∧
              w'.cell? ⟨eb, eo + b * 4, none⟩ = some (.int .i64 eb2.office) ∧ w'.cell? ⟨eb, eo + b * 4 + 1, none⟩ = some (.int .i64 eb2.low) ∧ w'.cell? ⟨eb, eo + b * 4 + 2, none⟩ = some (.int .i64 eb2.high) ∧ w'.cell? ⟨eb, eo + b * 4 + 3, none⟩ = some (.slice eb2.np eb2.nn eb2.nc))) :=
            hide (fun w' h => ⟨h, grow_cell h g0 hvb, grow_cell h g1 hvb, grow_cell h g2 hvb, grow_cell h f0 hve, grow_cell h f1 hve, grow_cell h f2 hve, grow_cell h f3 hve, grow_cell h h0 hve, grow_cell h h1 hve, grow_cell h h2 hve, grow_cell h h3 hve⟩)
          clear g0 g1 g2 f0 f1 f2 f3 h0 h1 h2 h3 hkl
          have HOw := hide HO
          clear HO
          go_region_held3 (fun w' => V2.grownBy w' u8.ownBlock ∧ w'.cell? ⟨bx, 0, none⟩ = some (.int .i64 (a : Int)) ∧ w'.cell? ⟨bx, 1, none⟩ = some (.int .i64 (b : Int)) ∧ w'.cell? ⟨bx, 2, none⟩ = some (.int .i64 gg) ∧
              w'.cell? ⟨eb, eo + a * 4, none⟩ = some (.int .i64 ea.office) ∧ w'.cell? ⟨eb, eo + a * 4 + 1, none⟩ = some (.int .i64 ea.low) ∧ w'.cell? ⟨eb, eo + a * 4 + 2, none⟩ = some (.int .i64 ea.high) ∧ w'.cell? ⟨eb, eo + a * 4 + 3, none⟩ = some (.slice ea.np ea.nn ea.nc) ∧
              w'.cell? ⟨eb, eo + b * 4, none⟩ = some (.int .i64 eb2.office) ∧ w'.cell? ⟨eb, eo + b * 4 + 1, none⟩ = some (.int .i64 eb2.low) ∧ w'.cell? ⟨eb, eo + b * 4 + 2, none⟩ = some (.int .i64 eb2.high) ∧ w'.cell? ⟨eb, eo + b * 4 + 3, none⟩ = some (.slice eb2.np eb2.nn eb2.nc))
            (first | exact KB.out _ (grow_drew (World.grownBy.refl _ _)) | exact KB.out _ (grow_drew (World.grownBy_alloc _ _ _)) | exact KB.out _ b7)
            (first | (refine step_where rfl (.tmp 61) (.tmp 75) 45 rfl w.heap.size 57 i0 .nilIface 1 16 Try.underlying45 hi0 hz0 hz1 hz2 rfl (by omega) _ k (((ls.take k).map (legUv es)).map Uv.val) rfl (own_below HOw.out ((balloc (Below.refl _ _) _).drew)) ⟨V2.heap.size, 0, none⟩ 1 1 [(legUv es ⟨a, b, gg⟩).val] (by rfl) rfl (by rw [HU.out]; exact one_cells rfl) (by rw [HU.out]; intro u hu; obtain rfl := List.mem_singleton.1 hu; rfl) (by unfold maxLen; omega) (by omega) (by simp; omega) ?_; intro v7 w7 hown hg7 hw7; have b7 : V2.grownBy w7 u8.ownBlock := World.grownBy.trans (grow_drew (World.grownBy_alloc V2 _ _)) hg7))
          have HP7 := hide ((HP3.out.next ((balloc (Below.refl _ _) (.cells #[(legUv es ⟨a, b, gg⟩).val] 57)).drew)).app (v' := v7) (w' := w7) (x := legUv es ⟨a, b, gg⟩) (by rw [HU.out]; exact hg7) (by rw [show ((ls.take k).map (legUv es)).length = k by rw [List.length_map, List.length_take]; omega]; exact hown) (by rw [HU.out]; exact hw7))
          have Hsnoc := hide (show (ls.take (k + 1)).map (legUv es) = (ls.take k).map (legUv es) ++ [legUv es ⟨a, b, gg⟩] by rw [List.take_add_one, Hg.out, List.map_append]; rfl)
          clear hown hg7 hw7 b7 KB HP3
          go_wp2
          go_roundw
          case rel =>
            refine ⟨k + 1, (xs.set a true).set b true, by omega, by go_num, by rw [Hsnoc.out]; exact HP7, hide ⟨by simp [HX.out.1], fun i bb hbb => ?_, fun g' hg' => ?_⟩⟩
            · rw [inL_succ Hg.out]
              rw [List.getElem?_set] at hbb
              split at hbb
              · rename_i e; subst e
                simp at hbb
                obtain ⟨_, rfl⟩ := hbb
                simp
              · rename_i e
                rw [List.getElem?_set] at hbb
                split at hbb
                · rename_i e2; subst e2
                  simp at hbb
                  obtain ⟨_, rfl⟩ := hbb
                  simp
                · rename_i e2
                  rw [HX.out.2.1 i bb hbb]
                  have q1 : ((a : Int) == (i : Int)) = false := by simp; omega
                  have q2 : ((b : Int) == (i : Int)) = false := by simp; omega
                  rw [q1, q2]; simp
            · rw [List.take_add_one, Hg.out] at hg'
              rcases List.mem_append.1 hg' with h | h
              · exact HX.out.2.2 g' h
              · simp at h; rw [h]; exact hok.out
          case measure => simp [intOf]; omega
    · obtain rfl : k = ls.length := by omega
      have HX2 := hide (show (∀ (i : Nat) (b : Bool), xs[i]? = some b → b = inL ls i) ∧ ∀ g ∈ ls, legOk d es g by
        have := HX.out; rw [List.take_length] at this; exact this.2)
      have hxl := HX.out.1
      have HPa : Hid (SP w ib es.length xs u8 (ls.map (legUv es) ++ onesL es ls 0) wr) := by
        have := HP.out; rw [List.take_length] at this; rw [show onesL es ls 0 = [] from rfl, List.append_nil]; exact hide this
      have Hxl := hide hxl
      clear HP HX hxl
      go_wp2
      go_loopw [8, 80] (fun v sk wr => ∃ k : Nat, k ≤ es.length ∧ sk = .int .i64 k ∧ Hid (SP w ib es.length xs v (ls.map (legUv es) ++ onesL es ls k) wr)) (fun _ sk _ => es.length - (intOf sk).toNat)
      case atStart => exact ⟨0, Nat.zero_le _, rfl, HPa⟩
      case round =>
        clear HPa
        obtain ⟨k, hk, rfl, HP⟩ := hrel
        by_cases hlt2 : k < es.length
        · obtain ⟨eb, eo, e, rfl, he, e0, e1, e2, e3⟩ := (He.out.keep (Keeps.of_below HP.out.below)).ev hlt2
          obtain ⟨b, hb⟩ : ∃ b, xs[k]? = some b := ⟨_, List.getElem?_eq_getElem (by rw [Hxl.out]; exact hlt2)⟩
          have hbv := HX2.out.1 k b hb
          have HP1 := hide (HP.out.next (balloc (Below.refl _ _) (.cells #[.int .i64 e.office, .int .i64 e.low, .int .i64 e.high, .slice e.np e.nn e.nc] 32)))
          have c0 := HP1.out.cell hb
          have HK := hide (Blk.new wr #[.int .i64 e.office, .int .i64 e.low, .int .i64 e.high, .slice e.np e.nn e.nc] 32)
          have k0 := HK.out.cell (k := 0) (v := .int .i64 e.office) rfl
          have k1 := HK.out.cell (k := 1) (v := .int .i64 e.low) rfl
          have k2 := HK.out.cell (k := 2) (v := .int .i64 e.high) rfl
          have k3 := HK.out.cell (k := 3) (v := .slice e.np e.nn e.nc) rfl
          have Hev := hide (evAt_at he)
          clear hb he
          cases b with
          | true =>
            have Hno := hide (onesL_no (es := es) hbv.symm)
            clear hbv
            go_wp2
            go_roundw
            case rel => exact ⟨k + 1, by omega, by go_num, by rw [Hno.out]; exact HP1⟩
            case measure => simp [intOf]; omega
          | false =>
            have Hyes := hide (onesL_yes (es := es) hbv.symm)
            clear hbv
            have hl1 : (ls.map (legUv es) ++ onesL es ls k).length ≤ 8 + k := by
              rw [List.length_append, List.length_map]
              have : (onesL es ls k).length ≤ k := by
                unfold onesL; rw [List.length_map]
                have := List.length_filter_le (fun i => !inL ls i) (List.range k)
                rwa [List.length_range] at this
              omega
            have HP2 := hide (HP1.out.next (balloc (Below.refl _ _) (.cells #[.iface 80 (.agg #[.int .i64 (k : Int), .int .i64 e.office, .int .i64 e.low, .int .i64 e.high, .slice e.np e.nn e.nc])] 57)))
            go_wp2_with (at_builtin; refine Stop.out ?_)
            refine Stop.go ?_
            refine wpList_append_where rfl (.tmp 90) (.tmp 95) 45 rfl w.heap.size 57 i0 .nilIface 1 16 Try.underlying45 hi0 hz0 hz1 hz2 rfl (by omega) _ _ _ rfl HP2.out.own _ 1 1 [.iface 80 (agOne k e)] rfl rfl ?_ (by intro u hu; obtain rfl := List.mem_singleton.1 hu; rfl) (by unfold maxLen; omega) (by omega) HP2.out.below.size ?_
            · exact one_cells (by simp)
            intro v7 w7 hown hg7 hw7
            have HP7 := hide (HP2.out.app (v' := v7) (w' := w7) (x := .one k e) hg7 hown hw7)
            have Hys := hide (show ls.map (legUv es) ++ onesL es ls (k + 1) = (ls.map (legUv es) ++ onesL es ls k) ++ [.one k e] by rw [Hyes.out, Hev.out, List.append_assoc])
            clear hown hg7 hw7 HP1 HP2 HP c0 k0 k1 k2 k3 e0 e1 e2 e3 hl1
            go_wp2_with fail
            go_roundw
            case rel => exact ⟨k + 1, by omega, by go_num, by rw [Hys.out]; exact HP7⟩
            case measure => simp [intOf]; omega
        · obtain rfl : k = es.length := by omega
          have HP1 : Hid (SP w ib es.length xs u8 (unitsL es ls) wr) := HP
          have hul : (unitsL es ls).length ≤ 24 := by
            unfold unitsL
            rw [List.length_append, List.length_map]
            have : (onesL es ls es.length).length ≤ es.length := by
              unfold onesL; rw [List.length_map]
              have := List.length_filter_le (fun i => !inL ls i) (List.range es.length)
              rwa [List.length_range] at this
            omega
          obtain ⟨v0, rfl⟩ : ∃ v0 : Value, v0 = u8 := ⟨_, rfl⟩
          obtain ⟨up, uc, hv0⟩ := own_slice HP1.out.own
          subst hv0
          go_wp2
          go_loopw [100] (fun si wr => ∃ k : Nat, k ≤ (unitsL es ls).length ∧ si = .int .i64 k ∧ Hid (SP w ib es.length xs (.slice up (unitsL es ls).length uc) (unitsL es ls) wr) ∧ Hid (∀ u ∈ (unitsL es ls).take k, winOk u)) (fun si _ => (unitsL es ls).length - (intOf si).toNat)
          case atStart => exact ⟨0, Nat.zero_le _, rfl, HP1, hide (by simp)⟩
          case round =>
            clear HP1 HP
            obtain ⟨k, hk, rfl, HP, HK⟩ := hrel
            have HOk := hide (units_ok HW.out)
            obtain ⟨us, hus⟩ : ∃ us, unitsL es ls = us := ⟨_, rfl⟩
            rw [hus] at HP HK HOk HR0 HR1 hk hul ⊢
            clear hus
            by_cases hlt3 : k < us.length
            · have hU : UvsAt wr up us := EncAt.of_own (k := 1) (enc := fun u : Uv => [u.val]) (fun _ => rfl) (by omega) (base := w.heap.size) (e := 57) (n := us.length) (cap := uc) (by rw [fm1]; exact HP.out.own)
              obtain ⟨b, o, u, rfl, hu, hc⟩ := hU.at_ hlt3
              have cu := hc 0 _ rfl
              simp only [Nat.mul_one, Nat.add_zero] at cu
              have Hsucc := hide (show us.take (k + 1) = us.take k ++ [u] by rw [List.take_add_one, hu]; rfl)
              have Hu := hide (List.mem_of_getElem? hu)
              have HUo := hide (HOk.out u Hu.out).1
              have f1 := m1_window; have f2 := m2_window
              clear hU hc hu
              rcases u with ⟨ui, ue⟩ | ⟨ug, ua, ub⟩
              all_goals
                simp only [Uv.val] at cu
                go_wp2_with (first | (go_at_call 76; refine Stop.out ?_) | (go_at_call 71; refine Stop.out ?_))
                first
                  | refine Stop.go (windowOne_c _ _ _ _ ?_)
                  | refine Stop.go (windowLeg_c _ _ _ HUo.out.2.2.1 HUo.out.2.2.2 _ _ ?_)
                intro w2 hb
                have HP2 := hide (HP.out.next hb)
                clear hb cu f1 f2 HP
              · by_cases hwin : clampHi ue.ev < clampLo ue.ev
                · have HR2 := hide (HR0.out (.inr ⟨_, Hu.out, fun h => by have : clampLo ue.ev ≤ clampHi ue.ev := h; omega⟩))
                  go_wp2
                  exact HR2.out _ HP2.out.below
                · go_wp2
                  go_roundw
                  case rel => exact ⟨k + 1, by omega, by go_num, HP2, hide (by rw [Hsucc.out]; intro u hu; rcases List.mem_append.1 hu with h | h; exact HK.out u h; rw [List.mem_singleton.1 h]; show clampLo ue.ev ≤ clampHi ue.ev; omega)⟩
                  case measure => simp [intOf]; omega
              · by_cases hwin : min (clampHi ua.ev) (clampHi ub.ev - ug.gap) < max (clampLo ua.ev) (clampLo ub.ev - ug.gap)
                · have HR2 := hide (HR0.out (.inr ⟨_, Hu.out, fun h => by have : max (clampLo ua.ev) (clampLo ub.ev - ug.gap) ≤ min (clampHi ua.ev) (clampHi ub.ev - ug.gap) := h; omega⟩))
                  go_wp2
                  exact HR2.out _ HP2.out.below
                · go_wp2
                  go_roundw
                  case rel => exact ⟨k + 1, by omega, by go_num, HP2, hide (by rw [Hsucc.out]; intro u hu; rcases List.mem_append.1 hu with h | h; exact HK.out u h; rw [List.mem_singleton.1 h]; show max (clampLo ua.ev) (clampLo ub.ev - ug.gap) ≤ min (clampHi ua.ev) (clampHi ub.ev - ug.gap); omega)⟩
                  case measure => simp [intOf]; omega
            · obtain rfl : k = us.length := by omega
              have hall := HK.out
              rw [List.take_length] at hall
              have HR2 := hide (HR1.out HX2.out.2 hall)
              clear hall HK
              cases us with
              | nil =>
                have hv := HP.out.nil rfl
                injection hv with h1 h2 h3
                subst h1; subst h3
                go_wp2_with (go_at_call 39; refine Stop.out ?_)
                refine Stop.go (sortNil_c _ _ ?_)
                go_wp2
                exact HR2.out none 0 [] _ (List.Perm.refl _) List.Pairwise.nil HP.out.below EncAt.nil
              | cons u0 ut =>
                obtain ⟨g, hg⟩ : ∃ g, up = some ⟨g, 0, none⟩ := by
                  rcases HP.out.own.2 with ⟨hv, h0⟩ | ⟨g, cap, cur, hv, _⟩
                  · simp at h0
                  · injection hv with hv; exact ⟨g, hv⟩
                subst hg
                have hgl := HP.out.own.lt g rfl
                obtain ⟨N, hN⟩ : ∃ N, u0 :: ut = N := ⟨_, rfl⟩
                rw [hN] at HP HR2 HOk hul ⊢
                clear hN
                go_wp2_with (go_at_call 39; refine Stop.out ?_)
                refine Stop.go (sortUnits_c g N.length uc w.heap.size N _ _ (fun u hu => (HOk.out u hu).1) rfl (by omega) hgl.2 HP.out.own ?_)
                intro w3 M pM sM hown hg3
                have HM := hide (And.intro pM (And.intro sM (And.intro hown (HP.out.below.grown hg3 HP.out.below.size (fun k hk => by injection hk with hk; omega)))))
                clear pM sM hown hg3
                go_wp2
                exact HR2.out _ _ M _ HM.out.1 HM.out.2.1 HM.out.2.2.2 (EncAt.of_own (k := 1) (enc := fun u : Uv => [u.val]) (fun _ => rfl) (by omega) (base := w.heap.size) (e := 57) (n := N.length) (cap := uc) (by rw [fm1]; exact HM.out.2.2.1))
end Go.Proofs.Ytaopfoicdjejnaa
