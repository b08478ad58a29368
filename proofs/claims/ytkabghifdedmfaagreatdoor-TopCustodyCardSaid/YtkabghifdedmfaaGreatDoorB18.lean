/- Records. -/
import Derived.Test.YtkabghifdedmfaaGreatDoorB16
import Derived.Test.YtkabghifdedmfaaGreatDoorB17
set_option linter.unusedVariables false
set_option linter.unusedSimpArgs false
namespace Go.Proofs.YtkabghifdedmfaaGreatDoor
open Go.RowKit Go.Sort Go.Shelf
attribute [local go_sem] Oper.semAt_some

theorem same_low {W W' : World} {row : Option Nat} {B k : Nat} (hg : W.grownBy W' row) (hr : ∀ r, row = some r → B ≤ r ∧ ∃ o : Obj, W.heap[r]? = some o ∧ o.isCells = false) (hk : k < B) (hl : k < W.heap.size) : W'.heap[k]? = W.heap[k]? :=
  hg.block k hl (fun e => by have := (hr k e.symm).1; omega)
theorem same_cells {W W' : World} {row : Option Nat} {B k : Nat} {cs : Array Value} {t : TypeId} {m} (hg : W.grownBy W' row) (hr : ∀ r, row = some r → B ≤ r ∧ ∃ o : Obj, W.heap[r]? = some o ∧ o.isCells = false) (hk : W.heap[k]? = some (.cells cs t m)) : W'.heap[k]? = W.heap[k]? :=
  hg.block k (lt_of_block hk) (fun e => by
    obtain ⟨_, o, ho, hc⟩ := hr k e.symm
    rw [hk] at ho; injection ho with ho; subst ho
    simp [Obj.isCells] at hc)
theorem below_rec {w W W' : World} {row : Option Nat} {B : Nat} (h : Below w.heap.size w W) (hg : W.grownBy W' row) (hr : ∀ r, row = some r → B ≤ r ∧ ∃ o : Obj, W.heap[r]? = some o ∧ o.isCells = false) (hB : w.heap.size ≤ B) : Below w.heap.size w W' :=
  h.grown hg h.size (fun k hk => by have := (hr k hk).1; omega)

/-- The caller's word while the scanners come. -/
structure IS (w : World) (gm b5 : Nat) (pre : List (Scn × Nat)) (W : World) : Prop where
  map : MpAt intK W gm (putS pre)
  box : Blk W b5 #[.map (some gm)] 78
  below : Below w.heap.size w W
  lo : w.heap.size ≤ gm

theorem wpListIn_append_where {F : Fence} {n : Nat} {P : Program} (w : World) {ops : Array Oper} {rest : List Oper} {o : Oper} {a : Act} {Q : Exit → Act → World → Prop}
    (hg : o.guard = none) (s x : Operand) (t : TypeId) (hop : o.op = Op.call { callee := Callee.builtin Builtin.append, args := #[s, x], argTypes := #[t, t] })
    (base : Nat) (e : TypeId) (i : TypeInfo) (z : Value) (size bytes : Nat) (h1 : P.underlying t = some (.slice e)) (h2 : P.info? e = some i) (h3 : i.zero = some z) (h4 : i.size = size) (h5 : i.bytes = bytes) (h6 : z.cells.size = size) (h7 : 0 < size)
    (v : Value) (k : Nat) (xs : List Value) (hs : a.eval s = v) (hown : w.ownsRow base e size v k xs) (ad : Addr) (m c : Nat) (news : List Value) (hx : a.eval x = .slice (some ad) m c) (hn : news.length = m * size)
    (hc : ∀ j u, news[j]? = some u → w.cell? (ad.add j) = some u) (h1c : ∀ u ∈ news, u.oneCell' = true) (b1 : k + m ≤ maxLen) (b2 : (k + m) * bytes ≤ 140737488355328) (b3 : base ≤ w.heap.size)
    (hK : ∀ v' w', w'.ownsRow base e size v' (k + m) (xs ++ news) → w.grownBy w' v.ownBlock → (v'.ownBlock = v.ownBlock ∨ ∀ k, v'.ownBlock = some k → w.heap.size ≤ k) → wpListIn F n P ops Q rest (a.put o.dst v') w') :
    wpListIn F n P ops Q (o :: rest) a w := by
  refine wpListIn_plain hg fun K hK' => ?_
  obtain ⟨v', w', hrun, r1, r2, r3⟩ := run_append_own (P := P) w base t o.type e i z size bytes h1 h2 h3 h4 h5 h6 h7 v k xs hown ad m c news hn hc h1c b1 b2 b3
  have r4 := app_where w base t o.type e i z size bytes h1 h2 h3 h4 h5 h6 h7 v k xs hown ad m c news hn hc h1c b1 b2 v' w' hrun
  unfold Oper.wpIn
  refine ⟨?_, ?_⟩
  · simp [Oper.about, hop, resolve, Target.leads, Sem.run_pure]
  · rw [Oper.semAt_plain F _ _ (by rw [hop]; intro c hc'; cases hc')]
    simp [execOp, hop, resolve, invoke, builtin, hs, hx, hrun, Result.andThen]
    exact hK' _ _ (hK v' w' r1 r2 r4)
theorem Tryz.info32 : (Tryz.prog.info? 32).map (fun i => (i.zero, i.size, i.bytes)) = some (some (.agg #[.int .i64 0, .int .i64 0, .int .i64 0, .int .i64 0, .string ⟨#[]⟩, .slice none 0 0]), 6, 72) := by kernel_rfl
theorem rec_one (r : Rec) : ∀ u ∈ r.cells, u.oneCell' = true := by
  intro u hu
  simp only [Rec.cells, List.mem_cons, List.not_mem_nil, or_false] at hu
  rcases hu with rfl | rfl | rfl | rfl | rfl | rfl <;> rfl
/-- The caller's word while the observations come. -/
structure IR (w : World) (sl : List Scn) (gm b5 b8 D1 : Nat) (M : List (Int × Value)) (pre : List Obm) (W : World) : Prop where
  map : MpAt intK W gm M
  box : Blk W b5 #[.map (some gm)] 78
  row : ∃ v, Blk W b8 #[v] 28 ∧ W.ownsRow w.heap.size 32 6 v (pre.filterMap (noteR sl)).length ((pre.filterMap (noteR sl)).flatMap Rec.cells) ∧ ∀ r ∈ pre.filterMap (noteR sl), StrRow W r.cp r.contents
  below : Below w.heap.size w W
  lo : w.heap.size ≤ gm
  lt8 : gm < b8
  d1 : W.heap[D1]? = some (.deferred (some []))
  d8 : D1 < b8
def badR (b8 : Nat) (W : World) (k : Nat) : Prop := k = b8 ∨ ∃ v, W.cell? ⟨b8, 0, none⟩ = some v ∧ v.ownBlock = some k
section
variable {w W W' : World} {sl : List Scn} {gm b5 b8 D1 : Nat} {M : List (Int × Value)} {pre : List Obm}
theorem IR.turn (h : IR w sl gm b5 b8 D1 M pre W) (hm : W'.heap[gm]? = W.heap[gm]?) (hd : W'.heap[D1]? = W.heap[D1]?) (hc : ∀ k cs t, Blk W k cs t → W'.heap[k]? = W.heap[k]?) (hb : Below w.heap.size w W') : IR w sl gm b5 b8 D1 M pre W' := by
  obtain ⟨v, h1, h2, h3⟩ := h.row
  refine ⟨h.map.block hm, h.box.same (hc _ _ _ h.box), ⟨v, h1.same (hc _ _ _ h1), own_same h2 (fun k hk => ?_), fun r hr => (h3 r hr).same fun k cs hk => hc k cs 9 hk⟩, hb, h.lo, h.lt8, hd.trans h.d1, h.d8⟩
  rcases h2.2 with ⟨hv, _⟩ | ⟨g', cap', cur, hv, _, hh, _⟩
  · subst hv; cases hk
  · subst hv; cases hk; exact hc _ _ _ hh
theorem IR.next (h : IR w sl gm b5 b8 D1 M pre W) (hb : Below W.heap.size W W') : IR w sl gm b5 b8 D1 M pre W' := h.turn (hb.block _ h.map.lt) (hb.block _ (lt_of_block h.d1)) (fun k cs t hk => hb.block k hk.lt) (bseq h.below hb)
theorem IR.badlt (h : IR w sl gm b5 b8 D1 M pre W) {k : Nat} (hk : badR b8 W k) : k < W.heap.size := by
  obtain ⟨v, h1, h2, h3⟩ := h.row
  rcases hk with rfl | ⟨v', hv', hk⟩
  · exact h1.lt
  · rw [h1.cell (k := 0) rfl] at hv'
    injection hv' with hv'; subst hv'
    exact (own_lt h2 hk).2
theorem IR.badsame (h : IR w sl gm b5 b8 D1 M pre W) (h8 : W'.heap[b8]? = W.heap[b8]?) {k : Nat} (hk : badR b8 W' k) : badR b8 W k := by
  rcases hk with hk | ⟨v, hv, hk⟩
  · exact .inl hk
  · rw [World.cell?_of_block h8] at hv
    exact .inr ⟨v, hv, hk⟩
theorem IR.kpb (h : IR w sl gm b5 b8 D1 M pre W) (hb : Below W.heap.size W W') : Kpb (badR b8) W W' := by
  obtain ⟨v, h1, h2, h3⟩ := h.row
  exact ⟨hb.size, fun k hk hn => ⟨hb.block k hk, fun e => hn (h.badsame (hb.block _ h1.lt) e)⟩⟩
theorem IR.skip {x : Obm} {W0 : World} {B L : Nat} (h : IR w sl gm b5 b8 D1 M pre W) (hk : Kpb (fun W k => k = L ∨ badR b8 W k) W0 W) (hx : noteR sl x = none) : KeepsFrom B W W ∧ Kpb (fun W k => k = L ∨ badR b8 W k) W0 W ∧ IR w sl gm b5 b8 D1 M (pre ++ [x]) W := by
  refine ⟨KeepsFrom.refl _ _, hk, ?_⟩
  obtain ⟨v, h1, h2, h3⟩ := h.row
  have e : (pre ++ [x]).filterMap (noteR sl) = pre.filterMap (noteR sl) := by rw [List.filterMap_append]; simp [hx]
  exact ⟨h.map, h.box, ⟨v, h1, by rw [e]; exact h2, by rw [e]; exact h3⟩, h.below, h.lo, h.lt8, h.d1, h.d8⟩
theorem IR.add {x : Obm} {r : Rec} {W0 w9 : World} {B L b9 : Nat} {cs : Array Value} {v v' u9 : Value} {o : Obj} (h : IR w sl gm b5 b8 D1 M pre W) (hk0 : Kpb (fun W k => k = L ∨ badR b8 W k) W0 W) (h9 : W0.heap.size ≤ b9) (h9w : w.heap.size ≤ b9) (hb9 : Blk W b9 cs 86)
    (hx : noteR sl x = some r) (hst : StrRow W r.cp r.contents) (hv : Blk W b8 #[v] 28) (hrow : W.ownsRow w.heap.size 32 6 v (pre.filterMap (noteR sl)).length ((pre.filterMap (noteR sl)).flatMap Rec.cells)) (hsts : ∀ r ∈ pre.filterMap (noteR sl), StrRow W r.cp r.contents)
    (hgr : ((W.setCell ⟨b9, 0, none⟩ u9).alloc o).grownBy w9 v.ownBlock) (hown : w9.ownsRow w.heap.size 32 6 v' ((pre.filterMap (noteR sl)).length + 1) ((pre.filterMap (noteR sl)).flatMap Rec.cells ++ r.cells))
    (hw : v'.ownBlock = v.ownBlock ∨ ∀ k, v'.ownBlock = some k → ((W.setCell ⟨b9, 0, none⟩ u9).alloc o).heap.size ≤ k) (h8w : w.heap.size ≤ b8) :
    KeepsFrom B W (w9.setCell ⟨b8, 0, none⟩ v') ∧ Kpb (fun W k => k = L ∨ badR b8 W k) W0 (w9.setCell ⟨b8, 0, none⟩ v') ∧ IR w sl gm b5 b8 D1 M (pre ++ [x]) (w9.setCell ⟨b8, 0, none⟩ v') := by
  have hsz : ((W.setCell ⟨b9, 0, none⟩ u9).alloc o).heap.size = W.heap.size + 1 := by simp [World.setCell]
  have hsz9 : (w9.setCell ⟨b8, 0, none⟩ v').heap.size = w9.heap.size := by simp [World.setCell]
  have hsame : ∀ k, k < W.heap.size → k ≠ b9 → k ≠ b8 → v.ownBlock ≠ some k → (w9.setCell ⟨b8, 0, none⟩ v').heap[k]? = W.heap[k]? := fun k hk n9 n8 nv => by
    rw [Below.heap_setCell _ _ _ _ n8, hgr.block k (by omega) (fun e => nv e.symm), (balloc (Below.refl (W.setCell ⟨b9, 0, none⟩ u9).heap.size _) o).block k (by simpa [World.setCell] using hk), Below.heap_setCell _ _ _ _ n9]
  have h98 : b9 ≠ b8 := hb9.ne hv (by decide)
  have h8o : v.ownBlock ≠ some b8 := hv.off_row hrow (by decide)
  have hb8 : Blk w9 b8 #[v] 28 := (hgr.block b8 (by have := hv.lt; omega) (fun e => h8o e.symm)).trans (((balloc (Below.refl (W.setCell ⟨b9, 0, none⟩ u9).heap.size _) o).block b8 (by simpa [World.setCell] using hv.lt)).trans ((Below.heap_setCell _ _ _ _ h98.symm).trans hv))
  have hb8' : Blk (w9.setCell ⟨b8, 0, none⟩ v') b8 #[v'] 28 := by have := hb8.set 0 v'; simpa using this
  have hv'8 : v'.ownBlock ≠ some b8 := fun e => by
    rcases hw with hw | hw
    · exact h8o (hw ▸ e)
    · have := hw _ e; have := hv.lt; omega
  have hbadW : ∀ k, ¬ badR b8 W k → k ≠ b8 ∧ v.ownBlock ≠ some k := fun k hn => ⟨fun e => hn (.inl e), fun e => hn (.inr ⟨v, hv.cell (k := 0) rfl, e⟩)⟩
  have e : (pre ++ [x]).filterMap (noteR sl) = pre.filterMap (noteR sl) ++ [r] := by rw [List.filterMap_append]; simp [hx]
  have hgm9 : gm ≠ b9 := fun e2 => by
    obtain ⟨es, cl, hh, _⟩ := h.map
    unfold Blk at hb9
    rw [← e2, hh] at hb9
    cases hb9
  have hgmo : v.ownBlock ≠ some gm := fun e2 => by
    obtain ⟨es, cl, hh, _⟩ := h.map
    rcases hrow.2 with ⟨hv', _⟩ | ⟨g', cap', cur, hv', _, hh', _⟩
    · subst hv'; cases e2
    · subst hv'; cases e2; rw [hh] at hh'; cases hh'
  have hstr : ∀ q l, StrRow W q l → StrRow (w9.setCell ⟨b8, 0, none⟩ v') q l := fun q l hq => hq.same fun k cs hk => hsame k hk.lt (hk.ne hb9 (by decide)) (hk.ne hv (by decide)) (hk.off_row hrow (by decide))
  refine ⟨⟨by rw [hsz9]; have := hgr.size; omega, fun k o' _ hk ho => ?_⟩, ?_, ?_⟩
  · rw [hsame k (lt_of_block hk) (fun e2 => ?_) (fun e2 => ?_) (fun e2 => ?_)]; exact hk
    · subst e2; unfold Blk at hb9; rw [hb9] at hk; injection hk with hk; subst hk; cases ho
    · subst e2; unfold Blk at hv; rw [hv] at hk; injection hk with hk; subst hk; cases ho
    · rcases hrow.2 with ⟨hv', _⟩ | ⟨g', cap', cur, hv', _, hh', _⟩
      · subst hv'; cases e2
      · subst hv'; cases e2; rw [hh'] at hk; injection hk with hk; subst hk; cases ho
  · refine ⟨by rw [hsz9]; have := hgr.size; have := hk0.1; omega, fun k hk hn => ?_⟩
    obtain ⟨a1, a2⟩ := hk0.2 k hk hn
    have hkW : k < W.heap.size := Nat.lt_of_lt_of_le hk hk0.1
    obtain ⟨n8, nv⟩ := hbadW k (fun e2 => a2 (.inr e2))
    refine ⟨(hsame k hkW (by omega) n8 nv).trans a1, fun e2 => ?_⟩
    rcases e2 with e2 | e2 | ⟨v2, hv2, e2⟩
    · exact a2 (.inl e2)
    · exact n8 e2
    · rw [hb8'.cell (k := 0) rfl] at hv2
      injection hv2 with hv2; subst hv2
      rcases hw with hw | hw
      · exact nv (hw ▸ e2)
      · have := hw _ e2; omega
  · refine ⟨h.map.block (hsame gm h.map.lt hgm9 (by have := h.lt8; omega) hgmo), h.box.same (hsame b5 h.box.lt (h.box.ne hb9 (by decide)) (h.box.ne hv (by decide)) (h.box.off_row hrow (by decide))), ⟨v', hb8', ?_, ?_⟩, ?_, h.lo, h.lt8, (hsame D1 (lt_of_block h.d1) (fun e2 => by unfold Blk at hb9; rw [← e2, h.d1] at hb9; cases hb9) (by have := h.d8; omega) (fun e2 => by
    rcases hrow.2 with ⟨hv', _⟩ | ⟨g', cap', cur, hv', _, hh', _⟩
    · subst hv'; cases e2
    · subst hv'; cases e2; rw [h.d1] at hh'; cases hh')).trans h.d1, h.d8⟩
    · have := own_same hown (w' := w9.setCell ⟨b8, 0, none⟩ v') (fun k hk => Below.heap_setCell _ _ _ _ (fun e2 => hv'8 (by rw [hk, e2])))
      rw [e]
      simpa using this
    · intro r' hr'
      rw [e] at hr'
      rcases List.mem_append.1 hr' with hr' | hr'
      · exact hstr _ _ (hsts r' hr')
      · rw [List.mem_singleton.1 hr']; exact hstr _ _ hst
    · have h1 : Below w.heap.size w ((W.setCell ⟨b9, 0, none⟩ u9).alloc o) := (h.below.setCell (p := ⟨b9, 0, none⟩) h9w u9).alloc (by simpa [World.setCell] using h.below.size) o
      have h2 := h1.grown hgr h1.size (fun k hk => (own_lt hrow hk).1)
      exact h2.setCell (p := ⟨b8, 0, none⟩) h8w v'
theorem IR.own {B : Nat} (hB : b8 < B) (hw : w.heap.size ≤ B) : OwnB B (IR w sl gm b5 b8 D1 M) := by
  intro s A A' row h hg hr
  exact h.turn (same_low hg hr (by have := h.lt8; omega) h.map.lt) (same_low hg hr (by have := h.d8; omega) (lt_of_block h.d1)) (fun k cs t hk => same_cells hg hr hk) (below_rec h.below hg hr hw)
theorem IR.bad {B : Nat} (hB : b8 < B) : BadB B (IR w sl gm b5 b8 D1 M) (badR b8) := by
  intro s A A' row h hg hr k hk
  obtain ⟨v, h1, h2, h3⟩ := h.row
  have := h.badsame (same_cells hg hr h1) hk
  exact ⟨this, h.badlt this⟩
end
theorem orderAny_c (base : Nat) (v : Value) (l : List Rec) (w : World) (R) (hn : l.length ≤ 1000000) (h : w.ownsRow base 32 6 v l.length (l.flatMap Rec.cells))
    (hR : ∀ w', w'.ownsRow base 32 6 v l.length ((sortK Rec.time l).flatMap Rec.cells) → w.grownBy w' v.ownBlock → R (.returned (.tuple #[])) w') : Calls Tryz.prog 22 #[v, .func (.func 23) #[] #[]] w R := by
  rcases h.2 with ⟨hv, h0⟩ | ⟨g, cap, cur, hv, hb, hh, rest⟩
  · subst hv
    have hl := List.length_eq_zero_iff.1 h0
    subst hl
    refine orderR0_c w R fun w' hb => hR w' (World.ownsRow_nil _ _ _ _) ?_
    exact ⟨hb.os, hb.tape, hb.output, hb.size, fun k hk _ => hb.block k hk⟩
  · subst hv
    exact orderR_c g l.length cap base l w R rfl hn (lt_of_block hh) h fun w' h1 h2 => hR w' h1 h2
theorem Tryz.info3' : (Tryz.prog.info? 3).map (fun i => (i.zero, i.size, i.bytes)) = some (some (.int .i64 0), 1, 8) := by kernel_rfl
theorem mk32 (w : World) (n : Nat) (hn : n ≤ 100000) : ∃ w', Sem.run Tryz.prog (Instr.makeSlice 24 (.int .i64 (n : Int)) (.int .i64 (n : Int))) w = .ok (.slice (some ⟨w.heap.size, 0, none⟩) n n) w' ∧
    w'.ownsRow w.heap.size 3 1 (.slice (some ⟨w.heap.size, 0, none⟩) n n) n ((List.replicate n (0 : Int)).map (Value.int .i64)) ∧ Below w.heap.size w w' := by
  obtain ⟨i, hi, hz, hs, hb⟩ := info_parts Tryz.info3'
  obtain ⟨w', h1, h2, h3⟩ := run_makeSlice_full (P := Tryz.prog) w w.heap.size 24 3 i (.int .i64 0) 1 Tryz.underlying24 hi hz hs .i64 .i64 n (by omega) (by rw [hb]; omega) (by unfold maxLen; omega) (Nat.le_refl _)
  rw [show (madeCells (Value.cells (.int .i64 0)) (n * 1)).toList = (List.replicate n (0 : Int)).map (Value.int .i64) by rw [List.map_replicate, Nat.mul_one]; exact toList_madeCells_one (.int .i64 0) n] at h2
  exact ⟨w', h1, h2, (Below.refl _ _).grown h3 (Nat.le_refl _) (fun k hk => by cases hk)⟩
theorem keeps_put {W : World} {D : Nat} {o o' : Obj} (h : W.heap[D]? = some o) (hc : o.isCells = false) : Keeps W (W.putObj D o') := fun a v hv => by
  have hne : a.block ≠ D := fun e => by
    unfold World.cell? at hv
    rw [e, h] at hv
    cases o with
    | cells cs t m => cases hc
    | _ => cases hv
  rw [World.cell?_of_block (World.putObj_heap_other hne)]; exact hv
/-- The records are numbered, one after the other. -/
structure IL (w : World) (b8 n : Nat) (v : Value) (cg : Nat) (rl : List Rec) (D1 D2 : Nat) (i : Nat) (W : World) : Prop where
  row : W.ownsRow w.heap.size 32 6 v rl.length ((midR rl i).flatMap Rec.cells)
  cnt : W.ownsRow w.heap.size 3 1 (.slice (some ⟨cg, 0, none⟩) n n) n ((cntsR n (rl.take i)).map (Value.int .i64))
  box : Blk W b8 #[v] 28
  str : ∀ r ∈ rl, StrRow W r.cp r.contents
  d1 : W.heap[D1]? = some (.deferred (some []))
  d2 : W.heap[D2]? = some (.deferred (some []))
  below : Below w.heap.size w W
theorem own_free {w : World} {base e size g n cap : Nat} {xs : List Value} (h : w.ownsRow base e size (.slice (some ⟨g, 0, none⟩) n cap) n xs) (k : Nat) : w.frozen? ⟨g, k, none⟩ = false := by
  rcases h.2 with ⟨hv, _⟩ | ⟨g', cap', cur, hv, _, hh, _⟩
  · cases hv
  · cases hv; exact frozen_of_row _ _ _ _ _ hh
theorem own_blk {w : World} {base e size g n cap : Nat} {xs : List Value} (h : w.ownsRow base e size (.slice (some ⟨g, 0, none⟩) n cap) n xs) : ∃ cs, Blk w g cs e := by
  rcases h.2 with ⟨hv, _⟩ | ⟨g', cap', cur, hv, _, hh, _⟩
  · cases hv
  · cases hv; exact ⟨cur, hh⟩
theorem IL.step {w W : World} {b8 n g N c cg i s cn : Nat} {rl : List Rec} {r : Rec} {D1 D2 : Nat} (h : IL w b8 n (.slice (some ⟨g, 0, none⟩) N c) cg rl D1 D2 i W) (hN : rl.length = N) (hr : rl[i]? = some r) (hs : s < n) (hsc : r.scanner = (s : Int)) (hcn : cntR (rl.take i) (s : Int) = cn) (h8 : w.heap.size ≤ b8) :
    IL w b8 n (.slice (some ⟨g, 0, none⟩) N c) cg rl D1 D2 (i + 1) ((W.setCell ⟨g, i * 6 + 1, none⟩ (.int .i64 (cn : Int))).setCell ⟨cg, s, none⟩ (.int .i64 ((cn : Int) + 1))).drew := by
  have hi := (List.getElem?_eq_some_iff.1 hr).1
  have hrow := h.row
  rw [hN] at hrow
  obtain ⟨cs1, hg1⟩ := own_blk hrow
  obtain ⟨cs2, hc2⟩ := own_blk h.cnt
  have hne : g ≠ cg := hg1.ne hc2 (by decide)
  have hsame : ∀ k, k ≠ g → k ≠ cg → ((W.setCell ⟨g, i * 6 + 1, none⟩ (.int .i64 (cn : Int))).setCell ⟨cg, s, none⟩ (.int .i64 ((cn : Int) + 1))).heap[k]? = W.heap[k]? := fun k h1 h2 => by
    rw [Below.heap_setCell _ _ _ _ h2, Below.heap_setCell _ _ _ _ h1]
  have hD : ∀ D : Nat, W.heap[D]? = some (.deferred (some [])) → ((W.setCell ⟨g, i * 6 + 1, none⟩ (.int .i64 (cn : Int))).setCell ⟨cg, s, none⟩ (.int .i64 ((cn : Int) + 1))).heap[D]? = some (.deferred (some [])) := fun D hD => by
    rw [hsame D (fun e => by subst e; unfold Blk at hg1; rw [hD] at hg1; cases hg1) (fun e => by subst e; unfold Blk at hc2; rw [hD] at hc2; cases hc2)]; exact hD
  refine ⟨?_, ?_, ?_, fun q hq => ?_, hD D1 h.d1, hD D2 h.d2, ?_⟩
  · have h1 := (hrow.stored (i * 6 + 1) (.int .i64 (cn : Int))).1
    have h2 := own_same h1 (w' := (W.setCell ⟨g, i * 6 + 1, none⟩ (.int .i64 (cn : Int))).setCell ⟨cg, s, none⟩ (.int .i64 ((cn : Int) + 1))) (fun k hk => by cases hk; exact Below.heap_setCell _ _ _ _ hne)
    have hml := midR_len (l := rl) (i := i) (by omega)
    have hmi : (midR rl i)[i]'(by omega) = r := by
      have h1 := midR_at hr
      rw [List.getElem?_eq_getElem (by omega)] at h1
      injection h1
    rw [flat_set1 (k := 6) (enc := Rec.cells) (fun _ => rfl) (midR rl i) i 1 { r with number := (cn : Int) } (.int .i64 (cn : Int)) (by omega) (by omega) (by rw [hmi]; rfl)] at h2
    have e := midR_succ hr
    have e2 : cntR (rl.take i) r.scanner = cn := by rw [hsc]; exact hcn
    rw [e2] at e
    rw [hN, e]
    exact h2
  · have h1 := own_same h.cnt (w' := W.setCell ⟨g, i * 6 + 1, none⟩ (.int .i64 (cn : Int))) (fun k hk => by cases hk; exact Below.heap_setCell _ _ _ _ (fun e => hne e.symm))
    have h2 := owni_set h1 s ((cn : Int) + 1)
    have e := cntsR_snoc n (rl.take i) r s hsc
    rw [hcn] at e
    rw [e, ← show rl.take (i + 1) = rl.take i ++ [r] by rw [List.take_add_one, hr]; rfl] at h2
    exact h2
  · exact (h.box.same (hsame b8 (h.box.ne hg1 (by decide)) (h.box.ne hc2 (by decide)))).drew
  · exact (h.str q hq).same (fun k cs hk => hsame k (hk.ne hg1 (by decide)) (hk.ne hc2 (by decide)))
  · have h1 := h.below.setCell (p := ⟨g, i * 6 + 1, none⟩) (own_lt hrow rfl).1 (.int .i64 (cn : Int))
    have h2 := h1.setCell (p := ⟨cg, s, none⟩) (own_lt h.cnt rfl).1 (.int .i64 ((cn : Int) + 1))
    exact h2.drew
set_option maxRecDepth 100000 in
set_option maxHeartbeats 4000000 in
theorem records_c (sp : Option Addr) (n cap : Nat) (sl : List Scn) (p : Option Addr) (m cap2 : Nat) (ts : List Trk) (w : World) (R) (hn : sl.length = n) (hS : ScnsAt w sp sl) (hso : ScnsOk sl) (hm : ts.length = m) (hT : TrksAt w p ts) (hto : TksOk (ts.map Trk.tk))
    (hR : ∀ w' q c (rl : List Rec), Below w.heap.size w w' → RecsAt w' q rl → rl.map Rec.rp = recordsP sl (ts.map Trk.tk) → R (.returned (.slice q rl.length c)) w') : Calls Tryz.prog 7 #[.slice sp n cap, .slice p m cap2] w R := by
  have HR := hide hR; have Hn := hide hn; have HS := hide hS; have Hso := hide hso; have Hm := hide hm; have HT := hide hT; have Hto := hide hto
  have hn24 : n ≤ 24 := by rw [← hn]; exact hso.1
  have hm8 : m ≤ 8 := by have := hto.1; rw [List.length_map, hm] at this; exact this
  have hmm := @run_makeMap Tryz.prog
  clear hR hn hS hso hm hT hto
  refine (callsIn_wide (n := 5)).1 ?_
  refine callsIn_of_wp_marks Tryz.func7 rfl trivial ?_ rfl
  simp only [Tryz.ntmps7, List.size_toArray, List.length_cons, List.length_nil, Nat.reduceAdd, Nat.reduceSub, Array.replicate_succ, Array.replicate_zero, List.push_toArray, List.append_toArray, List.nil_append, List.cons_append]
  refine wpIn_wide.2 ?_
  go_wp2_with (go_at_call 18; refine Stop.out ?_)
  refine Stop.go (scannersT_c sp cap n sl _ _ Hn.out HS.out Hso.out ?_)
  intro w1 hb1
  have HB1 := hide hb1
  clear hb1
  go_wp2_with (go_at_call 19; refine Stop.out ?_)
  refine Stop.go (wellFormed_c p cap2 m ts _ _ Hm.out (HT.out.keep (Keeps.of_below HB1.out)) Hto.out ?_)
  intro w2 hb2
  have HB2 := hide (bseq HB1.out hb2)
  clear hb2
  go_wp2_with (go_at_call 20; refine Stop.out ?_)
  obtain ⟨w3, hw3⟩ : ∃ w3, (w2.alloc (.map #[] 0)).alloc (.cells #[.map (some w2.heap.size)] 78) = w3 := ⟨_, rfl⟩
  rw [hw3]
  refine Stop.go (backward_c sp n cap w3 _ ?_)
  go_wp2
  have hb3 : Below w2.heap.size w2 w3 := hw3 ▸ balloc (balloc (Below.refl _ _) _) _
  have HW4 := hide (bseq HB2.out (bseq hb3 (balloc (Below.refl w3.heap.size w3) (.cells #[.slice sp n cap] 22))))
  have hsz3 : w3.heap.size = w2.heap.size + 2 := by rw [← hw3]; simp
  have hgm3 : MpAt intK w3 w2.heap.size (putS []) := by
    rw [← hw3]
    exact (MpAt.new w2).next (balloc (Below.refl _ _) _)
  have hbx3 : Blk w3 (w2.heap.size + 1) #[.map (some w2.heap.size)] 78 := by rw [← hw3]; exact Blk.new_at (by simp)
  have HI0 := hide (show IS w w2.heap.size (w2.heap.size + 1) [] (w3.alloc (.cells #[.slice sp n cap] 22)) from ⟨hgm3.next (balloc (Below.refl _ _) _), hbx3.next (balloc (Below.refl _ _) _), HW4.out, HB2.out.size⟩)
  have Hsz3 := hide hsz3
  clear hw3 hb3 hgm3 hbx3 hsz3
  refine (wpIn_wide (n := 5)).1 ?_
  refine rangeFunc_B (α := Scn × Nat) rfl (by omega) (gf := 48) (lb := #[.pointer (some ⟨w3.heap.size, 0, none⟩)]) rfl trivial (enters_of Tryz.func48 (by kernel_rfl) rfl)
    (back_seq 4 (by omega) sl sp cap n w3.heap.size w _ Hn.out (by omega) HS.out HW4.out (by simp)) (fun _ k => k = w2.heap.size) ?hK (fun _ => rfl)
    (IS w w2.heap.size (w2.heap.size + 1)) ?hI ?hIb HI0.out (fun W0 x a' W => W0.heap.size ≤ W.heap.size ∧ ∃ b7, a' = { tmps := #[.slice sp n cap, .slice p m cap2, undef, undef, .slice none 0 0, .pointer (some ⟨w2.heap.size + 1, 0, none⟩), .int .i64 (x.2 : Int), .pointer (some ⟨b7, 0, none⟩), undef, undef, undef, undef, undef, undef, undef, .slice sp n cap, .bool true, .bool false, .bool false, .slice p m cap2, .bool true, .bool false, .bool false, .map (some w2.heap.size), .slice sp n cap, .func (.func 48) #[] #[.pointer (some ⟨w3.heap.size, 0, none⟩)], .int .i64 (x.2 : Int), .agg #[.int .i64 x.1.operator, .int .i64 x.1.office, .int .i64 x.1.error], undef, undef, undef, undef, undef, undef, undef, undef, undef, undef, undef, undef, undef, undef, undef, undef, undef, undef, undef, undef, undef, undef, undef, undef, undef, undef, undef, undef, undef, undef, undef, undef, undef, undef, undef, undef, undef, undef, undef, undef, undef, undef, undef, undef, undef, undef, undef, undef, undef, undef, undef, undef, undef, undef, undef, undef, undef, undef, undef, undef, undef], defers := [] } ∧ Blk W b7 #[.int .i64 x.1.operator, .int .i64 x.1.office, .int .i64 x.1.error] 72) ?hA ?hassign ?hbody ?hdone
  case hK =>
    rintro k (hk | rfl)
    · exact ⟨Nat.lt_of_lt_of_le hk HW4.out.size, by have := HB2.out.size; omega⟩
    · exact ⟨by simp, by have := Hsz3.out; omega⟩
  case hI =>
    intro s W W' row h hg hr
    exact ⟨h.map.block (same_low hg hr (by have := Hsz3.out; simp; omega) h.map.lt), h.box.same (same_cells hg hr h.box), below_rec h.below hg hr HW4.out.size, h.lo⟩
  case hIb =>
    rintro s W W' row h hg hr k rfl
    exact ⟨rfl, h.map.lt⟩
  case hA =>
    rintro W0 a' s W W' row ⟨h0, b7, h1, h2⟩ hg hr
    exact ⟨Nat.le_trans h0 hg.size, b7, h1, h2.same (same_cells hg hr h2)⟩
  case hassign =>
    intro l pre x W K' hI _ hK
    unfold encS
    gi_wp2
    refine hK _ _ ((KeepsOthers.alloc _ _).from _) ⟨(balloc (Below.refl W.heap.size W) _).size, fun k hk hb => ⟨(balloc (Below.refl W.heap.size W) _).block k hk, hb⟩⟩ ⟨hI.map.next (balloc (Below.refl _ _) _), hI.box.next (balloc (Below.refl _ _) _), balloc hI.below _, hI.lo⟩ ⟨by simp, _, rfl, Blk.new _ _ _⟩
  case hbody =>
    rintro l pre x a' W0 W hI hlen ⟨_, b7, rfl, hb7⟩ hk0
    obtain ⟨W', hu, hM, hg, hs⟩ := hI.map.update mlaw60 x.1.office (.int .i64 (x.2 : Int))
    have d5 : W.cell? ⟨w2.heap.size + 1, 0, none⟩ = some (.map (some w2.heap.size)) := hI.box.cell (k := 0) rfl
    have d7 : W.cell? ⟨b7, 1, none⟩ = some (.int .i64 x.1.office) := hb7.cell (k := 1) rfl
    have hlt : w2.heap.size < (w3.alloc (.cells #[.slice sp n cap] 22)).heap.size := by have := Hsz3.out; simp; omega
    have hend := And.intro (KeepsFrom.of_grownBy (B := (w3.alloc (.cells #[.slice sp n cap] 22)).heap.size) hg (fun j hj => by injection hj with hj; omega)) (And.intro
      (hk0.trans (show Kpb (fun _ k => k = (w3.alloc (.cells #[.slice sp n cap] 22)).heap.size + 1 ∨ k = w2.heap.size) W W' from ⟨hg.size, fun k hk hn => ⟨hg.block k hk (fun e => hn (.inr (by injection e))), hn⟩⟩))
      (show IS w w2.heap.size (w2.heap.size + 1) (pre ++ [x]) W' from ⟨by rw [putS_snoc]; exact hM, hI.box.same (hg.block _ hI.box.lt (fun e => by injection e with e; omega)), hI.below.grown hg hI.below.size (fun k hk => by injection hk with hk; have := hI.lo; omega), hI.lo⟩))
    have He := hide hend
    clear hM hg hs hlt hend hI hk0
    gi_wp2
    exact He.out
  case hdone =>
    rintro D1 xs W5 hD1 rfl hI hk1
    have HI5 := hide hI
    have Hk1 := hide hk1
    have hD1s : w.heap.size ≤ D1 ∧ D1 < W5.heap.size := ⟨Nat.le_trans HW4.out.size hD1, lt_of_block hk1⟩
    clear hI hk1 hD1
    obtain ⟨W6, hW6⟩ : ∃ W6, W5.alloc (.cells #[.slice none 0 0] 28) = W6 := ⟨_, rfl⟩
    have Hs6 := hide (show W6.heap.size = W5.heap.size + 1 by rw [← hW6]; simp)
    have hb56 : Below W5.heap.size W5 W6 := hW6 ▸ balloc (Below.refl _ _) _
    have HI6 := hide (show IR w sl w2.heap.size (w2.heap.size + 1) W5.heap.size D1 (putS sl.zipIdx.reverse) [] (W6.alloc (.cells #[.slice p m cap2] 23)) from
      ⟨(HI5.out.map.next hb56).next (balloc (Below.refl _ _) _), (HI5.out.box.next hb56).next (balloc (Below.refl _ _) _), ⟨.slice none 0 0, by rw [← hW6]; exact (Blk.new _ _ _).next (balloc (Below.refl _ _) _), World.ownsRow_nil _ _ _ _, by simp⟩,
        bseq HI5.out.below (bseq hb56 (balloc (Below.refl _ _) _)), HI5.out.lo, HI5.out.map.lt, ((bseq hb56 (balloc (Below.refl _ _) _)).block _ hD1s.2).trans Hk1.out, hD1s.2⟩)
    have Hbad0 := hide (show ∀ k, badR W5.heap.size (W6.alloc (.cells #[.slice p m cap2] 23)) k → k = W5.heap.size from fun k hk => by
      rcases hk with hk | ⟨v, hv, hk⟩
      · exact hk
      · have : (W6.alloc (.cells #[.slice p m cap2] 23)).cell? ⟨W5.heap.size, 0, none⟩ = some (.slice none 0 0) := by
          rw [← hW6]; exact ((Blk.new _ _ _).next (balloc (Below.refl _ _) _)).cell (k := 0) rfl
        rw [this] at hv
        injection hv with hv; subst hv; cases hk)
    go_wp2_with (go_at_call 21; refine Stop.out ?_)
    refine Stop.go (observations_c p m cap2 W6 _ ?_)
    clear hW6 hb56
    go_wp2
    refine (wpIn_wide (n := 5)).1 ?_
    refine rangeFunc_B (α := Obm) rfl (by omega) (gf := 49) (lb := #[.pointer (some ⟨W6.heap.size, 0, none⟩)]) rfl trivial (enters_of Tryz.func49 (by kernel_rfl) rfl)
      (obs_seq 4 (by omega) ts p cap2 m W6.heap.size w _ Hm.out hm8 HT.out (fun t ht => Hto.out.2 _ (List.mem_map_of_mem ht)) HI6.out.below (by simp)) (badR W5.heap.size) ?hK (fun _ => rfl)
      (IR w sl w2.heap.size (w2.heap.size + 1) W5.heap.size D1 (putS sl.zipIdx.reverse)) ?hI ?hIb HI6.out (fun W0 (x : Obm) a' W => W0.heap.size ≤ W.heap.size ∧ StrRow W x.cp x.contents ∧ ∃ b9, W0.heap.size ≤ b9 ∧ w.heap.size ≤ b9 ∧ a' = { tmps := #[.slice sp n cap, .slice p m cap2, undef, undef, .slice none 0 0, .pointer (some ⟨w2.heap.size + 1, 0, none⟩), undef, undef, .pointer (some ⟨W5.heap.size, 0, none⟩), .pointer (some ⟨b9, 0, none⟩), undef, undef, undef, undef, undef, .slice sp n cap, .bool true, .bool false, .bool false, .slice p m cap2, .bool true, .bool false, .bool false, .map (some w2.heap.size), .slice sp n cap, .func (.func 48) #[] #[.pointer (some ⟨w3.heap.size, 0, none⟩)], undef, undef, undef, undef, undef, undef, .slice p m cap2, .func (.func 49) #[] #[.pointer (some ⟨W6.heap.size, 0, none⟩)], .agg #[.int .i64 0, .int .i64 0, .int .i64 x.kind, .int .i64 x.time, .string x.label, .slice x.cp x.contents.length x.cc, .int .i64 x.office], undef, undef, undef, undef, undef, undef, undef, undef, undef, undef, undef, undef, undef, undef, undef, undef, undef, undef, undef, undef, undef, undef, undef, undef, undef, undef, undef, undef, undef, undef, undef, undef, undef, undef, undef, undef, undef, undef, undef, undef, undef, undef, undef, undef, undef, undef, undef, undef, undef, undef, undef, undef, undef, undef], defers := [] } ∧ Blk W b9 #[.int .i64 0, .int .i64 0, .int .i64 x.kind, .int .i64 x.time, .string x.label, .slice x.cp x.contents.length x.cc, .int .i64 x.office] 86) ?hA ?hassign ?hbody ?hdone
    case hK =>
      rintro k (hk | rfl)
      · exact ⟨Nat.lt_of_lt_of_le hk HI6.out.below.size, fun e => by have := Hbad0.out k e; have := HI5.out.below.size; omega⟩
      · exact ⟨by simp, fun e => by have := Hbad0.out _ e; have := Hs6.out; omega⟩
    case hI => exact IR.own (by have := Hs6.out; simp; omega) HI6.out.below.size
    case hIb => exact IR.bad (by have := Hs6.out; simp; omega)
    case hA =>
      rintro W0 a' x W W' row ⟨h0, h1, b9, h2, h2w, h3, h4⟩ hg hr
      exact ⟨Nat.le_trans h0 hg.size, h1.same (fun k cs hk => same_cells hg hr hk), b9, h2, h2w, h3, h4.same (same_cells hg hr h4)⟩
    case hassign =>
      intro l pre x W K' hI hpx hK
      unfold encO
      have hba := balloc (Below.refl W.heap.size W) (.cells #[.int .i64 0, .int .i64 0, .int .i64 x.kind, .int .i64 x.time, .string x.label, .slice x.cp x.contents.length x.cc, .int .i64 x.office] 86)
      gi_wp2
      refine hK _ _ ((KeepsOthers.alloc _ _).from _) (hI.kpb hba) (hI.next hba) ⟨by simp, hpx.1.next hba, _, Nat.le_refl _, hI.below.size, rfl, Blk.new _ _ _⟩
    case hbody =>
      rintro l pre x a' W0 W hI hlen ⟨h0, hst, b9, h9, h9w, rfl, hb9⟩ hk0
      have HH := hide hI; have Hst := hide hst; have Hb9 := hide hb9; have Hk0 := hide hk0
      have d5 : W.cell? ⟨w2.heap.size + 1, 0, none⟩ = some (.map (some w2.heap.size)) := hI.box.cell (k := 0) rfl
      have d6 : W.cell? ⟨b9, 6, none⟩ = some (.int .i64 x.office) := hb9.cell (k := 6) rfl
      have d3 : W.cell? ⟨b9, 3, none⟩ = some (.int .i64 x.time) := hb9.cell (k := 3) rfl
      have hlk := hI.map.lookup mlaw60 x.office true
      rw [if_pos rfl, find2_scan] at hlk
      have hgen := fun (hx : noteR sl x = none) => IR.skip (B := (W6.alloc (.cells #[.slice p m cap2] 23)).heap.size) HH.out Hk0.out hx
      have HG := hide hgen
      clear hI hst hb9 hk0 hgen
      cases hsc : scanP sl x.office with
      | none =>
        rw [hsc] at hlk
        simp only [Option.map_none, Option.getD_none, Option.isSome_none] at hlk
        have HN := hide (HG.out (by unfold noteR; rw [hsc]))
        clear hsc
        gi_wp2
        exact HN.out
      | some i =>
        rw [hsc] at hlk
        simp only [Option.map_some, Option.getD_some, Option.isSome_some] at hlk
        by_cases htm : 1000000 < x.time
        · have HN := hide (HG.out (by unfold noteR; rw [hsc]; simp only; rw [if_pos htm]))
          clear hsc
          gi_wp2
          exact HN.out
        · have hnr : noteR sl x = some ⟨(i : Int), 0, x.kind, x.time, x.label, x.cp, x.contents, x.cc⟩ := by unfold noteR; rw [hsc]; simp only; rw [if_neg htm]
          obtain ⟨v, hb8, hrow, hsts⟩ := HH.out.row
          have hgm9 : b9 ≠ w2.heap.size := fun e => by
            obtain ⟨es, cl, hh, _⟩ := HH.out.map
            have h8 := Hb9.out
            unfold Blk at h8
            rw [e, hh] at h8
            cases h8
          have hb9' := Hb9.out.set 0 (.int .i64 (i : Int))
          obtain ⟨W8, hW8⟩ : ∃ W8, W.setCell ⟨b9, 0, none⟩ (.int .i64 (i : Int)) = W8 := ⟨_, rfl⟩
          rw [hW8] at hb9'
          have hset : ∀ k, k ≠ b9 → W8.heap[k]? = W.heap[k]? := fun k hk => by rw [← hW8]; exact Below.heap_setCell _ _ _ _ hk
          have hb8' : Blk W8 W5.heap.size #[v] 28 := hb8.same (hset _ (hb8.ne Hb9.out (by decide)))
          have hrow' : W8.ownsRow w.heap.size 32 6 v (pre.filterMap (noteR sl)).length ((pre.filterMap (noteR sl)).flatMap Rec.cells) := own_same hrow (fun k hk => hset k (fun e => Hb9.out.off_row hrow (by decide) (e ▸ hk)))
          have hlen9 : (pre.filterMap (noteR sl)).length ≤ 480 := Nat.le_trans (List.length_filterMap_le _ _) (Nat.le_of_lt hlen)
          have s0 : W8.cell? ⟨b9, 0, none⟩ = some (.int .i64 (i : Int)) := hb9'.cell (k := 0) rfl
          have s1 : W8.cell? ⟨b9, 1, none⟩ = some (.int .i64 0) := hb9'.cell (k := 1) rfl
          have s2 : W8.cell? ⟨b9, 2, none⟩ = some (.int .i64 x.kind) := hb9'.cell (k := 2) rfl
          have s3 : W8.cell? ⟨b9, 3, none⟩ = some (.int .i64 x.time) := hb9'.cell (k := 3) rfl
          have s4 : W8.cell? ⟨b9, 4, none⟩ = some (.string x.label) := hb9'.cell (k := 4) rfl
          have s5 : W8.cell? ⟨b9, 5, none⟩ = some (.slice x.cp x.contents.length x.cc) := hb9'.cell (k := 5) rfl
          have t8 : W8.cell? ⟨W5.heap.size, 0, none⟩ = some v := hb8'.cell (k := 0) rfl
          have d0 : W.cell? ⟨b9, 0, none⟩ = some (.int .i64 0) := Hb9.out.cell (k := 0) rfl
          have f0 := Hb9.out.free 0
          clear hsc
          obtain ⟨i31, hi0, hz0, hz1, hz2⟩ := info_parts Tryz.info32
          have HT31 := hide (And.intro hi0 (And.intro hz0 (And.intro hz1 hz2)))
          have Hrow := hide hrow; have Hrow' := hide hrow'; have Hsts := hide hsts; have HB8 := hide hb8; have HB8' := hide hb8'; have HW8 := hide hW8
          have Hnr := hide hnr
          have hsz8 : w.heap.size ≤ W8.heap.size := by rw [← hW8]; have := HH.out.below.size; simpa [World.setCell] using this
          clear hi0 hz0 hz1 hz2 hrow hrow' hsts hb8 hb8' hset hb9' hnr hgm9
          gi_wp2_with (gi_at_builtin; refine Stop.out ?_)
          refine Stop.go ?_
          obtain ⟨hi0, hz0, hz1, hz2⟩ := HT31.out
          refine wpListIn_append_where _ rfl (.tmp 53) (.tmp 56) 28 rfl w.heap.size 32 i31 _ 6 72 Tryz.underlying28 hi0 hz0 hz1 hz2 rfl (by omega) v _ _ rfl (own_below Hrow'.out (balloc (Below.refl _ _) _)) ⟨W8.heap.size, 0, none⟩ 1 1 (Rec.cells ⟨(i : Int), 0, x.kind, x.time, x.label, x.cp, x.contents, x.cc⟩) rfl rfl (fun j u hu => by rw [Addr.add_lit, Nat.zero_add]; exact (Blk.new W8 _ 32).cell (by simpa [Rec.cells] using hu)) (rec_one _) (by unfold maxLen; omega) (by omega) (by simp; omega) ?_
          clear hi0 hz0 hz1 hz2
          intro v9 w9 hown hgr hw
          rw [← HW8.out] at hgr hw
          have hend := IR.add (B := (W6.alloc (.cells #[.slice p m cap2] 23)).heap.size) HH.out Hk0.out h9 h9w Hb9.out Hnr.out Hst.out HB8.out Hrow.out Hsts.out hgr hown hw HI5.out.below.size
          have He := hide hend
          have hb8w : Blk w9 W5.heap.size #[v] 28 := (hgr.block W5.heap.size (by have := HB8.out.lt; simp [World.setCell]; omega) (fun e => HB8.out.off_row Hrow.out (by decide) e.symm)).trans (by rw [HW8.out]; exact HB8'.out.next (balloc (Below.refl _ _) _))
          have d9 : w9.cell? ⟨W5.heap.size, 0, none⟩ = some v := hb8w.cell (k := 0) rfl
          have f9 := hb8w.free 0
          obtain ⟨g9, cap9, rfl⟩ := ownsRow_succ hown
          clear hend hown hgr hw hb8w s0 s1 s2 s3 s4 s5 t8 d0 f0 hW8 d3 d5 d6
          gi_wp2
          exact He.out
    case hdone =>
      rintro D2 xs W7 hD2 hxs hI hk2
      obtain ⟨v, hb8, hrow, hstr⟩ := hI.row
      have hrp : (xs.filterMap (noteR sl)).map Rec.rp = (obsP (ts.map Trk.tk)).filterMap (noteP sl) := by rw [notes_rp, hxs]
      have hscn : ∀ r ∈ xs.filterMap (noteR sl), ∃ s : Nat, s < n ∧ r.scanner = (s : Int) := fun r hr => by
        obtain ⟨x, _, hx⟩ := List.mem_filterMap.1 hr
        unfold noteR at hx
        cases hs : scanP sl x.office with
        | none => rw [hs] at hx; cases hx
        | some j =>
          rw [hs] at hx
          simp only at hx
          split at hx
          · cases hx
          · injection hx with hx; subst hx
            exact ⟨j, by rw [← Hn.out]; exact scanP_lt hs, rfl⟩
      have hlen : (xs.filterMap (noteR sl)).length ≤ 480 := by
        refine Nat.le_trans (List.length_filterMap_le _ _) ?_
        have h1 := congrArg List.length hxs
        rw [List.length_map, ← obsUp_all] at h1
        have h2 := obsUp_len (ts := ts.map Trk.tk) (fun u hu => (Hto.out.2 u hu).few.1) (ts.map Trk.tk).length
        rw [List.length_map, Hm.out] at h2 h1
        omega
      have HI7 := hide hI
      have hk1 : W7.heap[D1]? = some (.deferred (some [])) := HI7.out.d1
      generalize xs.filterMap (noteR sl) = l0 at *
      have HX := hide (And.intro hb8 (And.intro hrow (And.intro hstr (And.intro hrp (And.intro hscn (And.intro hk1 hk2))))))
      have t8 : W7.cell? ⟨W5.heap.size, 0, none⟩ = some v := hb8.cell (k := 0) rfl
      clear hb8 hrow hstr hrp hscn hxs hI hk1 hk2
      go_wp2_with (go_at_call 22; refine Stop.out ?_)
      refine Stop.go (orderAny_c w.heap.size v l0 W7 _ (by omega) HX.out.2.1 ?_)
      intro W8 hrow8 hg8
      obtain ⟨rl, hrl⟩ : ∃ rl, sortK Rec.time l0 = rl := ⟨_, rfl⟩
      have hpm : rl.Perm l0 := hrl ▸ sortK_perm _ _
      have hll : l0.length = rl.length := hpm.length_eq.symm
      rw [hrl, hll] at hrow8
      obtain ⟨hb8, hrow, hstr, hrp, hscn, hk1, hk2⟩ := HX.out
      have hb88 : Blk W8 W5.heap.size #[v] 28 := (hg8.block _ hb8.lt (fun e => hb8.off_row hrow (by decide) e.symm)).trans hb8
      have hdn : ∀ D : Nat, W7.heap[D]? = some (.deferred (some [])) → W8.heap[D]? = some (.deferred (some [])) := fun D hD => (hg8.block D (lt_of_block hD) (fun e => by
        rcases hrow.2 with ⟨hv, _⟩ | ⟨g', cap', cur, hv, _, hh, _⟩
        · subst hv; cases e
        · subst hv; cases e; rw [hD] at hh; cases hh)).trans hD
      have hstr8 : ∀ r ∈ rl, StrRow W8 r.cp r.contents := fun r hr => (hstr r (hpm.mem_iff.1 hr)).same fun k cs hk => hg8.block k hk.lt (fun e => hk.off_row hrow (by decide) e.symm)
      obtain ⟨W9, hmk, hcnt, hb9⟩ := mk32 W8 n (by omega)
      have hB8 : Below w.heap.size w W8 := HI7.out.below.grown hg8 HI7.out.below.size (fun k hk => (own_lt hrow hk).1)
      have HL := hide (show IL w W5.heap.size n v W8.heap.size rl D1 D2 0 W9 from ⟨by rw [midR_zero]; exact own_below hrow8 hb9, by rw [List.take_zero, cntsR_nil]; exact own_mono hcnt hB8.size, hb88.next hb9, fun r hr => (hstr8 r hr).next hb9, (hb9.block _ (lt_of_block (hdn _ hk1))).trans (hdn _ hk1), (hb9.block _ (lt_of_block (hdn _ hk2))).trans (hdn _ hk2), bseq hB8 hb9⟩)
      have HF := hide (show (numR [] rl).map Rec.rp = recordsP sl (ts.map Trk.tk) by
        rw [numR_rp]
        unfold recordsP
        rw [← hrp, ← hrl]
        show numberP [] _ = _
        congr 1
        exact sortK_map RP.time Rec.rp l0)
      have Hscn := hide (show ∀ r ∈ rl, ∃ s : Nat, s < n ∧ r.scanner = (s : Int) from fun r hr => hscn r (hpm.mem_iff.1 hr))
      have hrl480 : rl.length ≤ 480 := by omega
      have t9 : W9.cell? ⟨W5.heap.size, 0, none⟩ = some v := HL.out.box.cell (k := 0) rfl
      clear hrow8 hg8 hrl hpm hll hb8 hrow hstr hrp hscn hk1 hk2 hb88 hdn hstr8 hcnt hb9 hB8 HX HI7 t8
      obtain ⟨q, c, rfl⟩ : ∃ q c, v = .slice q rl.length c := by
        rcases HL.out.row.2 with ⟨hv, h0⟩ | ⟨g', cap', cur, hv, _⟩
        · exact ⟨none, 0, by rw [hv, h0]⟩
        · exact ⟨_, _, hv⟩
      obtain ⟨N, hN⟩ : ∃ N, rl.length = N := ⟨_, rfl⟩
      have HN := hide hN
      rw [hN] at t9 hrl480 HL
      rw [hN]
      clear hN
      go_wp2
      go_loopw [65] (fun si wr => ∃ i : Nat, i ≤ N ∧ si = .int .i64 i ∧ Hid (IL w W5.heap.size n (.slice q N c) W8.heap.size rl D1 D2 i wr)) (fun si _ => N - (intOf si).toNat)
      case atStart => exact ⟨0, Nat.zero_le _, rfl, HL⟩
      case round =>
        clear HL t9 hmk
        obtain ⟨i, hi, rfl, HL⟩ := hrel
        have t9 : wr.cell? ⟨W5.heap.size, 0, none⟩ = some (.slice q N c) := HL.out.box.cell (k := 0) rfl
        by_cases hlt : i < N
        · obtain ⟨r, hr⟩ : ∃ r, rl[i]? = some r := ⟨_, List.getElem?_eq_getElem (by rw [HN.out]; exact hlt)⟩
          obtain ⟨s, hs, hsc⟩ := Hscn.out r (List.mem_of_getElem? hr)
          have hmid := midR_at hr
          have hml := midR_len (l := rl) (i := i) (by rw [HN.out]; exact hi)
          rw [HN.out] at hml
          obtain ⟨g, cap3, hq⟩ : ∃ g cap3, Value.slice q N c = .slice (some ⟨g, 0, none⟩) N cap3 := by
            have := HL.out.row
            rw [HN.out] at this
            obtain ⟨N', rfl⟩ : ∃ N', N = N' + 1 := ⟨N - 1, by omega⟩
            exact ownsRow_succ this
          injection hq with hq1 hq2 hq3
          subst hq1; subst hq3
          have hrow := HL.out.row
          rw [HN.out] at hrow
          have hcell : ∀ (k : Nat) (u : Value), (Rec.cells r)[k]? = some u → k < 6 → wr.cell? ⟨g, i * 6 + k, none⟩ = some u := fun k u hu hk => by
            have := hrow.cells (g := g) rfl (i * 6 + k) u (by rw [flat_at (k := 6) (fun _ => rfl) (midR rl i) i k r hmid hk]; exact hu)
            rw [Addr.add_lit] at this
            simpa using this
          have x0 := hcell 0 _ rfl (by omega)
          have x1 := hcell 1 _ rfl (by omega)
          rw [hsc] at x0
          rw [Nat.add_zero] at x0
          have hcn : wr.cell? ⟨W8.heap.size, s, none⟩ = some (.int .i64 (cntR (rl.take i) (s : Int) : Int)) := by
            have := owni_cell HL.out.cnt (i := s) hs
            rw [this]
            congr 2
            unfold cntsR
            rw [List.getD_eq_getElem?_getD, at_range n _ s hs]
            rfl
          have hle : cntR (rl.take i) (s : Int) ≤ 480 := Nat.le_trans (cntR_le _ _) (by rw [List.length_take]; omega)
          have fcn : wr.frozen? ⟨W8.heap.size, s, none⟩ = false := own_free HL.out.cnt s
          have fx1 : wr.frozen? ⟨g, i * 6 + 1, none⟩ = false := own_free hrow _
          obtain ⟨cn, hcn'⟩ : ∃ cn, cntR (rl.take i) (s : Int) = cn := ⟨_, rfl⟩
          rw [hcn'] at hcn hle
          have hne : g ≠ W8.heap.size := by
            obtain ⟨_, a1⟩ := own_blk hrow
            obtain ⟨_, a2⟩ := own_blk HL.out.cnt
            exact a1.ne a2 (by decide)
          have HL2 := hide (HL.out.step HN.out hr hs hsc hcn' HI5.out.below.size)
          have hsn : (s : Int) < (n : Int) := by omega
          have hiN : (i : Int) < (N : Int) := by omega
          clear hcell
          go_wp2
          go_still_tail 8, (by kernel_rfl)
          go_wp2
          go_roundw
          case rel => exact ⟨i + 1, by omega, by go_num, HL2⟩
          case measure => simp [intOf]; omega
        · obtain rfl : i = N := by omega
          have hne : D1 ≠ D2 := by have := hD1s.2; have := Hs6.out; have := hD2; simp at this; omega
          have hmid := midR_all rl
          rw [HN.out] at hmid
          have hrow := HL.out.row
          rw [HN.out, hmid] at hrow
          have HE := hide (show RecsAt wr q (numR [] rl) from by
            refine ⟨fun h0 => ?_, fun r hr => ?_⟩
            · rcases hrow.2 with ⟨hv, h0'⟩ | ⟨g', cap', cur, hv, _⟩
              · rw [numR_len, HN.out] at h0; omega
              · injection hv with hq1 _ hq3
                subst hq1; subst hq3
                exact EncAt.of_own (fun _ => rfl) (by omega) hrow h0
            · obtain ⟨j, hj⟩ := List.getElem?_of_mem hr
              have hjl : j < rl.length := by have := (List.getElem?_eq_some_iff.1 hj).1; rwa [numR_len] at this
              have h1 := numR_at rl [] j rl[j] (List.getElem?_eq_getElem hjl)
              rw [hj] at h1
              injection h1 with h1
              rw [h1]
              exact (HL.out.str rl[j] (List.getElem_mem hjl)).1)
          clear hmid hrow
          go_wp2
          have hk2 := HL.out.d2
          have hk1 : (wr.putObj D2 (.deferred none)).heap[D1]? = some (.deferred (some [])) := (World.putObj_heap_other hne).trans HL.out.d1
          refine ⟨by simp, .inl ⟨_, _, rfl, run_takeDeferred hk2, ?_⟩⟩
          refine ⟨by simp, .inl ⟨_, _, rfl, run_takeDeferred hk1, ?_⟩⟩
          have HR1 := HR.out ((wr.putObj D2 (.deferred none)).putObj D1 (.deferred none)) q c (numR [] rl)
          rw [numR_len, HN.out] at HR1
          refine ⟨_, results_tmp rfl _ _ _, ?_⟩
          refine HR1 ?_ ?_ HF.out
          · exact (HL.out.below.grown (grownBy_putObj' wr D2 _) HL.out.below.size (fun k e => by cases e; have := HI5.out.below.size; have := Hs6.out; have := hD2; simp at this; omega)).grown (grownBy_putObj' _ D1 _) (Nat.le_trans HL.out.below.size (grownBy_putObj' wr D2 _).size) (fun k e => by cases e; exact hD1s.1)
          · exact (HE.out.keep (keeps_put hk2 rfl)).keep (keeps_put hk1 rfl)
end Go.Proofs.YtkabghifdedmfaaGreatDoor
