/- Ways along a plan, and carrying over: the plain law of TopCarried. Promise: the way of an item: the state of the walk. -/
import Derived.Test.YtgfhcmidnbahjaaGreatDoorQT3
import Derived.Test.YtgfhcmidnbahjaaGreatDoorQT17
set_option linter.unusedVariables false
set_option linter.unusedSimpArgs false
namespace Go.Proofs.YtgfhcmidnbahjaaGreatDoor
open Go.RowKit
theorem daysF_mem {c : Cal} {a d : Int} {n : Nat} (h : d ∈ daysF c a n) : a ≤ d ∧ d < a + n ∧ workB c d = true := by
  unfold daysF at h
  rw [List.mem_filter] at h
  obtain ⟨h1, h2⟩ := h
  obtain ⟨i, hi, rfl⟩ := List.mem_map.1 h1
  rw [List.mem_range] at hi
  exact ⟨by omega, by omega, h2⟩
theorem nextF_some {c : Cal} {d x : Int} (h : nextF c d = some x) : d ≤ x ∧ x < d + 60 ∧ workB c x = true := by
  unfold nextF at h
  exact daysF_mem (List.mem_of_head? h)
theorem firstF_some {c : Cal} {m t x : Int} (hm : 0 ≤ m ∧ m ≤ 1439) (h : firstF c m t = some x) : t ≤ x ∧ x ≤ t + 87839 := by
  unfold firstF at h
  obtain ⟨d, hd, rfl⟩ := Option.map_eq_some_iff.1 h
  obtain ⟨h1, h2, _⟩ := nextF_some hd
  unfold timeOf
  unfold dayOf minOf at *
  split at h1 <;> split at h2 <;> omega
theorem departF_ok {N : Net} {i t d : Int} (hs : Snd N) (h0 : 0 ≤ i) (h1 : i < N.lins.length) (h : departF N i t = .ok d) : 0 ≤ t ∧ t ≤ 2000000 ∧ t ≤ d ∧ d ≤ t + 87839 := by
  unfold departF at h
  split at h
  · rename_i ht
    split at h
    · rename_i x hx
      injection h with h; subst h
      have := firstF_some (hs.linP h0 h1).at_ hx
      exact ⟨ht.1, ht.2, this.1, this.2⟩
    · cases h
  · cases h
theorem ready_bd {N : Net} (hs : Snd N) {o : Int} (h0 : 0 ≤ o) (h1 : o < N.offs.length) (t : Int) : t + 1 ≤ readyF N o t ∧ readyF N o t ≤ t + 960 := by
  have ho := hs.offP h0 h1
  unfold readyF
  have a1 : 1 * 1 ≤ (offOf N o).passes * (offOf N o).minutes := Int.mul_le_mul ho.passes.1 ho.minutes.1 (by decide) (by have := ho.passes.1; omega)
  have a2 : (offOf N o).passes * (offOf N o).minutes ≤ 4 * 240 := Int.mul_le_mul ho.passes.2 ho.minutes.2 (by have := ho.minutes.1; omega) (by decide)
  omega
inductive WayP (N : Net) (next : Mat) (tt : Nat) : Nat → Int → List Stp → Prop
  | last (t : Int) : WayP N next tt tt t [⟨tt, t, -1, -1⟩]
  | more {o : Nat} {t d : Int} {l : List Stp} : o ≠ tt → next o tt ≠ -1 → departF N (next o tt) (readyF N o t) = .ok d →
      WayP N next tt (linOf N (next o tt)).dst.toNat (d + (linOf N (next o tt)).travel) l → WayP N next tt o t (⟨o, t, d, next o tt⟩ :: l)
theorem walkF_way {N : Net} {next : Mat} {tt : Nat} : ∀ (k o : Nat) (t : Int) (l : List Stp), walkF N next tt k o t = .ok l → WayP N next tt o t l := by
  intro k
  induction k with
  | zero =>
    intro o t l h
    rw [walkF] at h
    split at h
    · rename_i e; subst e; injection h with h; subst h; exact .last _
    · split at h
      · cases h
      · split at h
        · cases h
        · cases h
  | succ k ih =>
    intro o t l h
    rw [walkF] at h
    split at h
    · rename_i e; subst e; injection h with h; subst h; exact .last _
    · rename_i hne
      split at h
      · cases h
      · rename_i hnx
        split at h
        · cases h
        · rename_i d hd
          split at h
          · cases h
          · rename_i l' hl
            injection h with h; subst h
            exact .more hne hnx hd (ih _ _ _ hl)
structure PlanP (N : Net) (next φ : Mat) : Prop where
  formed : Formed N next
  falls : Falls N next φ
theorem PlanP.dst {N : Net} {next φ : Mat} (hs : Snd N) (h : PlanP N next φ) {o d : Nat} (ho : o < N.offs.length) (hd : d < N.offs.length) (hn : next o d ≠ -1) :
    0 ≤ next o d ∧ next o d < N.lins.length ∧ (linOf N (next o d)).src = o ∧ 0 ≤ (linOf N (next o d)).dst ∧ (linOf N (next o d)).dst < N.offs.length := by
  rcases h.formed o d ho hd with h1 | ⟨h1, h2, h3⟩
  · exact absurd h1 hn
  · have := hs.linP h1 h2
    exact ⟨h1, h2, h3, this.dst.1, this.dst.2⟩
theorem WayP.ne {N : Net} {next : Mat} {tt o : Nat} {t : Int} {l : List Stp} (h : WayP N next tt o t l) : l ≠ [] := by cases h <;> simp
structure LegP (N : Net) (a b : Stp) : Prop where
  line : 0 ≤ a.line ∧ a.line < N.lins.length
  src : (linOf N a.line).src = a.office
  dst : (linOf N a.line).dst = b.office
  arr : b.arrive = a.depart + (linOf N a.line).travel
  wait : a.arrive ≤ a.depart
def wayF (N : Net) (next : Mat) (o tt : Nat) (t : Int) : Except Int (List Stp) := if 0 ≤ t ∧ t ≤ 2000000 then walkF N next tt 19 o t else .error 1
def placeP (time : Int) (s : Stp) : Bool := decide (s.line = -1) || decide (time ≤ s.depart)
def placeF (l : List Stp) (time : Int) : Nat := l.findIdx (placeP time)
def fixArr (l : List Stp) (x : Int) : List Stp := match l with | [] => [] | s :: l => { s with arrive := x } :: l
def carryF (N : Net) (p : Mat) (M : Net) (q : Mat) (time : Int) (o tt : Nat) (acc : Int) : Except Int (List Stp) :=
  match wayF N p o tt acc with
  | .error e => .error e
  | .ok before =>
    match before[placeF before time]? with
    | none => .error 1
    | some here =>
      match wayF M q here.office.toNat tt (max here.arrive time) with
      | .error e => .error e
      | .ok after => .ok (before.take (placeF before time) ++ fixArr after here.arrive)
structure CarriedP (N M : Net) (time : Int) (o tt : Nat) (acc : Int) (l : List Stp) : Prop where
  first : ∃ s : Stp, l[0]? = some s ∧ s.office = o ∧ s.arrive = acc
  last : ∃ s : Stp, l[l.length - 1]? = some s ∧ s.office = tt ∧ s.depart = -1 ∧ s.line = -1
  leg : ∀ (i : Nat) (a b : Stp), l[i]? = some a → l[i + 1]? = some b → LegP (if a.depart < time then N else M) a b
end Go.Proofs.YtgfhcmidnbahjaaGreatDoor
namespace Go.Proofs.YtgfhcmidnbahjaaGreatDoor
open Go.RowKit Go.Shelf
def Stp.cells (s : Stp) : List Value := [.int .i64 s.office, .int .i64 s.arrive, .int .i64 s.depart, .int .i64 s.line]
theorem stp_len (s : Stp) : s.cells.length = 4 := rfl
def wayTo (done : List Stp) (r : Except Int (List Stp)) : Except Int (List Stp) := match r with | .ok l => .ok (done ++ l) | .error e => .error e
theorem wayTo_nil (r : Except Int (List Stp)) : wayTo [] r = r := by cases r <;> rfl
theorem wayTo_cons (done : List Stp) (s : Stp) (r : Except Int (List Stp)) : wayTo done (match r with | .error e => .error e | .ok l => .ok (s :: l)) = wayTo (done ++ [s]) r := by
  cases r with
  | error e => rfl
  | ok l => simp [wayTo]
structure WyI (w : World) (g cap : Nat) (done : List Stp) (s : Stp) (W : World) : Prop where
  below : Below w.heap.size w W
  row : W.ownsRow w.heap.size 53 4 (.slice (some ⟨g, 0, none⟩) (done.length + 1) cap) (done.length + 1) ((done ++ [s]).flatMap Stp.cells)
section
variable {w : World} {g cap : Nat} {done : List Stp} {s : Stp} {W W' : World}
theorem WyI.at_ (h : WyI w g cap done s W) :
    W.cell? ⟨g, done.length * 4, none⟩ = some (.int .i64 s.office) ∧ W.cell? ⟨g, done.length * 4 + 1, none⟩ = some (.int .i64 s.arrive) ∧ W.cell? ⟨g, done.length * 4 + 2, none⟩ = some (.int .i64 s.depart) ∧ W.cell? ⟨g, done.length * 4 + 3, none⟩ = some (.int .i64 s.line) := by
  have hs : (done ++ [s])[done.length]? = some s := by simp
  have hc : ∀ c, c < 4 → W.cell? ⟨g, done.length * 4 + c, none⟩ = s.cells[c]? := fun c hc => by
    rw [h.row.cellAt _ (by omega)]
    exact flatMap_at stp_len _ _ _ _ hs hc
  exact ⟨hc 0 (by decide), hc 1 (by decide), hc 2 (by decide), hc 3 (by decide)⟩
theorem WyI.free (h : WyI w g cap done s W) (i : Nat) : W.frozen? ⟨g, i, none⟩ = false := h.row.frozenAt i
theorem WyI.next (h : WyI w g cap done s W) (hb : Below W.heap.size W W') : WyI w g cap done s W' := ⟨bseq h.below hb, own_below h.row hb⟩
theorem WyI.base (h : WyI w g cap done s W) : w.heap.size ≤ g ∧ g < W.heap.size := h.row.lt g rfl
theorem flat_set (done : List Stp) (s s' : Stp) (c : Nat) (v : Value) (hc : c < 4) (hv : s.cells.set c v = s'.cells) : ((done ++ [s]).flatMap Stp.cells).set (done.length * 4 + c) v = (done ++ [s']).flatMap Stp.cells := by
  rw [List.flatMap_append, List.flatMap_append, List.set_append, if_neg (by rw [flatMap_len stp_len]; omega), flatMap_len stp_len]
  congr 1
  rw [show done.length * 4 + c - done.length * 4 = c by omega]
  simpa using hv
theorem WyI.put (h : WyI w g cap done s W) {s' : Stp} {c : Nat} {v : Value} (hc : c < 4) (hv : s.cells.set c v = s'.cells) : WyI w g cap done s' (W.setCell ⟨g, done.length * 4 + c, none⟩ v) := by
  have h2 := h.row.stored (done.length * 4 + c) v
  rw [flat_set done s s' c v hc hv] at h2
  exact ⟨bgrown h.below h2.2 h.base.1, h2.1⟩
theorem WyI.set2 {o t i : Int} (h : WyI w g cap done ⟨o, t, -1, i⟩ W) (hb : Below W.heap.size W W') (d : Int) : WyI w g cap done ⟨o, t, d, i⟩ (W'.setCell ⟨g, done.length * 4 + 2, none⟩ (.int .i64 d)) :=
  (h.next hb).put (c := 2) (by decide) rfl
theorem WyI.app {done : List Stp} {s' : Stp} {v : Value} {n : Nat} (h : WyI w g cap done s W) (hg : W.grownBy W' (some g)) (ho : W'.ownsRow w.heap.size 53 4 v n ((done ++ [s]).flatMap Stp.cells ++ s'.cells)) (hn : n = done.length + 2) : ∃ g' cap', v = .slice (some ⟨g', 0, none⟩) (done.length + 2) cap' ∧ WyI w g' cap' (done ++ [s]) s' W' := by
  subst hn
  obtain ⟨g', cap', rfl⟩ : ∃ g' cap', v = .slice (some ⟨g', 0, none⟩) (done.length + 2) cap' := by
    rcases ho.2 with ⟨_, h0⟩ | ⟨g', cap', cur, hv, _⟩
    · omega
    · exact ⟨g', cap', hv⟩
  refine ⟨g', cap', rfl, bgrown h.below hg h.base.1, ?_⟩
  have e : ((done ++ [s]) ++ [s']).flatMap Stp.cells = (done ++ [s]).flatMap Stp.cells ++ s'.cells := by rw [List.flatMap_append]; simp
  rw [e]
  simpa using ho
end
section
variable {N : Net} {next : Mat} {tt k o : Nat} {t : Int}
theorem walkF_at : walkF N next tt k tt t = .ok [⟨tt, t, -1, -1⟩] := by cases k <;> simp [walkF]
theorem walkF_no (h : o ≠ tt) (hn : next o tt = -1) : walkF N next tt k o t = .error 170 := by cases k <;> simp [walkF, h, hn]
theorem walkF_err {e : Int} (h : o ≠ tt) (hn : next o tt ≠ -1) (hd : departF N (next o tt) (readyF N o t) = .error e) : walkF N next tt k o t = .error e := by cases k <;> simp [walkF, h, hn, hd]
theorem walkF_full {d : Int} (h : o ≠ tt) (hn : next o tt ≠ -1) (hd : departF N (next o tt) (readyF N o t) = .ok d) : walkF N next tt 0 o t = .error 170 := by simp [walkF, h, hn, hd]
theorem walkF_step {d : Int} (done : List Stp) (h : o ≠ tt) (hn : next o tt ≠ -1) (hd : departF N (next o tt) (readyF N o t) = .ok d) :
    wayTo done (walkF N next tt (k + 1) o t) = wayTo (done ++ [⟨o, t, d, next o tt⟩]) (walkF N next tt k (linOf N (next o tt)).dst.toNat (d + (linOf N (next o tt)).travel)) := by
  rw [← wayTo_cons]
  simp only [walkF, h, hn, hd, if_false]
  cases walkF N next tt k (linOf N (next o tt)).dst.toNat (d + (linOf N (next o tt)).travel) <;> rfl
end
theorem step_stp {P : Program} {w : World} {ops : Array Oper} {o : Oper} {a : Act} {K : Act → World → Prop} {Q : Exit → Act → World → Prop} {E : Prop} (hgd : o.guard = none) (s x : Operand) (t : TypeId)
    (ho : o.op = .call { callee := .builtin .append, args := #[s, x], argTypes := #[t, t] })
    (base : Nat) (e : TypeId) (i : TypeInfo) (z : Value) (size bytes : Nat) (ht : P.underlying t = some (.slice e)) (hi : P.info? e = some i) (hz : i.zero = some z)
    (hsize : i.size = size) (hby : i.bytes = bytes) (hzs : z.cells.size = size) (hsz : 0 < size)
    (v : Value) (n : Nat) (xs : List Value) (hs : a.eval s = v) (hown : w.ownsRow base e size v n xs)
    (ad : Addr) (m c : Nat) (news : List Value) (hx : a.eval x = .slice (some ad) m c) (hl : news.length = m * size) (hnews : ∀ j u, news[j]? = some u → w.cell? (ad.add j) = some u) (h1 : ∀ u ∈ news, u.oneCell' = true)
    (h63 : n + m ≤ maxLen) (hbytes : (n + m) * bytes ≤ 140737488355328) (hbase : base ≤ w.heap.size)
    (h : ∀ v' w', w'.ownsRow base e size v' (n + m) (xs ++ news) → w.grownBy w' v.ownBlock → K (a.put o.dst v') w') : if Region.wanted o (yielded ops a.tmps) = true then Oper.wp P o a w K Q else E :=
  step_where hgd s x t ho base e i z size bytes ht hi hz hsize hby hzs hsz v n xs hs hown ad m c news hx hl hnews h1 h63 hbytes hbase (fun v' w' h2 h3 _ => h v' w' h2 h3)
end Go.Proofs.YtgfhcmidnbahjaaGreatDoor
