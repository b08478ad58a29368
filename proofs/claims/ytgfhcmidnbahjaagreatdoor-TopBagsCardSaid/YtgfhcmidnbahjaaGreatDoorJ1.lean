/- Base words for reading Go data: what a value reads as in a world, kept when every readable cell keeps its content. Arguments opened by their types: what the form reads as data reads as plain Lean values. -/
import Derived.WalkKit
import Derived.WalkSpells
import Derived.WalkLawsBesides
import Derived.Outline
import Derived.Deep.QuietTactic
import Derived.BigQuiet
import Derived.Lib.MinMax
import Derived.StillTailTactics
import Derived.Lib.SliceRun
import Derived.Deep.LoopGhost
import Derived.Deep.DeepCutAuto
import Derived.ProofKit
import Derived.OpenShut
import Derived.ShutString
import Derived.ChangeOld
import Derived.Deep.Slices
import Derived.Deep.Fields
set_option linter.unusedVariables false
set_option linter.unusedSimpArgs false
namespace Go.Proofs.YtgfhcmidnbahjaaGreatDoor
section
open Go.RowKit
theorem aP : (∀ {α : Type} {xs : List α} {i : Nat} (h : i < xs.toArray.size), xs.toArray[i] = xs[i]'(by simpa using h)) ∧ (∀ {α : Type} (a : α) (l : List α) (h : 0 < (a :: l).length), (a :: l)[0] = a) ∧ (∀ {α : Type} (a : α) (l : List α) (i : Nat) (h : i + 1 < (a :: l).length), (a :: l)[i + 1] = l[i]'(by simpa using h)) ∧ (∀ {α : Type} (l : List α) (i : Nat) (a : α), l.toArray.setIfInBounds i a = (l.set i a).toArray) ∧ (∀ {α : Type} {x : α} {xs : List α} {a : α}, (x :: xs).set 0 a = a :: xs) ∧ ∀ {α : Type} {x : α} {xs : List α} {i : Nat} {a : α}, (x :: xs).set (i + 1) a = x :: xs.set i a :=
 ⟨List.getElem_toArray, List.getElem_cons_zero, List.getElem_cons_succ, List.setIfInBounds_toArray, List.set_cons_zero, List.set_cons_succ⟩
theorem hide {p : Prop} (h : p) : Hid p := h
def Stop (p : Prop) : Prop := p
theorem Stop.out {p : Prop} (h : Stop p) : p := h
theorem Stop.go {p : Prop} (h : p) : Stop p := h
def Keeps (w w' : World) : Prop := ∀ a v, w.cell? a = some v → w'.cell? a = some v
theorem Keeps.refl (w : World) : Keeps w w := fun _ _ h => h
theorem Keeps.trans {a b c : World} (h : Keeps a b) (k : Keeps b c) : Keeps a c := fun p v hp => k p v (h p v hp)
theorem Keeps.of_below {w w' : World} (h : Below w.heap.size w w') : Keeps w w' := fun _ _ hv => cell_later h hv
theorem Keeps.drewN (w : World) (n : Nat) : Keeps w (w.drewN n) := fun _ _ h => h
theorem Keeps.drew (w : World) : Keeps w w.drew := fun _ _ h => h
theorem Keeps.alloc (w : World) (o : Obj) : Keeps w (w.alloc o) := Keeps.of_below ((Below.refl _ _).alloc (Nat.le_refl _) _)
theorem below_drewN' {B : Nat} {a w : World} (h : Below B a w) (n : Nat) : Below B a (w.drewN n) := h.trans ⟨rfl, rfl, rfl, Nat.le_refl _, fun _ _ => rfl⟩
def Dr (w w' : World) : Prop := ∃ d, w' = w.drewN d
theorem Dr.refl (w : World) : Dr w w := ⟨0, rfl⟩
theorem Dr.one (w : World) (n : Nat) : Dr w (w.drewN n) := ⟨n, rfl⟩
theorem Dr.two (w : World) (n m : Nat) : Dr w ((w.drewN n).drewN m) := ⟨n + m, World.drewN_drewN ..⟩
theorem Dr.drewN {w w' : World} (h : Dr w w') (n : Nat) : Dr w (w'.drewN n) := by obtain ⟨d, rfl⟩ := h; exact Dr.two w d n
theorem Dr.trans {a b c : World} (h : Dr a b) (k : Dr b c) : Dr a c := by obtain ⟨d, rfl⟩ := h; obtain ⟨e, rfl⟩ := k; exact Dr.two a d e
theorem Dr.below {B : Nat} {w w' : World} (h : Dr w w') : Below B w w' := by obtain ⟨d, rfl⟩ := h; exact below_drewN' (Below.refl _ _) d
theorem Dr.keeps {w w' : World} (h : Dr w w') : Keeps w w' := by obtain ⟨d, rfl⟩ := h; exact Keeps.drewN w d
theorem quiet_dr {P : Program} {f : FuncId} {args : Array Value} {w : World} {n : Nat} {v : Value}
  (h : Calls P f args (w.drewN n) fun e w' => e = .returned v ∧ Dr (w.drewN n) w') : Calls P f args (w.drewN n) fun e w'' => e = .returned v ∧ ∃ m, w'' = w.drewN m :=
 h.mono fun _ _ ⟨he, d, hd⟩ => ⟨he, n + d, by rw [hd, World.drewN_drewN]⟩
theorem bseq {w w1 w2 : World} (h1 : Below w.heap.size w w1) (h2 : Below w1.heap.size w1 w2) : Below w.heap.size w w2 := h1.trans (h2.mono h1.size)
theorem bgrown {w w1 w2 : World} {g : Nat} (h1 : Below w.heap.size w w1) (h2 : w1.grownBy w2 (some g)) (hg : w.heap.size ≤ g) : Below w.heap.size w w2 := h1.grown h2 h1.size (fun k hk => by injection hk with hk; omega)
theorem balloc {w w1 : World} (h1 : Below w.heap.size w w1) (o : Obj) : Below w.heap.size w (w1.alloc o) := h1.alloc h1.size o
theorem own_mono {w : World} {base base' e size n : Nat} {v : Value} {xs : List Value} (h : w.ownsRow base e size v n xs) (hb : base' ≤ base) : w.ownsRow base' e size v n xs := by
 refine ⟨h.1, ?_⟩
 rcases h.2 with h' | ⟨g, cap, cur, hv, hg, rest⟩
 ·exact .inl h'
 ·exact .inr ⟨g, cap, cur, hv, Nat.le_trans hb hg, rest⟩
theorem block_lt {w : World} {a : Addr} {v : Value} (h : w.cell? a = some v) : a.block < w.heap.size := World.block_lt_of_cell? w a h
structure Rep (α : Type) where
 size : Nat
 rd : World → List Value → α → Prop
 len : ∀ {w cs a}, rd w cs a → cs.length = size
 keep : ∀ {w w' cs a}, Keeps w w' → rd w cs a → rd w' cs a
def Rep.int (k : IntKind) : Rep Int where
 size := 1
 rd := fun _ cs n => cs = [.int k n] ∧ (Lit.int k n).wf = true
 len := by rintro w cs a ⟨rfl, _⟩; rfl
 keep := by rintro w w' cs a _ h; exact h
def Rep.bool : Rep Bool where
 size := 1
 rd := fun _ cs b => cs = [.bool b]
 len := by rintro w cs a rfl; rfl
 keep := by rintro w w' cs a _ h; exact h
def Rep.str : Rep ByteArray where
 size := 1
 rd := fun _ cs s => cs = [.string s] ∧ s.size ≤ maxLen
 len := by rintro w cs a ⟨rfl, _⟩; rfl
 keep := by rintro w w' cs a _ h; exact h
def Rep.els {α : Type} (r : Rep α) (w : World) (p : Option Addr) (l : List α) : Prop :=
 0 < l.length → ∃ b o, p = some ⟨b, o, none⟩ ∧ ∀ i (x : α), l[i]? = some x → ∃ cs, r.rd w cs x ∧ ∀ j u, cs[j]? = some u → w.cell? ⟨b, o + i * r.size + j, none⟩ = some u
theorem Rep.els_keep {α : Type} {r : Rep α} {w w' : World} {p : Option Addr} {l : List α} (hk : Keeps w w') (h : r.els w p l) : r.els w' p l := fun hl => by
 obtain ⟨b, o, hp, hc⟩ := h hl
 refine ⟨b, o, hp, fun i x hx => ?_⟩
 obtain ⟨cs, h1, h2⟩ := hc i x hx
 exact ⟨cs, r.keep hk h1, fun j u hu => hk _ _ (h2 j u hu)⟩
def Rep.slice {α : Type} (r : Rep α) : Rep (List α) where
 size := 1
 rd := fun w cs l => ∃ p cap, cs = [.slice p l.length cap] ∧ l.length ≤ cap ∧ cap ≤ maxLen ∧ r.els w p l
 len := by rintro w cs a ⟨p, cap, rfl, _⟩; rfl
 keep := by
  rintro w w' cs a hk ⟨p, cap, h1, h2, h3, h4⟩
  exact ⟨p, cap, h1, h2, h3, Rep.els_keep hk h4⟩
def Rep.pair {α β : Type} (r : Rep α) (s : Rep β) : Rep (α × β) where
 size := r.size + s.size
 rd := fun w cs x => ∃ c d, cs = c ++ d ∧ r.rd w c x.1 ∧ s.rd w d x.2
 len := by rintro w cs a ⟨c, d, rfl, h1, h2⟩; simp [r.len h1, s.len h2]
 keep := by
  rintro w w' cs a hk ⟨c, d, h, h1, h2⟩
  exact ⟨c, d, h, r.keep hk h1, s.keep hk h2⟩
def IntsAt (k : IntKind) (w : World) (p : Option Addr) (l : List Int) : Prop :=
 0 < l.length → ∃ b o, p = some ⟨b, o, none⟩ ∧ ∀ i (x : Int), l[i]? = some x → w.cell? ⟨b, o + i, none⟩ = some (.int k x)
theorem IntsAt.of_els {k : IntKind} {w : World} {p : Option Addr} {l : List Int} (h : (Rep.int k).els w p l) : IntsAt k w p l := fun hl => by
 obtain ⟨b, o, hp, hc⟩ := h hl
 refine ⟨b, o, hp, fun i x hx => ?_⟩
 obtain ⟨cs, ⟨rfl, _⟩, h2⟩ := hc i x hx
 have := h2 0 _ rfl
 simpa [Rep.int] using this
theorem IntsAt.els {k : IntKind} {w : World} {p : Option Addr} {l : List Int} (h : IntsAt k w p l) (hw : ∀ x ∈ l, (Lit.int k x).wf = true) : (Rep.int k).els w p l := fun hl => by
 obtain ⟨b, o, hp, hc⟩ := h hl
 refine ⟨b, o, hp, fun i x hx => ⟨[.int k x], ⟨rfl, hw x (List.mem_of_getElem? hx)⟩, fun j u hu => ?_⟩⟩
 match j, hu with
 | 0, hu =>
  simp at hu; subst hu
  simpa [Rep.int] using hc i x hx
theorem IntsAt.keep {k : IntKind} {w w' : World} {p : Option Addr} {l : List Int} (hk : Keeps w w') (h : IntsAt k w p l) : IntsAt k w' p l := fun hl => by
 obtain ⟨b, o, hp, hc⟩ := h hl
 exact ⟨b, o, hp, fun i x hx => hk _ _ (hc i x hx)⟩
theorem IntsAt.nil {k : IntKind} {w : World} {p : Option Addr} : IntsAt k w p [] := fun h => absurd h (by simp)
theorem IntsAt.at_ {k : IntKind} {w : World} {p : Option Addr} {l : List Int} (h : IntsAt k w p l) {i : Nat} (hi : i < l.length) :
  ∃ b o x, p = some ⟨b, o, none⟩ ∧ l[i]? = some x ∧ w.cell? ⟨b, o + i, none⟩ = some (.int k x) := by
 obtain ⟨b, o, hp, hc⟩ := h (by omega)
 exact ⟨b, o, l[i], hp, List.getElem?_eq_getElem hi, hc i _ (List.getElem?_eq_getElem hi)⟩
theorem IntsAt.of_own {k : IntKind} {w : World} {base : Nat} {e : TypeId} {p : Option Addr} {n cap : Nat} {l : List Int} (h : w.ownsRow base e 1 (.slice p n cap) n (l.map (Value.int k))) : IntsAt k w p l := fun hl => by
 have hn : l.length = n := by simpa using h.1
 rcases h.2 with ⟨hv, h0⟩ | ⟨g, cap', cur, hv, _, hh, _, _, _, _⟩
 ·omega
 ·injection hv with h1 h2 h3
  subst h1
  refine ⟨g, 0, rfl, fun i x hx => ?_⟩
  have hi : i < l.length := (List.getElem?_eq_some_iff.1 hx).1
  have := h.cells (g := g) rfl i (.int k x) (by simp [hx])
  rw [Addr.add_lit] at this
  simpa using this
def Src (w : World) (p : Option Addr) (m size : Nat) (news : List Value) : Prop :=
 news.length = m * size ∧ (0 < m → ∃ a, p = some a ∧ ∀ j u, news[j]? = some u → w.cell? (a.add j) = some u)
theorem Src.ints {k : IntKind} {w : World} {p : Option Addr} {l : List Int} {n : Nat} (hn : l.length = n) (h : IntsAt k w p l) : Src w p n 1 (l.map (Value.int k)) := by
 refine ⟨by simp [hn], fun h0 => ?_⟩
 obtain ⟨b, o, rfl, hc⟩ := h (by omega)
 refine ⟨_, rfl, fun j u hu => ?_⟩
 rw [List.getElem?_map] at hu
 obtain ⟨x, hx, rfl⟩ := Option.map_eq_some_iff.1 hu
 rw [Addr.add_lit]
 exact hc j x hx
theorem Src.keep {w w' : World} {p : Option Addr} {m size : Nat} {news : List Value} (h : Src w p m size news) (hk : Keeps w w') : Src w' p m size news :=
 ⟨h.1, fun h0 => by obtain ⟨a, hp, hc⟩ := h.2 h0; exact ⟨a, hp, fun j u hu => hk _ _ (hc j u hu)⟩⟩
theorem run_app {P : Program} (w : World) (base : Nat) (t ty e : TypeId) (i : TypeInfo) (z : Value) (size bytes : Nat) (ht : P.underlying t = some (.slice e)) (hi : P.info? e = some i) (hz : i.zero = some z)
  (hsize : i.size = size) (hby : i.bytes = bytes) (hzs : z.cells.size = size) (hsz : 0 < size)
  (v : Value) (n : Nat) (xs : List Value) (hown : w.ownsRow base e size v n xs) (p : Option Addr) (m c : Nat) (news : List Value) (hs : Src w p m size news) (h1 : ∀ u ∈ news, u.oneCell' = true)
  (h63 : n + m ≤ maxLen) (hbytes : (n + m) * bytes ≤ 140737488355328) (hbase : base ≤ w.heap.size) :
  ∃ v' w', (Builtin.append_ #[t, t] ty #[v, .slice p m c]).run P w = .ok v' w' ∧ w'.ownsRow base e size v' (n + m) (xs ++ news) ∧ w.grownBy w' v.ownBlock := by
 rcases Nat.eq_zero_or_pos m with h0 | h0
 ·subst h0
  have hn : news = [] := List.eq_nil_of_length_eq_zero (by simpa using hs.1)
  subst hn
  cases p with
  | some a =>
   obtain ⟨v', w', hr, h2, h3, _⟩ := run_append_own (P := P) w base t ty e i z size bytes ht hi hz hsize hby hzs hsz v n xs hown a 0 c [] (by simp) (by simp) h1 h63 hbytes hbase
   exact ⟨v', w', hr, h2, h3⟩
  | none =>
   refine ⟨v, w, ?_, by simpa using hown, World.grownBy.refl w _⟩
   rcases hown.2 with ⟨rfl, rfl⟩ | ⟨g, cap, cur, rfl, _, _, hnc, _⟩
   ·simp [Builtin.append_, run_underlying ht, sizeOf, typeInfo, hi, Builtin.lenOf, Builtin.firstCells]
   ·simp [Builtin.append_, run_underlying ht, sizeOf, typeInfo, hi, Builtin.lenOf, Builtin.firstCells, hnc, storeCells]
 ·obtain ⟨a, rfl, hc⟩ := hs.2 h0
  obtain ⟨v', w', hr, h2, h3, _⟩ := run_append_own (P := P) w base t ty e i z size bytes ht hi hz hsize hby hzs hsz v n xs hown a m c news hs.1 hc h1 h63 hbytes hbase
  exact ⟨v', w', hr, h2, h3⟩
theorem wp_app {P : Program} (w : World) {o : Oper} {a : Act} {K : Act → World → Prop} {Q : Exit → Act → World → Prop} (s x : Operand) (t : TypeId)
  (ho : o.op = .call { callee := .builtin .append, args := #[s, x], argTypes := #[t, t] })
  (base : Nat) (e : TypeId) (i : TypeInfo) (z : Value) (size bytes : Nat) (ht : P.underlying t = some (.slice e)) (hi : P.info? e = some i) (hz : i.zero = some z)
  (hsize : i.size = size) (hby : i.bytes = bytes) (hzs : z.cells.size = size) (hsz : 0 < size)
  (v : Value) (n : Nat) (xs : List Value) (hv : a.eval s = v) (hown : w.ownsRow base e size v n xs) (p : Option Addr) (m c : Nat) (news : List Value) (hx : a.eval x = .slice p m c) (hs : Src w p m size news)
  (h1 : ∀ u ∈ news, u.oneCell' = true) (h63 : n + m ≤ maxLen) (hbytes : (n + m) * bytes ≤ 140737488355328) (hbase : base ≤ w.heap.size)
  (h : ∀ v' w', w'.ownsRow base e size v' (n + m) (xs ++ news) → w.grownBy w' v.ownBlock → K (a.put o.dst v') w') : o.wp P a w K Q := by
 obtain ⟨v', w', hrun, h2, h3⟩ := run_app (P := P) w base t o.type e i z size bytes ht hi hz hsize hby hzs hsz v n xs hown p m c news hs h1 h63 hbytes hbase
 unfold Oper.wp execOp
 simp only [ho, resolve, invoke, builtin, Sem.run_bind, Sem.run_pure, Result.andThen_ok, List.map_toArray, List.map_cons, List.map_nil, hv, hx, hrun]
 exact h v' w' h2 h3
theorem wpList_app {P : Program} (w : World) {ops : Array Oper} {rest : List Oper} {o : Oper} {a : Act} {Q : Exit → Act → World → Prop} (hgd : o.guard = none) (s x : Operand) (t : TypeId)
  (ho : o.op = .call { callee := .builtin .append, args := #[s, x], argTypes := #[t, t] })
  (base : Nat) (e : TypeId) (i : TypeInfo) (z : Value) (size bytes : Nat) (ht : P.underlying t = some (.slice e)) (hi : P.info? e = some i) (hz : i.zero = some z)
  (hsize : i.size = size) (hby : i.bytes = bytes) (hzs : z.cells.size = size) (hsz : 0 < size)
  (v : Value) (n : Nat) (xs : List Value) (hv : a.eval s = v) (hown : w.ownsRow base e size v n xs) (p : Option Addr) (m c : Nat) (news : List Value) (hx : a.eval x = .slice p m c) (hs : Src w p m size news)
  (h1 : ∀ u ∈ news, u.oneCell' = true) (h63 : n + m ≤ maxLen) (hbytes : (n + m) * bytes ≤ 140737488355328) (hbase : base ≤ w.heap.size)
  (h : ∀ v' w', w'.ownsRow base e size v' (n + m) (xs ++ news) → w.grownBy w' v.ownBlock → wpList P ops Q rest (a.put o.dst v') w') : wpList P ops Q (o :: rest) a w :=
 wpList_plain hgd fun _ hK => wp_app w s x t ho base e i z size bytes ht hi hz hsize hby hzs hsz v n xs hv hown p m c news hx hs h1 h63 hbytes hbase fun v' w' h2 h3 => hK _ _ (h v' w' h2 h3)
theorem own_ne {w : World} {base base' e e' size size' n n' : Nat} {v v' : Value} {xs xs' : List Value} (h : w.ownsRow base e size v n xs) (h' : w.ownsRow base' e' size' v' n' xs') (hne : e ≠ e') {k : Nat} (hk : v.ownBlock = some k) : v'.ownBlock ≠ some k := by
 intro hk'
 rcases h.2 with ⟨rfl, _⟩ | ⟨g, cap, cur, rfl, _, hh, _⟩
 ·simp [Value.ownBlock] at hk
 ·rcases h'.2 with ⟨rfl, _⟩ | ⟨g', cap', cur', rfl, _, hh', _⟩
  ·simp [Value.ownBlock] at hk'
  ·simp [Value.ownBlock] at hk hk'
   subst hk; subst hk'
   rw [hh] at hh'
   injection hh' with hh'
   injection hh' with _ ht
   exact hne ht
theorem cell_new {w : World} {cs : Array Value} {t : TypeId} {i : Nat} : (w.alloc (.cells cs t)).cell? ⟨w.heap.size, i, none⟩ = cs[i]? := by simp
theorem own_form {w : World} {base e size n : Nat} {v : Value} {xs : List Value} (h : w.ownsRow base e size v n xs) (h0 : 0 < n) : ∃ g cap, v = .slice (some ⟨g, 0, none⟩) n cap ∧ base ≤ g ∧ g < w.heap.size := by
 rcases h.2 with ⟨_, hn⟩ | ⟨g, cap, cur, hv, hb, hh, _⟩
 ·omega
 ·exact ⟨g, cap, hv, hb, (Array.getElem?_eq_some_iff.1 hh).1⟩
theorem own_val {w : World} {base e size n : Nat} {v : Value} {xs : List Value} (h : w.ownsRow base e size v n xs) : ∃ p cap, v = .slice p n cap ∧ (p = none → n = 0) := by
 rcases h.2 with ⟨hv, hn⟩ | ⟨g, cap, cur, hv, hb, hh, _⟩
 ·exact ⟨none, 0, by rw [hv, hn], fun _ => hn⟩
 ·exact ⟨_, cap, hv, fun h => by cases h⟩
theorem IntsAt.lit {k : IntKind} {w : World} {t : TypeId} (l : List Int) : IntsAt k (w.alloc (.cells (l.map (Value.int k)).toArray t)) (some ⟨w.heap.size, 0, none⟩) l := fun _ =>
 ⟨w.heap.size, 0, rfl, fun i x hx => by rw [Nat.zero_add, cell_new]; simp [hx]⟩
theorem IntsAt.take {k : IntKind} {w : World} {p : Option Addr} {l : List Int} (h : IntsAt k w p l) (j : Nat) : IntsAt k w p (l.take j) := fun h0 => by
 obtain ⟨b, o, hp, hc⟩ := h (by rw [List.length_take] at h0; omega)
 refine ⟨b, o, hp, fun i x hx => hc i x ?_⟩
 rw [List.getElem?_take] at hx
 split at hx
 ·exact hx
 ·cases hx
end
section
open Go.ChangeShapes Go.WideShapes Go.ChangeAt Go.RowKit Go.Deep
theorem addr_plain' {w : World} {a : Addr} {v : Value} (h : w.cell? a = some v) : a = ⟨a.block, a.off, none⟩ := by
 obtain ⟨b, o, s⟩ := a
 cases s with
 | none => rfl
 | some s => exfalso; unfold World.cell? at h; split at h <;> simp at h
def Opens {α : Type} (P : Program) (t : TypeId) (r : Rep α) : Prop :=
 P.cellsOf t = r.size ∧ ∀ {H : Type} (enc : TypeId × Value → H) (w : World) (fuel : Nat) (cs : List Value) (x : DataW H × List MemPlace),
  DataW.trod enc P w 0 (fun _ => true) true fuel t cs = some x → ∃ a, r.rd w cs a
theorem opens_int {P : Program} {t : TypeId} {k : IntKind} (ht : P.underlying t = some (.int k)) (hc : P.cellsOf t = 1) : Opens P t (Rep.int k) :=
 ⟨hc, fun enc w fuel cs x h => by
  obtain ⟨n, rfl, _, hw⟩ := DataW.trod_int ht h
  exact ⟨n, rfl, hw⟩⟩
theorem opens_bool {P : Program} {t : TypeId} (ht : P.underlying t = some .bool) (hc : P.cellsOf t = 1) : Opens P t Rep.bool :=
 ⟨hc, fun enc w fuel cs x h => by
  obtain ⟨n, rfl, _⟩ := DataW.trod_bool ht h
  exact ⟨n, rfl⟩⟩
theorem opens_slice {α : Type} {P : Program} {t e : TypeId} {r : Rep α} (ht : P.underlying t = some (.slice e)) (hc : P.cellsOf t = 1) (hr : Opens P e r) (h1 : 0 < r.size) : Opens P t (Rep.slice r) :=
 ⟨hc, fun {H} enc w fuel cs x h => by
  rcases open_slice ht h with ⟨rfl, _⟩ | ⟨a, len, cap, m, n, D, Pl, rfl, _, hl, hm, hmm, _, hi⟩
  ·exact ⟨[], none, 0, rfl, Nat.le_refl _, by decide, fun h => absurd h (by simp)⟩
  ·rw [if_pos rfl] at hmm
   have each : ∀ i, i < len → ∃ y cs', r.rd w cs' y ∧ cs'.length = r.size ∧ ∀ j u, cs'[j]? = some u → w.cell? (a.add (i * r.size + j)) = some u := by
    intro i hil
    obtain ⟨cs', hcs', ht'⟩ := hi i (by omega)
    rw [hr.1] at hcs'
    obtain ⟨_, hlen, hat⟩ := World.cells?_some hcs'
    obtain ⟨y, hy⟩ := hr.2 enc w n cs' _ ht'
    refine ⟨y, cs', hy, hlen, fun j u hu => ?_⟩
    have hj : j < r.size := by have := (List.getElem?_eq_some_iff.1 hu).1; omega
    have := hat j hj
    rw [Go.Deep.add_add] at this
    rw [this, hu]
   have build : ∀ k, k ≤ len → ∃ l : List α, l.length = k ∧ ∀ i (y : α), l[i]? = some y → ∃ cs', r.rd w cs' y ∧ ∀ j u, cs'[j]? = some u → w.cell? (a.add (i * r.size + j)) = some u := by
    intro k
    induction k with
    | zero => intro _; exact ⟨[], rfl, fun i y hy => by simp at hy⟩
    | succ k ih =>
     intro hk
     obtain ⟨l, hl', hall⟩ := ih (by omega)
     obtain ⟨y, cs', h2, _, h3⟩ := each k (by omega)
     refine ⟨l ++ [y], by simp [hl'], fun i z hz => ?_⟩
     rw [List.getElem?_append] at hz
     split at hz
     ·exact hall i z hz
     ·have hik : i = k := by have := (List.getElem?_eq_some_iff.1 hz).1; simp at this; omega
      subst hik
      rw [show i - l.length = 0 by omega] at hz
      simp at hz
      subst hz
      exact ⟨cs', h2, h3⟩
   obtain ⟨l, hll, hall⟩ := build len (Nat.le_refl _)
   refine ⟨l, some a, cap, by rw [hll], by omega, hm, fun h0 => ?_⟩
   obtain ⟨cs', hcs', hcl, hc3⟩ : ∃ cs' : List Value, r.rd w cs' (l[0]'(by omega)) ∧ cs'.length = r.size ∧ ∀ j u, cs'[j]? = some u → w.cell? (a.add (0 * r.size + j)) = some u := by
    obtain ⟨cs', h2, h3⟩ := hall 0 _ (List.getElem?_eq_getElem h0)
    exact ⟨cs', h2, r.len h2, h3⟩
   have h00 := hc3 0 (cs'[0]'(by omega)) (List.getElem?_eq_getElem (by omega))
   rw [Nat.zero_mul, Nat.add_zero, Addr.add_zero'] at h00
   have hx := addr_plain' h00
   refine ⟨a.block, a.off, by rw [← hx], fun i y hy => ?_⟩
   obtain ⟨cs', h2, h3⟩ := hall i y hy
   refine ⟨cs', h2, fun j u hu => ?_⟩
   have := h3 j u hu
   rw [hx, Addr.add_lit] at this
   simpa [Nat.add_assoc] using this⟩
def Rep.unit : Rep Unit where
 size := 0
 rd := fun _ cs _ => cs = []
 len := by rintro w cs a rfl; rfl
 keep := by rintro w w' cs a _ h; exact h
structure OpensF {α : Type} (P : Program) (fs : List Field) (off : Nat) (r : Rep α) : Prop where
 run : ∀ {H : Type} (enc : TypeId × Value → H) (w : World) (n : Nat) (cs : List Value) (xs : List (DataW H × List MemPlace)), cs.length = off + r.size → xs.length = fs.length →
  (∀ (i : Nat) (f : Field), fs[i]? = some f → DataW.trod enc P w 0 (fun _ => true) true n f.type ((cs.drop f.offset).take (P.cellsOf f.type)) = xs[i]?) → ∃ a, r.rd w (cs.drop off) a
theorem opensF_nil {P : Program} {off : Nat} : OpensF P [] off Rep.unit := ⟨fun enc w n cs xs hl _ _ => ⟨(), by
 show cs.drop off = []
 rw [List.drop_eq_nil_iff]
 have : Rep.unit.size = 0 := rfl
 omega⟩⟩
theorem opensF_cons {α β : Type} {P : Program} {f : Field} {fs : List Field} {off : Nat} {r : Rep α} {s : Rep β} (hf : f.offset = off) (hr : Opens P f.type r) (hs : OpensF P fs (off + r.size) s) :
  OpensF P (f :: fs) off (r.pair s) := ⟨fun {H} enc w n cs xs hl hx h => by
 have hsz : (r.pair s).size = r.size + s.size := rfl
 obtain ⟨y, xs', rfl⟩ : ∃ y xs', xs = y :: xs' := by
  cases xs with
  | nil => simp at hx
  | cons y xs' => exact ⟨y, xs', rfl⟩
 have h0 := h 0 f rfl
 rw [hf, hr.1] at h0
 obtain ⟨a, ha⟩ := hr.2 enc w n _ y h0
 obtain ⟨b, hb⟩ := hs.run enc w n cs xs' (by omega) (by simpa using hx) (fun i g hg => by
  have := h (i + 1) g (by simpa using hg)
  simpa using this)
 refine ⟨(a, b), (cs.drop off).take r.size, cs.drop (off + r.size), ?_, ha, hb⟩
 rw [← List.drop_drop, List.take_append_drop]⟩
theorem opens_struct {α : Type} {P : Program} {t : TypeId} {fs : Array Field} {r : Rep α} (ht : P.underlying t = some (.struct fs)) (hc : P.cellsOf t = r.size) (hf : OpensF P fs.toList 0 r) : Opens P t r :=
 ⟨hc, fun enc w fuel cs x h => by
  obtain ⟨xs, n, _, _, hl, hxl, hall⟩ := DataW.trod_struct ht h
  have := hf.run enc w n cs xs (by rw [hl, hc, Nat.zero_add]) (by simpa using hxl) (fun i f hif => hall i f (by simpa using hif))
  simpa using this⟩
end
end Go.Proofs.YtgfhcmidnbahjaaGreatDoor
