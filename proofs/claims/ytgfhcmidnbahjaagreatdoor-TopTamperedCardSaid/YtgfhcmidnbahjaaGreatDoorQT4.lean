/- Networks as they lie in memory. Survey: numbers, indices, names and codes. Survey: codes and names. Survey: names. -/
import Derived.Test.YtgfhcmidnbahjaaGreatDoorChecked
import Derived.Test.YtgfhcmidnbahjaaGreatDoorQT2
import Derived.Test.YtgfhcmidnbahjaaGreatDoorQT3
import Derived.IntWalk
import Derived.BigRegion
import Derived.Laws.IdiomStrings
import Derived.Laws.Tables
import Derived.Laws.CopyOwn
import Derived.Laws.ResultCell
set_option linter.unusedVariables false
set_option linter.unusedSimpArgs false
namespace Go.Proofs.YtgfhcmidnbahjaaGreatDoor
open Go.RowKit
def EncAt {α : Type} (k : Nat) (enc : α → List Value) (w : World) (p : Option Addr) (l : List α) : Prop :=
  0 < l.length → ∃ b o, p = some ⟨b, o, none⟩ ∧ ∀ (i : Nat) (x : α), l[i]? = some x → ∀ c v, (enc x)[c]? = some v → w.cell? ⟨b, o + i * k + c, none⟩ = some v
section
variable {α : Type} {k : Nat} {enc : α → List Value} {w w' : World} {p : Option Addr} {l : List α}
theorem EncAt.keep (hk : Keeps w w') (h : EncAt k enc w p l) : EncAt k enc w' p l := fun hl => by
  obtain ⟨b, o, hp, hc⟩ := h hl
  exact ⟨b, o, hp, fun i x hx c v hv => hk _ _ (hc i x hx c v hv)⟩
theorem EncAt.nil : EncAt k enc w p [] := fun h => absurd h (by simp)
theorem EncAt.at_ (h : EncAt k enc w p l) {i : Nat} (hi : i < l.length) : ∃ b o x, p = some ⟨b, o, none⟩ ∧ l[i]? = some x ∧ ∀ c v, (enc x)[c]? = some v → w.cell? ⟨b, o + i * k + c, none⟩ = some v := by
  obtain ⟨b, o, hp, hc⟩ := h (by omega)
  have hx : l[i]? = some l[i] := List.getElem?_eq_getElem hi
  exact ⟨b, o, l[i], hp, hx, hc i _ hx⟩
theorem flatMap_at {α : Type} {enc : α → List Value} {k : Nat} (hk : ∀ x, (enc x).length = k) : ∀ (l : List α) (i c : Nat) (x : α), l[i]? = some x → c < k → (l.flatMap enc)[i * k + c]? = (enc x)[c]?
  | [], i, c, x, h, _ => by simp at h
  | y :: l, 0, c, x, h, hc => by
    simp at h; subst h
    rw [List.flatMap_cons, List.getElem?_append_left (by rw [hk]; omega)]
    congr 1; omega
  | y :: l, i + 1, c, x, h, hc => by
    have := flatMap_at hk l i c x (by simpa using h) hc
    rw [List.flatMap_cons, List.getElem?_append_right (by rw [hk, Nat.add_mul]; omega), hk, ← this]
    congr 1; rw [Nat.add_mul]; omega
theorem flatMap_len {α : Type} {enc : α → List Value} {k : Nat} (hk : ∀ x, (enc x).length = k) : ∀ l : List α, (l.flatMap enc).length = l.length * k
  | [] => by simp
  | y :: l => by rw [List.flatMap_cons, List.length_append, hk, flatMap_len hk l, List.length_cons, Nat.add_mul]; omega
theorem EncAt.of_flat (hk : ∀ x, (enc x).length = k) {g : Nat} (h : ∀ j u, (l.flatMap enc)[j]? = some u → w.cell? ⟨g, j, none⟩ = some u) : EncAt k enc w (some ⟨g, 0, none⟩) l := fun _ =>
  ⟨g, 0, rfl, fun i x hx c v hv => by
    have hc : c < k := by rw [← hk x]; exact (List.getElem?_eq_some_iff.1 hv).1
    have := h _ _ ((flatMap_at hk l i c x hx hc).trans hv)
    simpa using this⟩
theorem EncAt.of_own (hk : ∀ x, (enc x).length = k) (h0 : 0 < k) {base : Nat} {e : TypeId} {n cap : Nat} (h : w.ownsRow base e k (.slice p n cap) n (l.flatMap enc)) : EncAt k enc w p l := fun hl => by
  have hn : l.length * k = n * k := by have h1 := h.1; rwa [flatMap_len hk] at h1
  have hn' : l.length = n := Nat.eq_of_mul_eq_mul_right h0 hn
  rcases h.2 with ⟨hv, h0⟩ | ⟨g, cap', cur, hv, _, hh, _⟩
  · omega
  · injection hv with h1 h2 h3
    subst h1
    refine EncAt.of_flat hk (fun j u hu => ?_) hl
    have := h.cells (g := g) rfl j u hu
    rw [Addr.add_lit] at this
    simpa using this
end
def Blk (w : World) (g : Nat) (cs : Array Value) (t : TypeId) : Prop := w.heap[g]? = some (.cells cs t (0, 0))
section
variable {w w' : World} {g : Nat} {t : TypeId} {cs : Array Value}
theorem Blk.lt (h : Blk w g cs t) : g < w.heap.size := by
  rcases Nat.lt_or_ge g w.heap.size with hlt | hge
  · exact hlt
  · unfold Blk at h; rw [Array.getElem?_eq_none hge] at h; cases h
theorem Blk.cell (h : Blk w g cs t) {k : Nat} {v : Value} (hv : cs[k]? = some v) : w.cell? ⟨g, k, none⟩ = some v := (cell_of_row w g k cs t (0, 0) h).trans hv
theorem Blk.free (h : Blk w g cs t) (i : Nat) : w.frozen? ⟨g, i, none⟩ = false := by
  unfold Blk at h
  simp [World.frozen?, h]
theorem Blk.new (w : World) (t : TypeId) (cs : Array Value) : Blk (w.alloc (.cells cs t)) w.heap.size cs t := heap_alloc_new w _
theorem Blk.new_at {w : World} {g : Nat} {cs : Array Value} {t : TypeId} (h : g = w.heap.size) : Blk (w.alloc (.cells cs t)) g cs t := by subst h; exact Blk.new _ _ _
theorem Blk.same (h : Blk w g cs t) (hb : w'.heap[g]? = w.heap[g]?) : Blk w' g cs t := hb.trans h
theorem Blk.next (h : Blk w g cs t) (hb : Below w.heap.size w w') : Blk w' g cs t := h.same (hb.block g h.lt)
theorem Blk.drewN (h : Blk w g cs t) (n : Nat) : Blk (w.drewN n) g cs t := h
theorem Blk.alloc (h : Blk w g cs t) (o : Obj) : Blk (w.alloc o) g cs t := (Below.heap_alloc w o g h.lt).trans h
theorem Blk.set (h : Blk w g cs t) (i : Nat) (u : Value) : Blk (w.setCell ⟨g, i, none⟩ u) g (cs.setIfInBounds i u) t := by
  unfold Blk at h ⊢
  simp [World.setCell, Array.getElem?_modify, h]
theorem Blk.far (h : Blk w g cs t) {p : Addr} (hp : g ≠ p.block) (u : Value) : Blk (w.setCell p u) g cs t := (Below.heap_setCell w p u g hp).trans h
theorem Blk.below {B : Nat} (h : Blk w g cs t) (hb : Below B w w') (hg : g < B) : Blk w' g cs t := (hb.block g hg).trans h
theorem Blk.grown {row : Option Nat} (h : Blk w g cs t) (hb : w.grownBy w' row) (hg : some g ≠ row) : Blk w' g cs t := (hb.block g h.lt hg).trans h
theorem Blk.kpb {bad : World → Nat → Prop} (h : Blk w g cs t) (hk : Kpb bad w w') (hb : ¬ bad w g) : Blk w' g cs t := h.same (hk.2 g h.lt hb).1
theorem Blk.bump {B : Nat} (h : Blk w g cs t) (hk : Bump B w w') : Blk w' g cs t := by
  obtain ⟨r, o, _, hr, ho, hg⟩ := hk
  refine h.grown hg (fun e => ?_)
  injection e with e; subst e
  unfold Blk at h; rw [hr] at h; injection h with h; subst h; cases ho
theorem Blk.ne_ {g' : Nat} {t' : TypeId} {cs' : Array Value} (h : Blk w g cs t) (h' : Blk w g' cs' t') (hne : t ≠ t') : g ≠ g' := by
  rintro rfl
  unfold Blk at h h'
  rw [h] at h'
  injection h' with h'
  injection h' with _ ht
  exact hne ht
end
theorem lt_of_block {w : World} {b : Nat} {o : Obj} (h : w.heap[b]? = some o) : b < w.heap.size := (Array.getElem?_eq_some_iff.1 h).1
def StrsAt (w : World) (p : Option Addr) (l : List ByteArray) : Prop := EncAt 1 (fun s => [Value.string s]) w p l ∧ (∀ s ∈ l, s.size ≤ maxLen) ∧ l.length ≤ maxLen
theorem StrsAt.keep {w w' : World} {p : Option Addr} {l : List ByteArray} (hk : Keeps w w') (h : StrsAt w p l) : StrsAt w' p l := ⟨h.1.keep hk, h.2⟩
theorem StrsAt.nil {w : World} {p : Option Addr} : StrsAt w p [] := ⟨EncAt.nil, by simp, by decide⟩
theorem StrsAt.at_ {w : World} {p : Option Addr} {l : List ByteArray} (h : StrsAt w p l) {i : Nat} (hi : i < l.length) : ∃ b o s, p = some ⟨b, o, none⟩ ∧ l[i]? = some s ∧ w.cell? ⟨b, o + i, none⟩ = some (.string s) ∧ s.size ≤ maxLen := by
  obtain ⟨b, o, s, hp, hs, hc⟩ := h.1.at_ hi
  have := hc 0 _ rfl
  simp only [Nat.mul_one, Nat.add_zero] at this
  exact ⟨b, o, s, hp, hs, this, h.2.1 s (List.mem_of_getElem? hs)⟩
abbrev BoolsAt := EncAt 1 (fun b : Bool => [Value.bool b])
theorem EncAt.bool {w : World} {p : Option Addr} {l : List Bool} (h : BoolsAt w p l) {i : Nat} (hi : i < l.length) : ∃ b o x, p = some ⟨b, o, none⟩ ∧ l[i]? = some x ∧ w.cell? ⟨b, o + i, none⟩ = some (.bool x) := by
  obtain ⟨b, o, s, hp, hs, hc⟩ := h.at_ hi
  have := hc 0 _ rfl
  simp only [Nat.mul_one, Nat.add_zero] at this
  exact ⟨b, o, s, hp, hs, this⟩
def Cal.cells (c : Cal) : List Value := [.int .i64 c.zone, .slice c.wp c.week.length c.wc, .slice c.hp c.hol.length c.hc]
def Off.cells (o : Off) : List Value := [.string o.name, .int .i64 o.operator, .int .i64 o.calendar, .int .i64 o.pockets, .int .i64 o.passes, .int .i64 o.minutes, .slice o.cp o.codes.length o.cc]
def Lin.cells (l : Lin) : List Value := [.string l.name, .int .i64 l.src, .int .i64 l.dst, .int .i64 l.at_, .int .i64 l.travel, .int .i64 l.load]
def Cls.cells (c : Cls) : List Value := [.string c.name, .int .i64 c.cut, .int .i64 c.deliver]
def I64 (x : Int) : Prop := -9223372036854775808 ≤ x ∧ x ≤ 9223372036854775807
structure CalAt (w : World) (c : Cal) : Prop where
  week : BoolsAt w c.wp c.week
  hol : IntsAt .i64 w c.hp c.hol
  wl : c.week.length ≤ maxLen
  hl : c.hol.length ≤ maxLen
  zone : I64 c.zone
  days : ∀ x ∈ c.hol, I64 x
theorem CalAt.keep {w w' : World} {c : Cal} (hk : Keeps w w') (h : CalAt w c) : CalAt w' c := ⟨h.week.keep hk, h.hol.keep hk, h.wl, h.hl, h.zone, h.days⟩
structure OffAt (w : World) (o : Off) : Prop where
  codes : StrsAt w o.cp o.codes
  name : o.name.size ≤ maxLen
  nums : I64 o.operator ∧ I64 o.calendar ∧ I64 o.pockets ∧ I64 o.passes ∧ I64 o.minutes
theorem OffAt.keep {w w' : World} {o : Off} (hk : Keeps w w') (h : OffAt w o) : OffAt w' o := ⟨h.codes.keep hk, h.name, h.nums⟩
def LinR (l : Lin) : Prop := l.name.size ≤ maxLen ∧ I64 l.src ∧ I64 l.dst ∧ I64 l.at_ ∧ I64 l.travel ∧ I64 l.load
def ClsR (c : Cls) : Prop := c.name.size ≤ maxLen ∧ I64 c.cut ∧ I64 c.deliver
abbrev CalsAt := EncAt 3 Cal.cells
abbrev OffsAt := EncAt 7 Off.cells
abbrev LinsAt := EncAt 6 Lin.cells
abbrev ClssAt := EncAt 3 Cls.cells
def Net.cells (N : Net) : Array Value := #[.slice N.cp N.cals.length N.cc, .slice N.np N.names.length N.nc, .slice N.op N.oprs.length N.oc, .slice N.fp N.offs.length N.fc, .slice N.lp N.lins.length N.lc, .slice N.kp N.clss.length N.kc]
structure NetAt (w : World) (N : Net) : Prop where
  cals : CalsAt w N.cp N.cals
  cal : ∀ c ∈ N.cals, CalAt w c
  names : StrsAt w N.np N.names
  oprs : StrsAt w N.op N.oprs
  offs : OffsAt w N.fp N.offs
  off : ∀ o ∈ N.offs, OffAt w o
  lins : LinsAt w N.lp N.lins
  lin : ∀ l ∈ N.lins, LinR l
  clss : ClssAt w N.kp N.clss
  cls : ∀ c ∈ N.clss, ClsR c
  len : N.cals.length ≤ maxLen ∧ N.offs.length ≤ maxLen ∧ N.lins.length ≤ maxLen ∧ N.clss.length ≤ maxLen
theorem NetAt.keep {w w' : World} {N : Net} (hk : Keeps w w') (h : NetAt w N) : NetAt w' N :=
  ⟨h.cals.keep hk, fun c hc => (h.cal c hc).keep hk, h.names.keep hk, h.oprs.keep hk, h.offs.keep hk, fun c hc => (h.off c hc).keep hk, h.lins.keep hk, h.lin, h.clss.keep hk, h.cls, h.len⟩
theorem NetAt.next {w w' : World} {N : Net} (h : NetAt w N) (hb : Below w.heap.size w w') : NetAt w' N := h.keep (Keeps.of_below hb)
theorem getD_some {α : Type} {l : List α} {i : Nat} {x d : α} (h : l[i]? = some x) : l.getD i d = x := by rw [List.getD_eq_getElem?_getD, h]; rfl
section
variable {w : World} {N : Net}
theorem NetAt.cal_ (h : NetAt w N) {i : Nat} (hi : i < N.cals.length) : ∃ b o c, N.cp = some ⟨b, o, none⟩ ∧ N.cals[i]? = some c ∧ CalAt w c ∧
    w.cell? ⟨b, o + i * 3, none⟩ = some (.int .i64 c.zone) ∧ w.cell? ⟨b, o + i * 3 + 1, none⟩ = some (.slice c.wp c.week.length c.wc) ∧ w.cell? ⟨b, o + i * 3 + 2, none⟩ = some (.slice c.hp c.hol.length c.hc) := by
  obtain ⟨b, o, x, hp, hx, hc⟩ := h.cals.at_ hi
  exact ⟨b, o, x, hp, hx, h.cal x (List.mem_of_getElem? hx), hc 0 _ rfl, hc 1 _ rfl, hc 2 _ rfl⟩
theorem NetAt.off_ (h : NetAt w N) {i : Nat} (hi : i < N.offs.length) : ∃ b o x, N.fp = some ⟨b, o, none⟩ ∧ N.offs[i]? = some x ∧ OffAt w x ∧
    w.cell? ⟨b, o + i * 7, none⟩ = some (.string x.name) ∧ w.cell? ⟨b, o + i * 7 + 1, none⟩ = some (.int .i64 x.operator) ∧ w.cell? ⟨b, o + i * 7 + 2, none⟩ = some (.int .i64 x.calendar) ∧
    w.cell? ⟨b, o + i * 7 + 3, none⟩ = some (.int .i64 x.pockets) ∧ w.cell? ⟨b, o + i * 7 + 4, none⟩ = some (.int .i64 x.passes) ∧ w.cell? ⟨b, o + i * 7 + 5, none⟩ = some (.int .i64 x.minutes) ∧ w.cell? ⟨b, o + i * 7 + 6, none⟩ = some (.slice x.cp x.codes.length x.cc) := by
  obtain ⟨b, o, x, hp, hx, hc⟩ := h.offs.at_ hi
  exact ⟨b, o, x, hp, hx, h.off x (List.mem_of_getElem? hx), hc 0 _ rfl, hc 1 _ rfl, hc 2 _ rfl, hc 3 _ rfl, hc 4 _ rfl, hc 5 _ rfl, hc 6 _ rfl⟩
theorem NetAt.lin_ (h : NetAt w N) {i : Nat} (hi : i < N.lins.length) : ∃ b o x, N.lp = some ⟨b, o, none⟩ ∧ N.lins[i]? = some x ∧ LinR x ∧
    w.cell? ⟨b, o + i * 6, none⟩ = some (.string x.name) ∧ w.cell? ⟨b, o + i * 6 + 1, none⟩ = some (.int .i64 x.src) ∧ w.cell? ⟨b, o + i * 6 + 2, none⟩ = some (.int .i64 x.dst) ∧
    w.cell? ⟨b, o + i * 6 + 3, none⟩ = some (.int .i64 x.at_) ∧ w.cell? ⟨b, o + i * 6 + 4, none⟩ = some (.int .i64 x.travel) ∧ w.cell? ⟨b, o + i * 6 + 5, none⟩ = some (.int .i64 x.load) := by
  obtain ⟨b, o, x, hp, hx, hc⟩ := h.lins.at_ hi
  exact ⟨b, o, x, hp, hx, h.lin x (List.mem_of_getElem? hx), hc 0 _ rfl, hc 1 _ rfl, hc 2 _ rfl, hc 3 _ rfl, hc 4 _ rfl, hc 5 _ rfl⟩
theorem NetAt.cls_ (h : NetAt w N) {i : Nat} (hi : i < N.clss.length) : ∃ b o x, N.kp = some ⟨b, o, none⟩ ∧ N.clss[i]? = some x ∧ ClsR x ∧
    w.cell? ⟨b, o + i * 3, none⟩ = some (.string x.name) ∧ w.cell? ⟨b, o + i * 3 + 1, none⟩ = some (.int .i64 x.cut) ∧ w.cell? ⟨b, o + i * 3 + 2, none⟩ = some (.int .i64 x.deliver) := by
  obtain ⟨b, o, x, hp, hx, hc⟩ := h.clss.at_ hi
  exact ⟨b, o, x, hp, hx, h.cls x (List.mem_of_getElem? hx), hc 0 _ rfl, hc 1 _ rfl, hc 2 _ rfl⟩
end
def KwAt (w : World) : Prop := 2 < w.heap.size ∧ ∀ (k : Nat) (s : List UInt8), kwL[k]? = some s → w.cell? ⟨2, k, none⟩ = some (.string ⟨s.toArray⟩)
theorem KwAt.next {w w' : World} (h : KwAt w) (hb : Below w.heap.size w w') : KwAt w' := ⟨Nat.lt_of_lt_of_le h.1 hb.size, fun k s hk => cell_later hb (h.2 k s hk)⟩
end Go.Proofs.YtgfhcmidnbahjaaGreatDoor
namespace Go.Proofs.YtgfhcmidnbahjaaGreatDoor
open Go.RowKit
theorem isFrom_c (v a b : Int) (w : World) (R) (hR : R (.returned (.bool (fromB v a b))) w) : Calls Tryz.prog 295 #[.int .i64 v, .int .i64 a, .int .i64 b] w R := by
  by_cases h1 : a ≤ v
  · by_cases h2 : v ≤ b
    · rw [show fromB v a b = true by simp [fromB, h1, h2]] at hR
      have HR := hide hR
      clear hR
      go_enter Tryz.func295, Tryz.ntmps295
      go_wp2
      exact HR.out
    · rw [show fromB v a b = false by simp [fromB, h1, h2]] at hR
      have HR := hide hR
      clear hR
      have h3 : b < v := by omega
      go_enter Tryz.func295, Tryz.ntmps295
      go_wp2
      exact HR.out
  · rw [show fromB v a b = false by simp [fromB, h1]] at hR
    have HR := hide hR
    clear hR
    have h3 : v < a := by omega
    go_enter Tryz.func295, Tryz.ntmps295
    go_wp2
    exact HR.out
theorem isMinute_c (v : Int) (w : World) (R) (hR : R (.returned (.bool (fromB v 0 1439))) w) : Calls Tryz.prog 242 #[.int .i64 v] w R := by
  have HR := hide hR
  clear hR
  go_enter Tryz.func242, Tryz.ntmps242
  go_wp2_with (go_at_call 295; refine Stop.out ?_)
  refine Stop.go (isFrom_c v 0 1439 _ _ ?_)
  go_wp2
  exact HR.out
theorem isSmall_c (b : UInt8) (w : World) (R) (hR : R (.returned (.bool (smallB b))) w) : Calls Tryz.prog 325 #[.int .u8 (b.toNat : Int)] w R := by
  by_cases h1 : (97 : Int) ≤ (b.toNat : Int)
  · by_cases h2 : (b.toNat : Int) ≤ 122
    · rw [show smallB b = true by simp [smallB]; omega] at hR
      have HR := hide hR
      clear hR
      go_enter Tryz.func325, Tryz.ntmps325
      go_wp2
      exact HR.out
    · rw [show smallB b = false by simp [smallB]; omega] at hR
      have HR := hide hR
      clear hR
      have h3 : (122 : Int) < (b.toNat : Int) := by omega
      go_enter Tryz.func325, Tryz.ntmps325
      go_wp2
      exact HR.out
  · rw [show smallB b = false by simp [smallB]; omega] at hR
    have HR := hide hR
    clear hR
    have h3 : (b.toNat : Int) < 97 := by omega
    go_enter Tryz.func325, Tryz.ntmps325
    go_wp2
    exact HR.out
theorem isDigit_c (b : UInt8) (w : World) (R) (hR : R (.returned (.bool (digitB b))) w) : Calls Tryz.prog 326 #[.int .u8 (b.toNat : Int)] w R := by
  by_cases h1 : (48 : Int) ≤ (b.toNat : Int)
  · by_cases h2 : (b.toNat : Int) ≤ 57
    · rw [show digitB b = true by simp [digitB]; omega] at hR
      have HR := hide hR
      clear hR
      go_enter Tryz.func326, Tryz.ntmps326
      go_wp2
      exact HR.out
    · rw [show digitB b = false by simp [digitB]; omega] at hR
      have HR := hide hR
      clear hR
      have h3 : (57 : Int) < (b.toNat : Int) := by omega
      go_enter Tryz.func326, Tryz.ntmps326
      go_wp2
      exact HR.out
  · rw [show digitB b = false by simp [digitB]; omega] at hR
    have HR := hide hR
    clear hR
    have h3 : (b.toNat : Int) < 48 := by omega
    go_enter Tryz.func326, Tryz.ntmps326
    go_wp2
    exact HR.out
theorem isIndexOpr_c (i : Int) (p : Option Addr) (n c : Nat) (w : World) (R) (hn : n ≤ maxLen) (hR : R (.returned (.bool (indexB i n))) w) : Calls Tryz.prog 292 #[.int .i64 i, .slice p n c] w R := by
  unfold maxLen at hn
  by_cases h1 : 0 ≤ i
  · by_cases h2 : i < (n : Int)
    · rw [show indexB i n = true by simp [indexB, h1, h2]] at hR
      have HR := hide hR
      clear hR
      go_enter Tryz.func292, Tryz.ntmps292
      go_wp2
      exact HR.out
    · rw [show indexB i n = false by simp [indexB, h1, h2]] at hR
      have HR := hide hR
      clear hR
      have h3 : (n : Int) ≤ i := by omega
      go_enter Tryz.func292, Tryz.ntmps292
      go_wp2
      exact HR.out
  · rw [show indexB i n = false by simp [indexB, h1]] at hR
    have HR := hide hR
    clear hR
    have h3 : i < 0 := by omega
    go_enter Tryz.func292, Tryz.ntmps292
    go_wp2
    exact HR.out
theorem isIndexCal_c (i : Int) (p : Option Addr) (n c : Nat) (w : World) (R) (hn : n ≤ maxLen) (hR : R (.returned (.bool (indexB i n))) w) : Calls Tryz.prog 293 #[.int .i64 i, .slice p n c] w R := by
  unfold maxLen at hn
  by_cases h1 : 0 ≤ i
  · by_cases h2 : i < (n : Int)
    · rw [show indexB i n = true by simp [indexB, h1, h2]] at hR
      have HR := hide hR
      clear hR
      go_enter Tryz.func293, Tryz.ntmps293
      go_wp2
      exact HR.out
    · rw [show indexB i n = false by simp [indexB, h1, h2]] at hR
      have HR := hide hR
      clear hR
      have h3 : (n : Int) ≤ i := by omega
      go_enter Tryz.func293, Tryz.ntmps293
      go_wp2
      exact HR.out
  · rw [show indexB i n = false by simp [indexB, h1]] at hR
    have HR := hide hR
    clear hR
    have h3 : i < 0 := by omega
    go_enter Tryz.func293, Tryz.ntmps293
    go_wp2
    exact HR.out
theorem isIndexOff_c (i : Int) (p : Option Addr) (n c : Nat) (w : World) (R) (hn : n ≤ maxLen) (hR : R (.returned (.bool (indexB i n))) w) : Calls Tryz.prog 299 #[.int .i64 i, .slice p n c] w R := by
  unfold maxLen at hn
  by_cases h1 : 0 ≤ i
  · by_cases h2 : i < (n : Int)
    · rw [show indexB i n = true by simp [indexB, h1, h2]] at hR
      have HR := hide hR
      clear hR
      go_enter Tryz.func299, Tryz.ntmps299
      go_wp2
      exact HR.out
    · rw [show indexB i n = false by simp [indexB, h1, h2]] at hR
      have HR := hide hR
      clear hR
      have h3 : (n : Int) ≤ i := by omega
      go_enter Tryz.func299, Tryz.ntmps299
      go_wp2
      exact HR.out
  · rw [show indexB i n = false by simp [indexB, h1]] at hR
    have HR := hide hR
    clear hR
    have h3 : i < 0 := by omega
    go_enter Tryz.func299, Tryz.ntmps299
    go_wp2
    exact HR.out
end Go.Proofs.YtgfhcmidnbahjaaGreatDoor
namespace Go.Proofs.YtgfhcmidnbahjaaGreatDoor
open Go.RowKit
theorem bytes_of (s : ByteArray) (w : World) : ∃ w1 cap, (convert 9 58 (.string s)).run Tryz.prog w = .ok (.slice (some ⟨w.heap.size, 0, none⟩) s.size cap) w1 ∧ (∀ (i : Nat) (b : UInt8), s.data.toList[i]? = some b → w1.cell? ⟨w.heap.size, i, none⟩ = some (.int .u8 (b.toNat : Int))) ∧ Below w.heap.size w w1 := by
  refine ⟨_, _, run_bytes_of_string w 9 58 5 s Tryz.underlying9 Tryz.underlying58 Tryz.underlying5, fun i b hb => ?_, balloc (Below.refl _ _).drew _⟩
  obtain ⟨hi, he⟩ := List.getElem?_eq_some_iff.1 hb
  have hi' : i < s.size := by simpa using hi
  refine (World.cell?_alloc_mark w.drew _ 5 _ i).trans ?_
  rw [bytesRow_at s _ i hi']
  have : s.data[i]'hi' = b := by rw [← he]; rfl
  rw [this]
theorem byte_at (s : ByteArray) {i : Nat} (hi : i < s.size) : ∃ b, s.data.toList[i]? = some b ∧ s[i]'hi = b := ⟨s[i]'hi, by rw [List.getElem?_eq_getElem (by simpa using hi)]; rfl, rfl⟩
set_option maxRecDepth 100000 in
set_option maxHeartbeats 2000000 in
theorem isCode_c (s : ByteArray) (w : World) (R) (hs : s.size ≤ maxLen) (hR : ∀ w', Below w.heap.size w w' → R (.returned (.bool (codeB s))) w') : Calls Tryz.prog 294 #[.string s] w R := by
  unfold maxLen at hs
  by_cases h1 : s.size < 1
  · have e : codeB s = false := by unfold codeB; rw [decide_eq_false (show ¬ (1 ≤ s.size) by omega)]; rfl
    rw [e] at hR
    have HR := hide (hR _ (Below.refl _ _))
    clear hR e
    have h1I : (s.size : Int) < 1 := by omega
    go_enter Tryz.func294, Tryz.ntmps294
    go_wp2
    exact HR.out
  · by_cases h2 : 8 < s.size
    · have e : codeB s = false := by unfold codeB; rw [decide_eq_false (show ¬ (s.size ≤ 8) by omega)]; simp
      rw [e] at hR
      have HR := hide (hR _ (Below.refl _ _))
      clear hR e
      have h1I : (1 : Int) ≤ (s.size : Int) := by omega
      have h2I : (8 : Int) < (s.size : Int) := by omega
      go_enter Tryz.func294, Tryz.ntmps294
      go_wp2
      exact HR.out
    · obtain ⟨w1, cap, hcv, hc, hb1⟩ := bytes_of s w
      have HB1 := hide hb1; have HC := hide hc; have HR := hide hR
      have ec : codeB s = s.data.toList.all fun b => digitB b || bigB b := by unfold codeB; rw [decide_eq_true (show 1 ≤ s.size by omega), decide_eq_true (show s.size ≤ 8 by omega)]; rfl
      have EC := hide ec
      have hln : s.data.toList.length = s.size := by simp
      have HL := hide hln
      have h1I : (1 : Int) ≤ (s.size : Int) := by omega
      have h2I : (s.size : Int) ≤ 8 := by omega
      have h2N : s.size ≤ 8 := by omega
      clear hR hb1 hc ec hln h1 h2
      obtain ⟨n, hn⟩ : ∃ n, s.size = n := ⟨_, rfl⟩
      have Hn := hide hn
      rw [hn] at hcv h1I h2I h2N
      go_enter Tryz.func294, Tryz.ntmps294
      go_wp2
      clear hcv
      go_loopw [16] (fun si wr => ∃ i : Nat, i ≤ n ∧ si = .int .i64 i ∧ wr = w1 ∧ Hid (∀ b ∈ s.data.toList.take i, (digitB b || bigB b) = true)) (fun si _ => n - (intOf si).toNat)
      case atStart => exact ⟨0, Nat.zero_le _, rfl, rfl, hide (by simp)⟩
      case round =>
        obtain ⟨i, hi, rfl, rfl, HA⟩ := hrel
        by_cases hlt : i < n
        · obtain ⟨b, hb, _⟩ := byte_at s (i := i) (by rw [Hn.out]; exact hlt)
          have c0 := HC.out i b hb
          have Hb := hide hb
          clear hb
          cases hd : digitB b
          · by_cases h65 : (65 : Int) ≤ (b.toNat : Int)
            · by_cases h90 : (b.toNat : Int) ≤ 90
              · have HA' : Hid (∀ b ∈ s.data.toList.take (i + 1), (digitB b || bigB b) = true) := hide (fun x hx => by
                  rw [List.take_add_one, Hb.out] at hx
                  rcases List.mem_append.1 hx with hx | hx
                  · exact HA.out x hx
                  · simp at hx; subst hx
                    simp [bigB]; omega)
                go_wp2_with (go_at_call 326; refine Stop.out ?_)
                refine Stop.go (isDigit_c b _ _ ?_)
                rw [hd]
                go_wp2
                go_roundw
                case rel => exact ⟨i + 1, by omega, by go_num, by trivial, HA'⟩
                case measure => simp [intOf]; omega
              · have e : codeB s = false := by
                  rw [EC.out, List.all_eq_false]
                  exact ⟨b, List.mem_of_getElem? Hb.out, by simp [hd, bigB]; omega⟩
                have HF := hide (HR.out _ HB1.out)
                rw [e] at HF
                clear e
                have h90' : (90 : Int) < (b.toNat : Int) := by omega
                go_wp2_with (go_at_call 326; refine Stop.out ?_)
                refine Stop.go (isDigit_c b _ _ ?_)
                rw [hd]
                go_wp2
                exact HF.out
            · have e : codeB s = false := by
                rw [EC.out, List.all_eq_false]
                exact ⟨b, List.mem_of_getElem? Hb.out, by simp [hd, bigB]; omega⟩
              have HF := hide (HR.out _ HB1.out)
              rw [e] at HF
              clear e
              have h65' : (b.toNat : Int) < 65 := by omega
              go_wp2_with (go_at_call 326; refine Stop.out ?_)
              refine Stop.go (isDigit_c b _ _ ?_)
              rw [hd]
              go_wp2
              exact HF.out
          · have HA' : Hid (∀ b ∈ s.data.toList.take (i + 1), (digitB b || bigB b) = true) := hide (fun x hx => by
              rw [List.take_add_one, Hb.out] at hx
              rcases List.mem_append.1 hx with hx | hx
              · exact HA.out x hx
              · simp at hx; subst hx
                simp [hd])
            go_wp2_with (go_at_call 326; refine Stop.out ?_)
            refine Stop.go (isDigit_c b _ _ ?_)
            rw [hd]
            go_wp2
            go_roundw
            case rel => exact ⟨i + 1, by omega, by go_num, by trivial, HA'⟩
            case measure => simp [intOf]; omega
        · have hiI : ¬ (i : Int) < (n : Int) := by omega
          have e : codeB s = true := by
            rw [EC.out, List.all_eq_true]
            intro b hb
            refine HA.out b ?_
            rw [List.take_of_length_le (by rw [HL.out, Hn.out]; omega)]; exact hb
          have HF := hide (HR.out _ HB1.out)
          rw [e] at HF
          clear e hi hlt
          go_wp2
          exact HF.out
end Go.Proofs.YtgfhcmidnbahjaaGreatDoor
namespace Go.Proofs.YtgfhcmidnbahjaaGreatDoor
open Go.RowKit
def kwC : Array Value := (kwL.map fun s => Value.string ⟨s.toArray⟩).toArray
theorem run_index_arr {t e : TypeId} {n j : Nat} {A : Array Value} {v : Value} (w : World) (hu : Tryz.prog.underlying t = some (.array n e)) (hz : (Tryz.prog.info? e).map (·.size) = some 1) (ha : ∀ w : World, (isAgg e).run Tryz.prog w = .ok false w) (hj : j < n) (h : A[j]? = some v) :
    Sem.run Tryz.prog (Instr.index t (.agg A) (.int .i64 (j : Int))) w = .ok v w := by
  have h1 : (0 : Int) ≤ (j : Int) ∧ (j : Int) < (n : Int) := by omega
  cases he : Tryz.prog.info? e with
  | none => simp [he] at hz
  | some i =>
    have hz1 : i.size = 1 := by simpa [he] using hz
    simp [Instr.index, run_underlying hu, asIntOf, h1, part, Sem.run_bind, ha, sizeOf, typeInfo, he, hz1, h, go_sem]
    intro hle
    omega
theorem kw_at {A : Array Value} (hA : kwC = A) {j : Nat} (hj : j < 17) : ∃ s : List UInt8, kwL[j]? = some s ∧ A[j]? = some (.string ⟨s.toArray⟩) := by
  subst hA
  obtain ⟨s, hs⟩ : ∃ s, kwL[j]? = some s := ⟨_, List.getElem?_eq_getElem (show j < kwL.length from hj)⟩
  refine ⟨s, hs, ?_⟩
  unfold kwC; rw [List.getElem?_toArray, List.getElem?_map, hs]; rfl
theorem name_head {s : ByteArray} (h : 0 < s.size) : s.data.toList.getD 0 0 = s[0]'h := by
  rw [List.getD_eq_getElem?_getD, List.getElem?_eq_getElem (by simpa using h)]; rfl
def nameBytes (s : ByteArray) : Bool := s.data.toList.all nameChar && !kwL.any fun k => k == s.data.toList
theorem nameB_of {s : ByteArray} (h1 : 1 ≤ s.size) (h2 : s.size ≤ 16) (h3 : smallB (s.data.toList.getD 0 0) = true) : nameB s = nameBytes s := by
  unfold nameB nameBytes
  rw [decide_eq_true (show 1 ≤ s.size by omega), decide_eq_true (show s.size ≤ 16 by omega), h3]
  rfl
set_option maxRecDepth 100000 in
set_option maxHeartbeats 4000000 in
theorem isName_c (s : ByteArray) (w : World) (R) (hk : KwAt w) (hs : s.size ≤ maxLen) (hR : ∀ w', Below w.heap.size w w' → R (.returned (.bool (nameB s))) w') : Calls Tryz.prog 283 #[.string s] w R := by
  unfold maxLen at hs
  by_cases h1 : s.size < 1
  · have e : nameB s = false := by unfold nameB; rw [decide_eq_false (show ¬ (1 ≤ s.size) by omega)]; rfl
    rw [e] at hR
    have HR := hide (hR _ (Below.refl _ _))
    clear hR e hk
    have h1I : (s.size : Int) < 1 := by omega
    go_enter Tryz.func283, Tryz.ntmps283
    go_wp2
    exact HR.out
  by_cases h2 : 16 < s.size
  · have e : nameB s = false := by unfold nameB; rw [decide_eq_false (show ¬ (s.size ≤ 16) by omega)]; simp
    rw [e] at hR
    have HR := hide (hR _ (Below.refl _ _))
    clear hR e hk
    have h1I : (1 : Int) ≤ (s.size : Int) := by omega
    have h2I : (16 : Int) < (s.size : Int) := by omega
    go_enter Tryz.func283, Tryz.ntmps283
    go_wp2
    exact HR.out
  have h0 : 0 < s.size := by omega
  have h1I : (1 : Int) ≤ (s.size : Int) := by omega
  have h2I : (s.size : Int) ≤ 16 := by omega
  have hhd := name_head h0
  cases h3 : smallB (s[0]'h0)
  · have e : nameB s = false := by unfold nameB; rw [hhd, h3]; simp
    rw [e] at hR
    have HR := hide (hR _ (Below.refl _ _))
    clear hR e hk hhd
    have H3 := hide h3
    clear h3
    go_enter Tryz.func283, Tryz.ntmps283
    go_wp2_with (go_at_call 325; refine Stop.out ?_)
    refine Stop.go (isSmall_c _ _ _ ?_)
    rw [H3.out]
    go_wp2
    exact HR.out
  have en : nameB s = nameBytes s := nameB_of (by omega) (by omega) (by rw [hhd]; exact h3)
  rw [en] at hR
  obtain ⟨w1, cap, hcv, hc, hb1⟩ := bytes_of s w
  have HB1 := hide hb1; have HC := hide hc; have HR := hide hR; have HK := hide hk; have H3 := hide h3
  have HL : Hid (s.data.toList.length = s.size) := hide (by simp)
  have h2N : s.size ≤ 16 := by omega
  clear hR hb1 hc hk h3 hhd en h1 h2
  obtain ⟨n, hn⟩ : ∃ n, s.size = n := ⟨_, rfl⟩
  have Hn := hide hn
  rw [hn] at hcv h1I h2I h2N
  go_enter Tryz.func283, Tryz.ntmps283
  go_wp2_with (go_at_call 325; refine Stop.out ?_)
  refine Stop.go (isSmall_c _ _ _ ?_)
  rw [H3.out]
  go_wp2
  clear hcv
  go_loopw [24] (fun si wr => ∃ i : Nat, i ≤ n ∧ si = .int .i64 i ∧ wr = w1 ∧ Hid (∀ b ∈ s.data.toList.take i, nameChar b = true)) (fun si _ => n - (intOf si).toNat)
  case atStart => exact ⟨0, Nat.zero_le _, rfl, rfl, hide (by simp)⟩
  case round =>
    obtain ⟨i, hi, rfl, rfl, HA⟩ := hrel
    by_cases hlt : i < n
    · obtain ⟨b, hb, _⟩ := byte_at s (i := i) (by rw [Hn.out]; exact hlt)
      have c0 := HC.out i b hb
      have Hb := hide hb
      clear hb
      have step : nameChar b = true → Hid (∀ b ∈ s.data.toList.take (i + 1), nameChar b = true) := fun hh => hide (fun x hx => by
        rw [List.take_add_one, Hb.out] at hx
        rcases List.mem_append.1 hx with hx | hx
        · exact HA.out x hx
        · simp at hx; subst hx; exact hh)
      cases hsm : smallB b
      · cases hdg : digitB b
        · by_cases h95 : (b.toNat : Int) = 95
          · have HA' := step (by unfold nameChar; rw [hsm, hdg]; simp; omega)
            have t95 : ((b.toNat : Int) == 95) = true := by simp; omega
            have t95' : ((b.toNat : Int) != 95) = false := by simp; omega
            clear step h95
            go_wp2_with (go_at_call 325; refine Stop.out ?_)
            refine Stop.go (isSmall_c b _ _ ?_)
            rw [hsm]
            go_wp2_with (go_at_call 326; refine Stop.out ?_)
            refine Stop.go (isDigit_c b _ _ ?_)
            rw [hdg]
            go_wp2
            go_roundw
            case rel => exact ⟨i + 1, by omega, by go_num, by trivial, HA'⟩
            case measure => simp [intOf]; omega
          · have e : nameBytes s = false := by
              have : s.data.toList.all nameChar = false := by
                rw [List.all_eq_false]
                exact ⟨b, List.mem_of_getElem? Hb.out, by unfold nameChar; rw [hsm, hdg]; simp; omega⟩
              unfold nameBytes; rw [this]; rfl
            have HF := hide (HR.out _ HB1.out)
            rw [e] at HF
            have t95 : ((b.toNat : Int) == 95) = false := by simp; omega
            have t95' : ((b.toNat : Int) != 95) = true := by simp; omega
            clear e step h95
            go_wp2_with (go_at_call 325; refine Stop.out ?_)
            refine Stop.go (isSmall_c b _ _ ?_)
            rw [hsm]
            go_wp2_with (go_at_call 326; refine Stop.out ?_)
            refine Stop.go (isDigit_c b _ _ ?_)
            rw [hdg]
            go_wp2
            exact HF.out
        · have HA' := step (by unfold nameChar; rw [hsm, hdg]; rfl)
          clear step
          go_wp2_with (go_at_call 325; refine Stop.out ?_)
          refine Stop.go (isSmall_c b _ _ ?_)
          rw [hsm]
          go_wp2_with (go_at_call 326; refine Stop.out ?_)
          refine Stop.go (isDigit_c b _ _ ?_)
          rw [hdg]
          go_wp2
          go_roundw
          case rel => exact ⟨i + 1, by omega, by go_num, by trivial, HA'⟩
          case measure => simp [intOf]; omega
      · have HA' := step (by unfold nameChar; rw [hsm]; rfl)
        clear step
        go_wp2_with (go_at_call 325; refine Stop.out ?_)
        refine Stop.go (isSmall_c b _ _ ?_)
        rw [hsm]
        go_wp2
        go_roundw
        case rel => exact ⟨i + 1, by omega, by go_num, by trivial, HA'⟩
        case measure => simp [intOf]; omega
    · have hiI : ¬ (i : Int) < (n : Int) := by omega
      have HAll : Hid (s.data.toList.all nameChar = true) := hide (by
        rw [List.all_eq_true]
        intro b hb
        refine HA.out b ?_
        rw [List.take_of_length_le (by rw [HL.out, Hn.out]; omega)]; exact hb)
      have g0 : ∀ (k : Nat) (s : List UInt8), kwL[k]? = some s → wr.cell? ⟨2, k, none⟩ = some (.string ⟨s.toArray⟩) := (HK.out.next HB1.out).2
      have k0 := g0 0 _ rfl; have k1 := g0 1 _ rfl; have k2 := g0 2 _ rfl; have k3 := g0 3 _ rfl; have k4 := g0 4 _ rfl; have k5 := g0 5 _ rfl; have k6 := g0 6 _ rfl; have k7 := g0 7 _ rfl; have k8 := g0 8 _ rfl; have k9 := g0 9 _ rfl; have k10 := g0 10 _ rfl; have k11 := g0 11 _ rfl; have k12 := g0 12 _ rfl; have k13 := g0 13 _ rfl; have k14 := g0 14 _ rfl; have k15 := g0 15 _ rfl; have k16 := g0 16 _ rfl
      clear g0 hi hlt
      go_wp2
      clear k0 k1 k2 k3 k4 k5 k6 k7 k8 k9 k10 k11 k12 k13 k14 k15 k16
      obtain ⟨A, hA⟩ : ∃ A, kwC = A := ⟨_, rfl⟩
      rw [show (#[.string { data := #[99, 97, 108, 101, 110, 100, 97, 114] }, .string { data := #[111, 112, 101, 114, 97, 116, 111, 114] }, .string { data := #[111, 102, 102, 105, 99, 101] }, .string { data := #[108, 105, 110, 101] }, .string { data := #[99, 108, 97, 115, 115] }, .string { data := #[122, 111, 110, 101] }, .string { data := #[119, 101, 101, 107] }, .string { data := #[104, 111, 108, 105, 100, 97, 121] }, .string { data := #[112, 111, 99, 107, 101, 116, 115] }, .string { data := #[112, 97, 115, 115, 101, 115] }, .string { data := #[109, 105, 110, 117, 116, 101, 115] }, .string { data := #[99, 111, 100, 101, 115] }, .string { data := #[97, 116] }, .string { data := #[116, 114, 97, 118, 101, 108] }, .string { data := #[108, 111, 97, 100] }, .string { data := #[99, 117, 116] }, .string { data := #[100, 101, 108, 105, 118, 101, 114] }] : Array Value) = A from hA]
      have HA2 := hide hA
      clear hA
      go_loopw [42] (fun sj w2 => ∃ j : Nat, j ≤ 17 ∧ sj = .int .i64 j ∧ w2 = wr ∧ Hid (∀ k ∈ kwL.take j, ¬ k = s.data.toList)) (fun sj _ => 17 - (intOf sj).toNat)
      case atStart => exact ⟨0, by decide, rfl, rfl, hide (by simp)⟩
      case round =>
        obtain ⟨j, hj, rfl, rfl, HJ⟩ := hrel
        by_cases hlt : j < 17
        · obtain ⟨k, hks, hA⟩ := kw_at HA2.out hlt
          have Hks := hide hks
          have hjI : (j : Int) < 17 := by omega
          have q1 := run_index_arr wr (t := 322) (e := 9) (n := 17) (by kernel_rfl) (by kernel_rfl) (fun w => Tryz.isAgg9 w) hlt hA
          clear hks hA
          by_cases hkk : k = s.data.toList
          · have e : nameBytes s = false := by
              have : (kwL.any fun k => k == s.data.toList) = true := List.any_eq_true.2 ⟨k, List.mem_of_getElem? Hks.out, by simp [hkk]⟩
              unfold nameBytes; rw [this]; simp
            have HF := hide (HR.out _ HB1.out)
            rw [e] at HF
            have q0 : (s.toList == k) = true := by rw [ByteArray.toList_eq, hkk]; simp
            clear e hkk
            go_wp2
            exact HF.out
          · have HJ' : Hid (∀ k ∈ kwL.take (j + 1), ¬ k = s.data.toList) := hide (fun x hx => by
              rw [List.take_add_one, Hks.out] at hx
              rcases List.mem_append.1 hx with hx | hx
              · exact HJ.out x hx
              · simp at hx; subst hx; exact hkk)
            have q0 : (s.toList == k) = false := by rw [ByteArray.toList_eq, beq_eq_false_iff_ne]; exact fun e => hkk e.symm
            clear hkk
            go_wp2
            go_roundw
            case rel => exact ⟨j + 1, by omega, by go_num, by trivial, HJ'⟩
            case measure => simp [intOf]; omega
        · have hjI : ¬ (j : Int) < 17 := by omega
          have e : nameBytes s = true := by
            have : (kwL.any fun k => k == s.data.toList) = false := by
              rw [List.any_eq_false]
              intro k hk
              have := HJ.out k (by rw [List.take_of_length_le (by show 17 ≤ j; omega)]; exact hk)
              simpa using this
            unfold nameBytes; rw [HAll.out, this]; rfl
          have HF := hide (HR.out _ HB1.out)
          rw [e] at HF
          clear e hj hlt
          go_wp2
          exact HF.out
end Go.Proofs.YtgfhcmidnbahjaaGreatDoor
