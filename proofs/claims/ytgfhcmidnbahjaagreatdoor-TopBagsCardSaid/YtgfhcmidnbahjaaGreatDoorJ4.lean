/- Networks as they lie in memory. Rows of the call's own: where an append's row lies; steps. Maps that the call has made, at keys that the model compares at once (ported from ntop/K1). -/
import Derived.Test.YtgfhcmidnbahjaaGreatDoorChecked
import Derived.Test.YtgfhcmidnbahjaaGreatDoorJ2
import Derived.Test.YtgfhcmidnbahjaaGreatDoorJ3
import Derived.IntWalk
import Derived.BigRegion
import Derived.Laws.IdiomStrings
import Derived.Laws.Tables
import Derived.Laws.CopyOwn
import Derived.Laws.ResultCell
import Derived.Maps.AppendAt
import Derived.Maps.OwnOps
set_option linter.unusedVariables false
set_option linter.unusedSimpArgs false
namespace Go.Proofs.YtgfhcmidnbahjaaGreatDoor
section
open Go.RowKit
def EncAt {α : Type} (k : Nat) (enc : α → List Value) (w : World) (p : Option Addr) (l : List α) : Prop :=
 0 < l.length → ∃ b o, p = some ⟨b, o, none⟩ ∧ ∀ (i : Nat) (x : α), l[i]? = some x → ∀ c v, (enc x)[c]? = some v → w.cell? ⟨b, o + i * k + c, none⟩ = some v
section
variable {α : Type} {k : Nat} {enc : α → List Value} {w w' : World} {p : Option Addr} {l : List α}
theorem EncAt.keep (hk : Keeps w w') (h : EncAt k enc w p l) : EncAt k enc w' p l := fun hl => by
 obtain ⟨b, o, hp, hc⟩ := h hl
 exact ⟨b, o, hp, fun i x hx c v hv => hk _ _ (hc i x hx c v hv)⟩
theorem EncAt.nil : EncAt k enc w p [] := fun h => absurd h (by simp)
theorem EncAt.at_ (h : EncAt k enc w p l) {i : Nat} (hi : i < l.length) : ∃ b o x, p = some ⟨b, o, none⟩ ∧ l[i]? = some x ∧ ∀ c v, (enc x)[c]? = some v → w.cell? ⟨b, o + i * k + c, none⟩ = some v := by
 obtain ⟨b, o, hp, hc⟩ := h (by omega)
 have hx : l[i]? = some l[i] := List.getElem?_eq_getElem hi
 exact ⟨b, o, l[i], hp, hx, hc i _ hx⟩
theorem flatMap_at {α : Type} {enc : α → List Value} {k : Nat} (hk : ∀ x, (enc x).length = k) : ∀ (l : List α) (i c : Nat) (x : α), l[i]? = some x → c < k → (l.flatMap enc)[i * k + c]? = (enc x)[c]?
 | [], i, c, x, h, _ => by simp at h
 | y :: l, 0, c, x, h, hc => by
  simp at h; subst h
  rw [List.flatMap_cons, List.getElem?_append_left (by rw [hk]; omega)]
  congr 1; omega
 | y :: l, i + 1, c, x, h, hc => by
  have := flatMap_at hk l i c x (by simpa using h) hc
  rw [List.flatMap_cons, List.getElem?_append_right (by rw [hk, Nat.add_mul]; omega), hk, ← this]
  congr 1; rw [Nat.add_mul]; omega
theorem flatMap_len {α : Type} {enc : α → List Value} {k : Nat} (hk : ∀ x, (enc x).length = k) : ∀ l : List α, (l.flatMap enc).length = l.length * k
 | [] => by simp
 | y :: l => by rw [List.flatMap_cons, List.length_append, hk, flatMap_len hk l, List.length_cons, Nat.add_mul]; omega
theorem EncAt.of_flat (hk : ∀ x, (enc x).length = k) {g : Nat} (h : ∀ j u, (l.flatMap enc)[j]? = some u → w.cell? ⟨g, j, none⟩ = some u) : EncAt k enc w (some ⟨g, 0, none⟩) l := fun _ =>
 ⟨g, 0, rfl, fun i x hx c v hv => by
  have hc : c < k := by rw [← hk x]; exact (List.getElem?_eq_some_iff.1 hv).1
  have := h _ _ ((flatMap_at hk l i c x hx hc).trans hv)
  simpa using this⟩
theorem EncAt.lit (hk : ∀ x, (enc x).length = k) {t : TypeId} (l : List α) : EncAt k enc (w.alloc (.cells (l.flatMap enc).toArray t)) (some ⟨w.heap.size, 0, none⟩) l :=
 EncAt.of_flat hk fun j u hu => by rw [cell_new]; simpa using hu
theorem EncAt.of_own (hk : ∀ x, (enc x).length = k) (h0 : 0 < k) {base : Nat} {e : TypeId} {n cap : Nat} (h : w.ownsRow base e k (.slice p n cap) n (l.flatMap enc)) : EncAt k enc w p l := fun hl => by
 have hn : l.length * k = n * k := by have h1 := h.1; rwa [flatMap_len hk] at h1
 have hn' : l.length = n := Nat.eq_of_mul_eq_mul_right h0 hn
 rcases h.2 with ⟨hv, h0⟩ | ⟨g, cap', cur, hv, _, hh, _⟩
 ·omega
 ·injection hv with h1 h2 h3
  subst h1
  refine EncAt.of_flat hk (fun j u hu => ?_) hl
  have := h.cells (g := g) rfl j u hu
  rw [Addr.add_lit] at this
  simpa using this
end
def Blk (w : World) (g : Nat) (cs : Array Value) (t : TypeId) : Prop := w.heap[g]? = some (.cells cs t (0, 0))
section
variable {w w' : World} {g : Nat} {t : TypeId} {cs : Array Value}
theorem Blk.lt (h : Blk w g cs t) : g < w.heap.size := by
 rcases Nat.lt_or_ge g w.heap.size with hlt | hge
 ·exact hlt
 ·unfold Blk at h; rw [Array.getElem?_eq_none hge] at h; cases h
theorem Blk.cell (h : Blk w g cs t) {k : Nat} {v : Value} (hv : cs[k]? = some v) : w.cell? ⟨g, k, none⟩ = some v := (cell_of_row w g k cs t (0, 0) h).trans hv
theorem Blk.free (h : Blk w g cs t) (i : Nat) : w.frozen? ⟨g, i, none⟩ = false := by
 unfold Blk at h
 simp [World.frozen?, h]
theorem Blk.new (w : World) (t : TypeId) (cs : Array Value) : Blk (w.alloc (.cells cs t)) w.heap.size cs t := heap_alloc_new w _
theorem Blk.new_at {w : World} {g : Nat} {cs : Array Value} {t : TypeId} (h : g = w.heap.size) : Blk (w.alloc (.cells cs t)) g cs t := by subst h; exact Blk.new _ _ _
theorem Blk.same (h : Blk w g cs t) (hb : w'.heap[g]? = w.heap[g]?) : Blk w' g cs t := hb.trans h
theorem Blk.next (h : Blk w g cs t) (hb : Below w.heap.size w w') : Blk w' g cs t := h.same (hb.block g h.lt)
theorem Blk.drew (h : Blk w g cs t) : Blk w.drew g cs t := h
theorem Blk.drewN (h : Blk w g cs t) (n : Nat) : Blk (w.drewN n) g cs t := h
theorem Blk.alloc (h : Blk w g cs t) (o : Obj) : Blk (w.alloc o) g cs t := (Below.heap_alloc w o g h.lt).trans h
theorem Blk.set (h : Blk w g cs t) (i : Nat) (u : Value) : Blk (w.setCell ⟨g, i, none⟩ u) g (cs.setIfInBounds i u) t := by
 unfold Blk at h ⊢
 simp [World.setCell, Array.getElem?_modify, h]
theorem Blk.far (h : Blk w g cs t) {p : Addr} (hp : g ≠ p.block) (u : Value) : Blk (w.setCell p u) g cs t := (Below.heap_setCell w p u g hp).trans h
theorem Blk.below {B : Nat} (h : Blk w g cs t) (hb : Below B w w') (hg : g < B) : Blk w' g cs t := (hb.block g hg).trans h
theorem Blk.grown {row : Option Nat} (h : Blk w g cs t) (hb : w.grownBy w' row) (hg : some g ≠ row) : Blk w' g cs t := (hb.block g h.lt hg).trans h
theorem Blk.kpb {bad : World → Nat → Prop} (h : Blk w g cs t) (hk : Kpb bad w w') (hb : ¬ bad w g) : Blk w' g cs t := h.same (hk.2 g h.lt hb).1
theorem Blk.bump {B : Nat} (h : Blk w g cs t) (hk : Bump B w w') : Blk w' g cs t := by
 obtain ⟨r, o, _, hr, ho, hg⟩ := hk
 refine h.grown hg (fun e => ?_)
 injection e with e; subst e
 unfold Blk at h; rw [hr] at h; injection h with h; subst h; cases ho
theorem Blk.ne_ {g' : Nat} {t' : TypeId} {cs' : Array Value} (h : Blk w g cs t) (h' : Blk w g' cs' t') (hne : t ≠ t') : g ≠ g' := by
 rintro rfl
 unfold Blk at h h'
 rw [h] at h'
 injection h' with h'
 injection h' with _ ht
 exact hne ht
end
theorem lt_of_block {w : World} {b : Nat} {o : Obj} (h : w.heap[b]? = some o) : b < w.heap.size := (Array.getElem?_eq_some_iff.1 h).1
def StrsAt (w : World) (p : Option Addr) (l : List ByteArray) : Prop := EncAt 1 (fun s => [Value.string s]) w p l ∧ (∀ s ∈ l, s.size ≤ maxLen) ∧ l.length ≤ maxLen
theorem StrsAt.keep {w w' : World} {p : Option Addr} {l : List ByteArray} (hk : Keeps w w') (h : StrsAt w p l) : StrsAt w' p l := ⟨h.1.keep hk, h.2⟩
theorem StrsAt.nil {w : World} {p : Option Addr} : StrsAt w p [] := ⟨EncAt.nil, by simp, by decide⟩
theorem StrsAt.at_ {w : World} {p : Option Addr} {l : List ByteArray} (h : StrsAt w p l) {i : Nat} (hi : i < l.length) : ∃ b o s, p = some ⟨b, o, none⟩ ∧ l[i]? = some s ∧ w.cell? ⟨b, o + i, none⟩ = some (.string s) ∧ s.size ≤ maxLen := by
 obtain ⟨b, o, s, hp, hs, hc⟩ := h.1.at_ hi
 have := hc 0 _ rfl
 simp only [Nat.mul_one, Nat.add_zero] at this
 exact ⟨b, o, s, hp, hs, this, h.2.1 s (List.mem_of_getElem? hs)⟩
abbrev BoolsAt := EncAt 1 (fun b : Bool => [Value.bool b])
theorem EncAt.bool {w : World} {p : Option Addr} {l : List Bool} (h : BoolsAt w p l) {i : Nat} (hi : i < l.length) : ∃ b o x, p = some ⟨b, o, none⟩ ∧ l[i]? = some x ∧ w.cell? ⟨b, o + i, none⟩ = some (.bool x) := by
 obtain ⟨b, o, s, hp, hs, hc⟩ := h.at_ hi
 have := hc 0 _ rfl
 simp only [Nat.mul_one, Nat.add_zero] at this
 exact ⟨b, o, s, hp, hs, this⟩
def Cal.cells (c : Cal) : List Value := [.int .i64 c.zone, .slice c.wp c.week.length c.wc, .slice c.hp c.hol.length c.hc]
def Off.cells (o : Off) : List Value := [.string o.name, .int .i64 o.operator, .int .i64 o.calendar, .int .i64 o.pockets, .int .i64 o.passes, .int .i64 o.minutes, .slice o.cp o.codes.length o.cc]
def Lin.cells (l : Lin) : List Value := [.string l.name, .int .i64 l.src, .int .i64 l.dst, .int .i64 l.at_, .int .i64 l.travel, .int .i64 l.load]
def Cls.cells (c : Cls) : List Value := [.string c.name, .int .i64 c.cut, .int .i64 c.deliver]
def I64 (x : Int) : Prop := -9223372036854775808 ≤ x ∧ x ≤ 9223372036854775807
structure CalAt (w : World) (c : Cal) : Prop where
 week : BoolsAt w c.wp c.week
 hol : IntsAt .i64 w c.hp c.hol
 wl : c.week.length ≤ maxLen
 hl : c.hol.length ≤ maxLen
 zone : I64 c.zone
 days : ∀ x ∈ c.hol, I64 x
theorem CalAt.keep {w w' : World} {c : Cal} (hk : Keeps w w') (h : CalAt w c) : CalAt w' c := ⟨h.week.keep hk, h.hol.keep hk, h.wl, h.hl, h.zone, h.days⟩
structure OffAt (w : World) (o : Off) : Prop where
 codes : StrsAt w o.cp o.codes
 name : o.name.size ≤ maxLen
 nums : I64 o.operator ∧ I64 o.calendar ∧ I64 o.pockets ∧ I64 o.passes ∧ I64 o.minutes
theorem OffAt.keep {w w' : World} {o : Off} (hk : Keeps w w') (h : OffAt w o) : OffAt w' o := ⟨h.codes.keep hk, h.name, h.nums⟩
def LinR (l : Lin) : Prop := l.name.size ≤ maxLen ∧ I64 l.src ∧ I64 l.dst ∧ I64 l.at_ ∧ I64 l.travel ∧ I64 l.load
def ClsR (c : Cls) : Prop := c.name.size ≤ maxLen ∧ I64 c.cut ∧ I64 c.deliver
abbrev CalsAt := EncAt 3 Cal.cells
abbrev OffsAt := EncAt 7 Off.cells
abbrev LinsAt := EncAt 6 Lin.cells
abbrev ClssAt := EncAt 3 Cls.cells
def Net.cells (N : Net) : Array Value := #[.slice N.cp N.cals.length N.cc, .slice N.np N.names.length N.nc, .slice N.op N.oprs.length N.oc, .slice N.fp N.offs.length N.fc, .slice N.lp N.lins.length N.lc, .slice N.kp N.clss.length N.kc]
structure NetAt (w : World) (N : Net) : Prop where
 cals : CalsAt w N.cp N.cals
 cal : ∀ c ∈ N.cals, CalAt w c
 names : StrsAt w N.np N.names
 oprs : StrsAt w N.op N.oprs
 offs : OffsAt w N.fp N.offs
 off : ∀ o ∈ N.offs, OffAt w o
 lins : LinsAt w N.lp N.lins
 lin : ∀ l ∈ N.lins, LinR l
 clss : ClssAt w N.kp N.clss
 cls : ∀ c ∈ N.clss, ClsR c
 len : N.cals.length ≤ maxLen ∧ N.offs.length ≤ maxLen ∧ N.lins.length ≤ maxLen ∧ N.clss.length ≤ maxLen
theorem NetAt.keep {w w' : World} {N : Net} (hk : Keeps w w') (h : NetAt w N) : NetAt w' N :=
 ⟨h.cals.keep hk, fun c hc => (h.cal c hc).keep hk, h.names.keep hk, h.oprs.keep hk, h.offs.keep hk, fun c hc => (h.off c hc).keep hk, h.lins.keep hk, h.lin, h.clss.keep hk, h.cls, h.len⟩
theorem NetAt.next {w w' : World} {N : Net} (h : NetAt w N) (hb : Below w.heap.size w w') : NetAt w' N := h.keep (Keeps.of_below hb)
theorem getD_some {α : Type} {l : List α} {i : Nat} {x d : α} (h : l[i]? = some x) : l.getD i d = x := by rw [List.getD_eq_getElem?_getD, h]; rfl
section
variable {w : World} {N : Net}
theorem NetAt.cal_ (h : NetAt w N) {i : Nat} (hi : i < N.cals.length) : ∃ b o c, N.cp = some ⟨b, o, none⟩ ∧ N.cals[i]? = some c ∧ CalAt w c ∧
  w.cell? ⟨b, o + i * 3, none⟩ = some (.int .i64 c.zone) ∧ w.cell? ⟨b, o + i * 3 + 1, none⟩ = some (.slice c.wp c.week.length c.wc) ∧ w.cell? ⟨b, o + i * 3 + 2, none⟩ = some (.slice c.hp c.hol.length c.hc) := by
 obtain ⟨b, o, x, hp, hx, hc⟩ := h.cals.at_ hi
 exact ⟨b, o, x, hp, hx, h.cal x (List.mem_of_getElem? hx), hc 0 _ rfl, hc 1 _ rfl, hc 2 _ rfl⟩
theorem NetAt.off_ (h : NetAt w N) {i : Nat} (hi : i < N.offs.length) : ∃ b o x, N.fp = some ⟨b, o, none⟩ ∧ N.offs[i]? = some x ∧ OffAt w x ∧
  w.cell? ⟨b, o + i * 7, none⟩ = some (.string x.name) ∧ w.cell? ⟨b, o + i * 7 + 1, none⟩ = some (.int .i64 x.operator) ∧ w.cell? ⟨b, o + i * 7 + 2, none⟩ = some (.int .i64 x.calendar) ∧
  w.cell? ⟨b, o + i * 7 + 3, none⟩ = some (.int .i64 x.pockets) ∧ w.cell? ⟨b, o + i * 7 + 4, none⟩ = some (.int .i64 x.passes) ∧ w.cell? ⟨b, o + i * 7 + 5, none⟩ = some (.int .i64 x.minutes) ∧ w.cell? ⟨b, o + i * 7 + 6, none⟩ = some (.slice x.cp x.codes.length x.cc) := by
 obtain ⟨b, o, x, hp, hx, hc⟩ := h.offs.at_ hi
 exact ⟨b, o, x, hp, hx, h.off x (List.mem_of_getElem? hx), hc 0 _ rfl, hc 1 _ rfl, hc 2 _ rfl, hc 3 _ rfl, hc 4 _ rfl, hc 5 _ rfl, hc 6 _ rfl⟩
theorem NetAt.lin_ (h : NetAt w N) {i : Nat} (hi : i < N.lins.length) : ∃ b o x, N.lp = some ⟨b, o, none⟩ ∧ N.lins[i]? = some x ∧ LinR x ∧
  w.cell? ⟨b, o + i * 6, none⟩ = some (.string x.name) ∧ w.cell? ⟨b, o + i * 6 + 1, none⟩ = some (.int .i64 x.src) ∧ w.cell? ⟨b, o + i * 6 + 2, none⟩ = some (.int .i64 x.dst) ∧
  w.cell? ⟨b, o + i * 6 + 3, none⟩ = some (.int .i64 x.at_) ∧ w.cell? ⟨b, o + i * 6 + 4, none⟩ = some (.int .i64 x.travel) ∧ w.cell? ⟨b, o + i * 6 + 5, none⟩ = some (.int .i64 x.load) := by
 obtain ⟨b, o, x, hp, hx, hc⟩ := h.lins.at_ hi
 exact ⟨b, o, x, hp, hx, h.lin x (List.mem_of_getElem? hx), hc 0 _ rfl, hc 1 _ rfl, hc 2 _ rfl, hc 3 _ rfl, hc 4 _ rfl, hc 5 _ rfl⟩
theorem NetAt.cls_ (h : NetAt w N) {i : Nat} (hi : i < N.clss.length) : ∃ b o x, N.kp = some ⟨b, o, none⟩ ∧ N.clss[i]? = some x ∧ ClsR x ∧
  w.cell? ⟨b, o + i * 3, none⟩ = some (.string x.name) ∧ w.cell? ⟨b, o + i * 3 + 1, none⟩ = some (.int .i64 x.cut) ∧ w.cell? ⟨b, o + i * 3 + 2, none⟩ = some (.int .i64 x.deliver) := by
 obtain ⟨b, o, x, hp, hx, hc⟩ := h.clss.at_ hi
 exact ⟨b, o, x, hp, hx, h.cls x (List.mem_of_getElem? hx), hc 0 _ rfl, hc 1 _ rfl, hc 2 _ rfl⟩
end
def KwAt (w : World) : Prop := 2 < w.heap.size ∧ ∀ (k : Nat) (s : List UInt8), kwL[k]? = some s → w.cell? ⟨2, k, none⟩ = some (.string ⟨s.toArray⟩)
theorem KwAt.next {w w' : World} (h : KwAt w) (hb : Below w.heap.size w w') : KwAt w' := ⟨Nat.lt_of_lt_of_le h.1 hb.size, fun k s hk => cell_later hb (h.2 k s hk)⟩
end
section
open Go.RowKit
theorem app_where {P : Program} (w : World) (base : Nat) (t ty e : TypeId) (i : TypeInfo) (z : Value) (size bytes : Nat) (ht : P.underlying t = some (.slice e)) (hi : P.info? e = some i) (hz : i.zero = some z)
  (hsize : i.size = size) (hby : i.bytes = bytes) (hzs : z.cells.size = size) (hsz : 0 < size)
  (v : Value) (n : Nat) (xs : List Value) (hown : w.ownsRow base e size v n xs)
  (a : Addr) (m c : Nat) (news : List Value) (hl : news.length = m * size) (hnews : ∀ j u, news[j]? = some u → w.cell? (a.add j) = some u) (h1 : ∀ u ∈ news, u.oneCell' = true)
  (h63 : n + m ≤ maxLen) (hbytes : (n + m) * bytes ≤ 140737488355328) (v' : Value) (w' : World)
  (hr : (Builtin.append_ #[t, t] ty #[v, .slice (some a) m c]).run P w = .ok v' w') : v'.ownBlock = v.ownBlock ∨ ∀ k, v'.ownBlock = some k → w.heap.size ≤ k := by
 subst hsize
 subst hby
 rcases hown.2 with ⟨rfl, rfl⟩ | ⟨g, cap, cur, rfl, hbg, hg, hnc, hcm, hcs, htake⟩
 ·have hx : xs = [] := List.eq_nil_of_length_eq_zero (by simpa using hown.1)
  subst hx
  obtain ⟨v2, w2, h2, h3, _, _⟩ := run_append_own (P := P) w w.heap.size t ty e i z i.size i.bytes ht hi hz rfl rfl hzs hsz (.slice none 0 0) 0 [] (World.ownsRow_nil _ _ _ _) a m c news hl hnews h1 h63 hbytes (Nat.le_refl _)
  rw [hr] at h2
  injection h2 with h2 h4
  subst h2
  exact .inr fun k hk => (h3.lt k hk).1
 ·by_cases hroom : n + m ≤ cap
  ·have hfit : n * i.size + news.length ≤ cur.size := by rw [hl, hcs, ← Nat.add_mul]; exact Nat.mul_le_mul_right _ hroom
   have h2 := run_append_room (P := P) w t ty e i ht hi g n cap cur hg a m c news hl hnews h1 hroom hfit
   rw [hr] at h2
   injection h2 with h2 _
   subst h2
   exact .inl rfl
  ·have holds : ∀ j u, xs[j]? = some u → w.cell? ((⟨g, 0, none⟩ : Addr).add j) = some u := hown.cells (g := g) rfl
   have h2 := run_append_grow (P := P) w t ty e i z ht hi hz ⟨g, 0, none⟩ n cap xs hown.1 holds a m c news hl hnews (by omega) (by simp only [maxLen] at h63; omega) (growslice_fits (by omega) hbytes)
   rw [hr] at h2
   injection h2 with h2 _
   subst h2
   exact .inr fun k hk => by injection hk with hk; exact Nat.le_of_eq hk
theorem wpList_append_where {P : Program} {w : World} {ops : Array Oper} {rest : List Oper} {o : Oper} {a : Act} {Q : Exit → Act → World → Prop} (hgd : o.guard = none) (s x : Operand) (t : TypeId)
  (ho : o.op = .call { callee := .builtin .append, args := #[s, x], argTypes := #[t, t] })
  (base : Nat) (e : TypeId) (i : TypeInfo) (z : Value) (size bytes : Nat) (ht : P.underlying t = some (.slice e)) (hi : P.info? e = some i) (hz : i.zero = some z)
  (hsize : i.size = size) (hby : i.bytes = bytes) (hzs : z.cells.size = size) (hsz : 0 < size)
  (v : Value) (n : Nat) (xs : List Value) (hs : a.eval s = v) (hown : w.ownsRow base e size v n xs)
  (ad : Addr) (m c : Nat) (news : List Value) (hx : a.eval x = .slice (some ad) m c) (hl : news.length = m * size) (hnews : ∀ j u, news[j]? = some u → w.cell? (ad.add j) = some u) (h1 : ∀ u ∈ news, u.oneCell' = true)
  (h63 : n + m ≤ maxLen) (hbytes : (n + m) * bytes ≤ 140737488355328) (hbase : base ≤ w.heap.size)
  (h : ∀ v' w', w'.ownsRow base e size v' (n + m) (xs ++ news) → w.grownBy w' v.ownBlock → (v'.ownBlock = v.ownBlock ∨ ∀ k, v'.ownBlock = some k → w.heap.size ≤ k) → wpList P ops Q rest (a.put o.dst v') w') : wpList P ops Q (o :: rest) a w :=
 wpList_plain hgd fun K hK => by
  obtain ⟨v', w', hr, h2, h3, h4⟩ := run_append_own (P := P) w base t o.type e i z size bytes ht hi hz hsize hby hzs hsz v n xs hown ad m c news hl hnews h1 h63 hbytes hbase
  have hw := app_where w base t o.type e i z size bytes ht hi hz hsize hby hzs hsz v n xs hown ad m c news hl hnews h1 h63 hbytes v' w' hr
  unfold Oper.wp execOp
  simp only [ho, resolve, invoke, builtin, Sem.run_bind, Sem.run_pure, Result.andThen_ok, List.map_toArray, List.map_cons, List.map_nil, hs, hx, hr]
  exact hK _ _ (h v' w' h2 h3 hw)
theorem own_below {w w' : World} {base : Nat} {e : TypeId} {size n : Nat} {v : Value} {xs : List Value} (h : w.ownsRow base e size v n xs) (hb : Below w.heap.size w w') : w'.ownsRow base e size v n xs :=
 h.kept (row := none) ⟨hb.os, hb.tape, hb.output, hb.size, fun k hk _ => hb.block k hk⟩ (by cases v.ownBlock <;> simp)
theorem wp_where {P : Program} {w : World} {o : Oper} {a : Act} {K : Act → World → Prop} {Q : Exit → Act → World → Prop} (s x : Operand) (t : TypeId)
  (ho : o.op = .call { callee := .builtin .append, args := #[s, x], argTypes := #[t, t] })
  (base : Nat) (e : TypeId) (i : TypeInfo) (z : Value) (size bytes : Nat) (ht : P.underlying t = some (.slice e)) (hi : P.info? e = some i) (hz : i.zero = some z)
  (hsize : i.size = size) (hby : i.bytes = bytes) (hzs : z.cells.size = size) (hsz : 0 < size)
  (v : Value) (n : Nat) (xs : List Value) (hs : a.eval s = v) (hown : w.ownsRow base e size v n xs)
  (ad : Addr) (m c : Nat) (news : List Value) (hx : a.eval x = .slice (some ad) m c) (hl : news.length = m * size) (hnews : ∀ j u, news[j]? = some u → w.cell? (ad.add j) = some u) (h1 : ∀ u ∈ news, u.oneCell' = true)
  (h63 : n + m ≤ maxLen) (hbytes : (n + m) * bytes ≤ 140737488355328) (hbase : base ≤ w.heap.size)
  (h : ∀ v' w', w'.ownsRow base e size v' (n + m) (xs ++ news) → w.grownBy w' v.ownBlock → (v'.ownBlock = v.ownBlock ∨ ∀ k, v'.ownBlock = some k → w.heap.size ≤ k) → K (a.put o.dst v') w') : o.wp P a w K Q := by
 obtain ⟨v', w', hr, h2, h3, h4⟩ := run_append_own (P := P) w base t o.type e i z size bytes ht hi hz hsize hby hzs hsz v n xs hown ad m c news hl hnews h1 h63 hbytes hbase
 have hw := app_where w base t o.type e i z size bytes ht hi hz hsize hby hzs hsz v n xs hown ad m c news hl hnews h1 h63 hbytes v' w' hr
 unfold Oper.wp execOp
 simp only [ho, resolve, invoke, builtin, Sem.run_bind, Sem.run_pure, Result.andThen_ok, List.map_toArray, List.map_cons, List.map_nil, hs, hx, hr]
 exact h v' w' h2 h3 hw
theorem step_where {P : Program} {w : World} {ops : Array Oper} {o : Oper} {a : Act} {K : Act → World → Prop} {Q : Exit → Act → World → Prop} {E : Prop} (hgd : o.guard = none) (s x : Operand) (t : TypeId)
  (ho : o.op = .call { callee := .builtin .append, args := #[s, x], argTypes := #[t, t] })
  (base : Nat) (e : TypeId) (i : TypeInfo) (z : Value) (size bytes : Nat) (ht : P.underlying t = some (.slice e)) (hi : P.info? e = some i) (hz : i.zero = some z)
  (hsize : i.size = size) (hby : i.bytes = bytes) (hzs : z.cells.size = size) (hsz : 0 < size)
  (v : Value) (n : Nat) (xs : List Value) (hs : a.eval s = v) (hown : w.ownsRow base e size v n xs)
  (ad : Addr) (m c : Nat) (news : List Value) (hx : a.eval x = .slice (some ad) m c) (hl : news.length = m * size) (hnews : ∀ j u, news[j]? = some u → w.cell? (ad.add j) = some u) (h1 : ∀ u ∈ news, u.oneCell' = true)
  (h63 : n + m ≤ maxLen) (hbytes : (n + m) * bytes ≤ 140737488355328) (hbase : base ≤ w.heap.size)
  (h : ∀ v' w', w'.ownsRow base e size v' (n + m) (xs ++ news) → w.grownBy w' v.ownBlock → (v'.ownBlock = v.ownBlock ∨ ∀ k, v'.ownBlock = some k → w.heap.size ≤ k) → K (a.put o.dst v') w') : if Region.wanted o (yielded ops a.tmps) = true then Oper.wp P o a w K Q else E := by
 rw [if_pos (by simp [Region.wanted, hgd])]
 exact wp_where s x t ho base e i z size bytes ht hi hz hsize hby hzs hsz v n xs hs hown ad m c news hx hl hnews h1 h63 hbytes hbase h
theorem Src.lit {w : World} {t : TypeId} {cs : List Value} {n : Nat} (hn : n = w.heap.size) (k : Nat) (hk : cs.length = k) : Src (w.alloc (.cells cs.toArray t)) (some ⟨n, 0, none⟩) 1 k cs :=
 ⟨by omega, fun _ => ⟨_, rfl, fun j u hu => by rw [Addr.add_lit, Nat.zero_add]; exact (Blk.new_at hn).cell (by simpa using hu)⟩⟩
theorem own_ne_blk {w : World} {base : Nat} {e : TypeId} {size n : Nat} {v : Value} {xs : List Value} {g : Nat} {cs : Array Value} {t : TypeId} (h : w.ownsRow base e size v n xs) (hg : Blk w g cs t) (hne : e ≠ t) : some g ≠ v.ownBlock := by
 rcases h.2 with ⟨rfl, _⟩ | ⟨g', cap, cur, rfl, _, hh, _⟩
 ·simp [Value.ownBlock]
 ·intro he
  have : g = g' := by simpa [Value.ownBlock] using he
  subst this
  exact Blk.ne_ (t := e) hh hg hne rfl
theorem run_store_func {P : Program} {w : World} {a : Addr} {m : Mode} (f : Fn) (x y : Array Value) : (store a (.func f x y) m).run P w = stored P w a (.func f x y) m := run_store P w a _ m rfl
end
section
open Go.RowKit
structure MLaw (κ : Type) [DecidableEq κ] (T kt et : TypeId) (sv : κ → Value) (z : Value) : Prop where
 und : ∀ w, (underlying T).run Tryz.prog w = .ok (.map kt et) w
 kd : ∃ D, (∀ w, (underlying kt).run Tryz.prog w = .ok D w) ∧ ∀ x y, Instr.sameNow D (sv x) (sv y) = some (decide (x = y))
 chk : ∀ b x w, (Instr.checkKey b 10000 kt (sv x)).run Tryz.prog w = .ok () w
 zero : ∀ w, (zeroValue et).run Tryz.prog w = .ok z w
 bits : ∀ x, Instr.sameBits 10000 (sv x) (sv x) = true
section
variable {κ : Type} {sv : κ → Value}
def MpAt (sv : κ → Value) (w : World) (b : Nat) (L : List (κ × Value)) : Prop := ∃ es clock, w.heap[b]? = some (.map es clock) ∧ es.toList.map (fun e => (e.key, e.val)) = L.map (fun e => (sv e.1, e.2))
theorem MpAt.lt {w : World} {b : Nat} {L : List (κ × Value)} (h : MpAt sv w b L) : b < w.heap.size := by
 obtain ⟨es, c, h1, _⟩ := h; exact lt_of_block h1
theorem MpAt.block {w w' : World} {b : Nat} {L : List (κ × Value)} (h : MpAt sv w b L) (hb : w'.heap[b]? = w.heap[b]?) : MpAt sv w' b L := by
 obtain ⟨es, c, h1, h2⟩ := h; exact ⟨es, c, hb.trans h1, h2⟩
theorem MpAt.next {w w' : World} {b : Nat} {L : List (κ × Value)} (h : MpAt sv w b L) (hb : Below w.heap.size w w') : MpAt sv w' b L := h.block (hb.block b h.lt)
theorem MpAt.set {w : World} {b : Nat} {L : List (κ × Value)} (h : MpAt sv w b L) {a : Addr} (ha : a.block ≠ b) (v : Value) : MpAt sv (w.setCell a v) b L := h.block (Below.heap_setCell _ _ _ _ (fun e => ha e.symm))
theorem MpAt.new (w : World) : MpAt sv (w.alloc (.map #[] 0)) w.heap.size ([] : List (κ × Value)) := ⟨#[], 0, by show (w.heap.push _)[w.heap.size]? = _; simp, rfl⟩
end
theorem beqB (x y : ByteArray) : (x == y) = true ↔ x = y := by
 obtain ⟨a⟩ := x; obtain ⟨b⟩ := y
 have e : (({ data := a } : ByteArray) == { data := b }) = (a == b) := rfl
 rw [e]
 simp
theorem bytes_beq (x y : ByteArray) : (x == y) = decide (x = y) := by
 rw [Bool.eq_iff_iff]; simp only [decide_eq_true_eq]
 exact beqB x y
section
variable {κ : Type} [DecidableEq κ] {T kt et : TypeId} {sv : κ → Value} {z : Value}
def findL : List (κ × Value) → κ → Nat → Option (Nat × Value)
 | [], _, _ => none
 | (k, v) :: t, x, i => if x = k then some (i, v) else findL t x (i + 1)
theorem findNow_is {D : TypeDesc} (hD : ∀ x y, Instr.sameNow D (sv x) (sv y) = some (decide (x = y))) (x : κ) : ∀ (es : List MapEntry) (L : List (κ × Value)) (i : Nat), es.map (fun e => (e.key, e.val)) = L.map (fun e => (sv e.1, e.2)) →
  Instr.findNow D (sv x) es i = some (findL L x i)
 | [], [], i, _ => rfl
 | [], _ :: _, _, h => by cases h
 | _ :: _, [], _, h => by cases h
 | e :: es, (k, v) :: L, i, h => by
  simp only [List.map_cons, List.cons.injEq, Prod.mk.injEq] at h
  obtain ⟨⟨h1, h2⟩, h3⟩ := h
  rw [Instr.findNow, h1, hD, findL]
  by_cases hx : x = k
  ·simp [hx, h2]
  ·simp only [hx, decide_false, if_false]
   exact findNow_is hD x es L (i + 1) h3
theorem MLaw.find (M : MLaw κ T kt et sv z) (x : κ) (w : World) (es : List MapEntry) (L : List (κ × Value)) (h : es.map (fun e => (e.key, e.val)) = L.map (fun e => (sv e.1, e.2))) :
  (Instr.findKey kt (sv x) es).run Tryz.prog w = .ok (findL L x 0) w := by
 obtain ⟨D, h1, h2⟩ := M.kd
 unfold Instr.findKey
 simp only [Sem.run_bind, h1, Result.andThen_ok, findNow_is h2 x es L 0 h]
 rfl
def find2 : List (κ × Value) → κ → Option Value
 | [], _ => none
 | (k, v) :: t, x => if x = k then some v else find2 t x
theorem findL_2 : ∀ (L : List (κ × Value)) (x : κ) (i : Nat), (findL L x i).map (·.2) = find2 L x
 | [], x, i => rfl
 | (k, v) :: t, x, i => by
  rw [findL, find2]
  split
  ·rfl
  ·exact findL_2 t x (i + 1)
theorem MpAt.lookup (M : MLaw κ T kt et sv z) {w : World} {b : Nat} {L : List (κ × Value)} (h : MpAt sv w b L) (x : κ) (c : Bool) : (Instr.lookup T (.map (some b)) (sv x) c).run Tryz.prog w =
  .ok (if c then .tuple #[(find2 L x).getD z, .bool (find2 L x).isSome] else (find2 L x).getD z) w := by
 obtain ⟨es, cl, hb, hL⟩ := h
 unfold Instr.lookup
 simp only [Sem.run_bind, M.und, Result.andThen_ok, MapKept.run_getObj_map hb, Sem.run_pure, M.chk, M.find x w es.toList L hL, ← findL_2 L x 0]
 cases findL L x 0 with
 | none => cases c <;> simp [M.zero, Result.andThen]
 | some r => cases c <;> simp
theorem findL_at : ∀ (L : List (κ × Value)) (x : κ) (i : Nat) (r : Nat × Value), findL L x i = some r → i ≤ r.1 ∧ L[r.1 - i]? = some (x, r.2)
 | [], x, i, r, h => by cases h
 | (k, v) :: t, x, i, r, h => by
  rw [findL] at h
  split at h
  ·rename_i e; injection h with h; subst h; subst e; simp
  ·obtain ⟨h1, h2⟩ := findL_at t x (i + 1) r h
   refine ⟨by omega, ?_⟩
   rw [show r.1 - i = (r.1 - (i + 1)) + 1 by omega, List.getElem?_cons_succ]; exact h2
def putL (L : List (κ × Value)) (x : κ) (p : Value) : List (κ × Value) := match findL L x 0 with
 | some r => L.set r.1 (x, p)
 | none => L ++ [(x, p)]
theorem putL_new {L : List (κ × Value)} {x : κ} {p : Value} (h : find2 L x = none) : putL L x p = L ++ [(x, p)] := by
 unfold putL
 cases hf : findL L x 0 with
 | none => rfl
 | some r => rw [← findL_2 L x 0, hf] at h; cases h
theorem MpAt.update (M : MLaw κ T kt et sv z) {w : World} {b : Nat} {L : List (κ × Value)} (h : MpAt sv w b L) (x : κ) (p : Value) : ∃ w', (Instr.mapUpdate T (.map (some b)) (sv x) p).run Tryz.prog w = .ok () w' ∧ MpAt sv w' b (putL L x p) ∧ w.grownBy w' (some b) ∧ w'.heap.size = w.heap.size := by
 have hlt := h.lt
 obtain ⟨es, cl, hb, hL⟩ := h
 unfold Instr.mapUpdate putL
 simp only [Sem.run_bind, M.und, Result.andThen_ok, MapKept.run_getObj_map hb, Sem.run_pure, M.chk, M.find x w es.toList L hL]
 have hlen : es.size = L.length := by have := congrArg List.length hL; simpa using this
 have hset : ∀ o : Obj, w.grownBy (ChangeMaps.setBlock w b o) (some b) := fun o => ⟨rfl, rfl, rfl, by simp [ChangeMaps.setBlock], fun k hk hne => by
  show (w.heap.setIfInBounds b o)[k]? = _
  rw [Array.getElem?_setIfInBounds, if_neg (fun e => hne (by rw [e]))]⟩
 have hsz : ∀ o : Obj, (ChangeMaps.setBlock w b o).heap.size = w.heap.size := fun o => by simp [ChangeMaps.setBlock]
 have hget : ∀ o : Obj, (ChangeMaps.setBlock w b o).heap[b]? = some o := fun o => by
  show (w.heap.setIfInBounds b o)[b]? = _
  rw [Array.getElem?_setIfInBounds, if_pos rfl, if_pos hlt]
 cases hf : findL L x 0 with
 | none =>
  refine ⟨_, MapKept.run_setObj_map _ hb, ⟨_, _, hget _, ?_⟩, hset _, hsz _⟩
  simp only [Array.toList_push, List.map_append, List.map_cons, List.map_nil, hL]
 | some r =>
  obtain ⟨h1, h2⟩ := findL_at L x 0 r hf
  rw [Nat.sub_zero] at h2
  have hr : r.1 < es.size := by rw [hlen]; exact (List.getElem?_eq_some_iff.1 h2).1
  have hkey : (es[r.1]).key = sv x := by
   have := congrArg (fun l => l[r.1]?) hL
   simp only [List.getElem?_map, h2] at this
   rw [Array.getElem?_toList, Array.getElem?_eq_getElem hr] at this
   simp at this
   exact this.1
  have hst : (Instr.keyThatStays (sv x) (sv x)).run Tryz.prog w = .ok (sv x) w := by
   unfold Instr.keyThatStays
   rw [if_pos (M.bits x)]
   rfl
  simp only
  rw [Array.getElem?_eq_getElem hr]
  simp only [Option.map_some, Option.getD_some, hkey, Sem.run_bind, hst, Result.andThen_ok]
  refine ⟨_, MapKept.run_setObj_map _ hb, ⟨_, _, hget _, ?_⟩, hset _, hsz _⟩
  rw [Array.toList_modify, List.map_set, ← hL]
  apply List.ext_getElem?
  intro i
  rw [List.getElem?_map, List.getElem?_modify, List.getElem?_set, List.length_map]
  by_cases hi : r.1 = i
  ·subst hi
   rw [if_pos rfl, if_pos (by simpa using hr)]
   rw [Array.getElem?_toList, Array.getElem?_eq_getElem hr]
   simp
  ·rw [if_neg hi, List.getElem?_map]
   simp [hi]
end
theorem mlawL : MLaw ByteArray 249 9 4 (fun s => .string s) (.bool false) where
 und := fun w => by kernel_rfl
 kd := ⟨.string, fun w => by kernel_rfl, fun x y => by simp [Instr.sameNow, bytes_beq]⟩
 chk := fun b x w => by cases b <;> kernel_rfl
 zero := fun w => by kernel_rfl
 bits := fun x => by simp [Instr.sameBits, bytes_beq]
end
end Go.Proofs.YtgfhcmidnbahjaaGreatDoor
