/- Seals: with exactly one number replaced by another one, the seal is another; a certificate's numbers are small. The inspector: its small functions; reading numbers one after the other. strings.Builder: its writing methods at this dump (the panic's block is cut). warrant.Text: a certificate's text. -/
import Derived.Test.YtgfhcmidnbahjaaGreatDoorJ20
import Derived.Test.YtgfhcmidnbahjaaGreatDoorJ28
import Derived.Test.YtgfhcmidnbahjaaGreatDoorJ40
import Derived.Test.YtgfhcmidnbahjaaGreatDoorJ38
import Derived.Lib.LaidTab
import Derived.Lib.AppendIntMem
import Derived.Lib.ItoaMem
set_option linter.unusedVariables false
set_option linter.unusedSimpArgs false
namespace Go.Proofs.YtgfhcmidnbahjaaGreatDoor
section
open Go.RowKit
def Free (p : Int) : Prop := ∀ z : Int, z * p % 65521 = 0 → z % 65521 = 0
def Small (x : Int) : Prop := 0 ≤ x ∧ x ≤ 65519
end
section
open Go.RowKit Go.Shelf
attribute [local go_sem] Oper.semAt_some run_store_func
abbrev pnc (e : Int) : List PanicEntry := [{ v := .iface 43 (.int .i64 e), recovered := false }]
structure IcAt (b o : Nat) (c : Cal) (W : World) : Prop where
 z : W.cell? ⟨b, o, none⟩ = some (.int .i64 c.zone)
 wk : W.cell? ⟨b, o + 1, none⟩ = some (.slice c.wp c.week.length c.wc)
 hl : W.cell? ⟨b, o + 2, none⟩ = some (.slice c.hp c.hol.length c.hc)
 data : CalAt W c
theorem IcAt.next {b o : Nat} {c : Cal} {W W' : World} (h : IcAt b o c W) (hb : Below W.heap.size W W') : IcAt b o c W' := ⟨cell_later hb h.z, cell_later hb h.wk, cell_later hb h.hl, h.data.keep (Keeps.of_below hb)⟩
abbrev Sb (gr : Nat) (A B : World) : Prop := Kpb (fun _ k => k = gr) A B
theorem Sb.of_below {gr : Nat} {A B : World} (h : Below A.heap.size A B) : Sb gr A B := ⟨h.size, fun k hk hn => ⟨h.block k hk, hn⟩⟩
theorem Sb.seq {gr : Nat} {A B C : World} (h : Sb gr A B) (hb : Below B.heap.size B C) : Sb gr A C := h.trans (Sb.of_below hb)
def Sc (gr : Nat) (A B : World) : Prop := A.heap.size ≤ B.heap.size ∧ ∀ k o, k ≠ gr → A.heap[k]? = some o → o.isCells = true → B.heap[k]? = some o
theorem Sc.of_sb {gr : Nat} {A B : World} (h : Sb gr A B) : Sc gr A B := ⟨h.1, fun k o hn ho _ => (h.2 k (Array.getElem?_eq_some_iff.1 ho).1 hn).1.trans ho⟩
theorem Sc.refl (gr : Nat) (A : World) : Sc gr A A := ⟨Nat.le_refl _, fun _ _ _ h _ => h⟩
theorem Sc.trans {gr : Nat} {A B D : World} (h : Sc gr A B) (k : Sc gr B D) : Sc gr A D := ⟨Nat.le_trans h.1 k.1, fun j o hn ho hc => k.2 j o hn (h.2 j o hn ho hc) hc⟩
theorem Sc.below {gr : Nat} {A B : World} (h : Below A.heap.size A B) : Sc gr A B := .of_sb (.of_below h)
theorem Sc.own {gr B : Nat} {A D : World} {row : Option Nat} (hg : A.grownBy D row) (hr : ∀ r, row = some r → B ≤ r ∧ ∃ o : Obj, A.heap[r]? = some o ∧ o.isCells = false) : Sc gr A D :=
 ⟨hg.size, fun k o _ ho hc => (hg.block k (Array.getElem?_eq_some_iff.1 ho).1 (fun e => by
  obtain ⟨_, o', ho', hc'⟩ := hr k e.symm
  rw [ho] at ho'; injection ho' with ho'; subst ho'; rw [hc] at hc'; cases hc')).trans ho⟩
def scBad (gr : Nat) (A : World) (_ : World) (k : Nat) : Prop := k = gr ∨ ∃ o : Obj, A.heap[k]? = some o ∧ o.isCells = false
theorem Sc.kpb {gr : Nat} {A B : World} (h : Sc gr A B) : Kpb (scBad gr A) A B := ⟨h.1, fun k hk hn => ⟨by
 have ho : A.heap[k]? = some A.heap[k] := Array.getElem?_eq_getElem hk
 rw [ho]
 refine h.2 k _ (fun e => hn (.inl e)) ho ?_
 cases hc : A.heap[k].isCells with
 | true => rfl
 | false => exact absurd (.inr ⟨_, ho, hc⟩) hn, hn⟩⟩
structure RdS (w0 : World) (gr : Nat) (rest : List Int) (W : World) : Prop where
 below : Below w0.heap.size w0 W
 base : w0.heap.size ≤ gr
 row : ∃ p c, Blk W gr #[.slice p rest.length c] 160 ∧ rest.length ≤ c ∧ IntsAt .i64 w0 p rest
theorem RdS.next {w0 : World} {gr : Nat} {rest : List Int} {W W' : World} (h : RdS w0 gr rest W) (hb : Below W.heap.size W W') : RdS w0 gr rest W' := by
 obtain ⟨p, c, h1, h2, h3⟩ := h.row
 exact ⟨bseq h.below hb, h.base, p, c, h1.next hb, h2, h3⟩
theorem RdS.own {w0 : World} {gr B : Nat} {rest : List Int} {W W' : World} {row : Option Nat} (h : RdS w0 gr rest W) (hB : w0.heap.size ≤ B) (hg : W.grownBy W' row) (hr : ∀ r, row = some r → B ≤ r ∧ ∃ o : Obj, W.heap[r]? = some o ∧ o.isCells = false) : RdS w0 gr rest W' := by
 obtain ⟨p, c, h1, h2, h3⟩ := h.row
 exact ⟨below_own h.below hB hg hr, h.base, p, c, h1.own hg hr, h2, h3⟩
theorem RdS.step {w0 : World} {gr : Nat} {xs rest : List Int} {W : World} (h : RdS w0 gr xs W) {p' : Option Addr} {c' n : Nat} (hn : rest.length = n) (h2 : n ≤ c') (h3 : IntsAt .i64 w0 p' rest) :
  RdS w0 gr rest (W.setCell ⟨gr, 0, none⟩ (.slice p' n c')) ∧ Sb gr W (W.setCell ⟨gr, 0, none⟩ (.slice p' n c')) := by
 subst hn
 obtain ⟨p, c, k1, _, _⟩ := h.row
 refine ⟨⟨h.below.setCell (p := ⟨gr, 0, none⟩) h.base _, h.base, p', c', k1.set 0 _, h2, h3⟩, ((Below.refl 0 W).setCell (p := ⟨gr, 0, none⟩) (Nat.zero_le _) (.slice p' rest.length c')).size, fun k hk hne => ⟨Below.heap_setCell _ _ _ _ hne, hne⟩⟩
end
section
open Go.RowKit Go.Shelf
attribute [local go_sem] Oper.semAt_some run_store_func
abbrev BuI (B b : Nat) (bs : List Value) (w : World) : Prop := Lib.IsBuilder 140 5 B b bs w
end
section
open Go.RowKit Go.Shelf
attribute [local go_sem] Oper.semAt_some run_store_func
abbrev PowAt (w : World) : Prop := ∀ W, Below w.heap.size w W → Lib.TabIs Tryz.prog W "internal/strconv.uint64pow10" .u64 Lib.pow10Tab
theorem PowAt.next {w w' : World} (h : PowAt w) (hb : Below w.heap.size w w') : PowAt w' := fun W hW => h W (bseq hb hW)
def intsN (xs : List Nat) : List Int := xs.map fun (n : Nat) => (n : Int)
theorem intsN_len (xs : List Nat) : (intsN xs).length = xs.length := by unfold intsN; rw [List.length_map]
theorem intsN_at {xs : List Nat} {i n : Nat} (h : xs[i]? = some n) : (intsN xs)[i]? = some (n : Int) := by unfold intsN; rw [List.getElem?_map, h]; rfl
theorem BuI.next {B b : Nat} {bs : List Value} {w w' : World} (h : BuI B b bs w) (hb : Below w.heap.size w w') : BuI B b bs w' := by
 rcases h with ⟨hB, v, h1, h2, h3⟩ | ⟨hB, v, h1, h2, h3⟩
 ·exact .inl ⟨hB, v, (hb.block b (lt_of_block h1)).trans h1, own_below h2 hb, h3⟩
 ·exact .inr ⟨hB, v, (hb.block b (lt_of_block h1)).trans h1, own_below h2 hb, h3⟩
structure TxI (w2 : World) (B : Nat) (l : List UInt8) (W : World) : Prop where
 bu : BuI B B (Lib.byteCells l) W
 below : Below B w2 W
 le : B ≤ W.heap.size
theorem TxI.next {w2 W W' : World} {B : Nat} {l : List UInt8} (h : TxI w2 B l W) (hb : Below W.heap.size W W') : TxI w2 B l W' := ⟨h.bu.next hb, h.below.trans (hb.mono h.le), Nat.le_trans h.le hb.size⟩
end
end Go.Proofs.YtgfhcmidnbahjaaGreatDoor
