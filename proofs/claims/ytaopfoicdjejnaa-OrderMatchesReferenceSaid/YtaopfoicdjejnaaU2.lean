/- The reference's Holds: one event behind another, one leg behind another. The reference's Holds: the region that asks whether one of two legs is behind the other. The reference's Holds. -/
import Derived.Test.YtaopfoicdjejnaaC16
import Derived.Test.YtaopfoicdjejnaaC19
import Derived.Deep.RegionHeld3
set_option linter.unusedVariables false
set_option linter.unusedSimpArgs false
namespace Go.Proofs.Ytaopfoicdjejnaa
open Go.RowKit

/-- A quiet call behind draws. -/
theorem quiet_add_dr {P : Program} {f : FuncId} {args : Array Value} {w : World} {a n : Nat} {v : Value} (h : Calls P f args (w.drewN (a + n)) fun e w' => e = .returned v ∧ Dr (w.drewN (a + n)) w') :
    Calls P f args (w.drewN (a + n)) fun e w'' => e = .returned v ∧ ∃ m, w'' = w.drewN (a + m) :=
  h.mono fun _ _ ⟨he, d, hd⟩ => ⟨he, n + d, by rw [hd, World.drewN_drewN, Nat.add_assoc]⟩
set_option maxHeartbeats 1000000 in
theorem rbef_c {dp : Option Addr} {dc : Nat} {d : List (List Int)} {es : List Evt} {ls : List Lgr} {ts : List Int} {i j : Nat} {a b : Evt} {x y : Int} {v : Bool} {w : World} {R} (hT : HT d es ls ts) (hd : RowsAt w dp d) (hea : es[i]? = some a) (heb : es[j]? = some b) (hti : ts[i]? = some x) (htj : ts[j]? = some y)
    (hv : befB d es ts i j = v) (hR : R (.returned (.bool v)) w) : Calls Try.prog 35 #[.slice dp d.length dc, .int .i64 a.office, .int .i64 x, .int .i64 b.office, .int .i64 y] w R := by
  have hoa := hT.well.office a (List.mem_of_getElem? hea)
  have hob := hT.well.office b (List.mem_of_getElem? heb)
  have hfew := hT.well.dist.few
  obtain ⟨rb, ro, r, q, rc, rfl, hr, cr, hin, _⟩ := hd.at_ (i := a.office.toNat) (by omega)
  have hrl := (hT.well.dist.row r (List.mem_of_getElem? hr)).1
  obtain ⟨qb, qo, z, rfl, hz, cz⟩ := hin.at_ (i := b.office.toNat) (by omega)
  have hdz := dst_at hr hz
  have hrng := hT.well.dist.rng a.office.toNat b.office.toNat
  rw [hdz] at hrng
  have w1 := hT.win x (List.mem_of_getElem? hti)
  have w2 := hT.win y (List.mem_of_getElem? htj)
  have HV : v = decide (0 ≤ z ∧ z ≤ y - x) := by
    rw [← hv]
    unfold befB befE
    have e1 : (evF es i).office = a.office.toNat := by rw [evF_at hea]; rfl
    have e2 : (evF es j).office = b.office.toNat := by rw [evF_at heb]; rfl
    rw [e1, e2, hdz, tmF_at hti, tmF_at htj]
    by_cases h : 0 ≤ z ∧ z ≤ y - x <;> simp [h]
  have hoar : a.office < (d.length : Int) := hoa.2
  have hoa0 := hoa.1
  have hob0 := hob.1
  have hobr : b.office < (r.length : Int) := by omega
  have hrl2 : r.length ≤ 12 := by omega
  generalize a.office = oa at *
  generalize b.office = ob at *
  rw [HV] at hR
  have HR := hide hR
  clear hR hT hea heb hr hin hrl hz hdz hti htj hd hv HV hoa hob
  by_cases hx0 : 0 ≤ z
  · by_cases hy : z ≤ y - x
    · rw [decide_eq_true (show 0 ≤ z ∧ z ≤ y - x from ⟨hx0, hy⟩)] at HR
      go_enter Try.func35, Try.ntmps35
      go_wp2
      exact HR.out
    · rw [decide_eq_false (show ¬ (0 ≤ z ∧ z ≤ y - x) from fun h => hy h.2)] at HR
      have hy' : y - x < z := by omega
      go_enter Try.func35, Try.ntmps35
      go_wp2
      exact HR.out
  · rw [decide_eq_false (show ¬ (0 ≤ z ∧ z ≤ y - x) from fun h => hx0 h.1)] at HR
    go_enter Try.func35, Try.ntmps35
    go_wp2
    exact HR.out
/-- The event and the time with an index. -/
theorem ev_tm {d es ls ts} (hT : HT d es ls ts) {w : World} {ep tp : Option Addr} (he : EvsAt w ep es) (ht : IntsAt .i64 w tp ts) {i : Nat} (hi : i < es.length) : ∃ eb eo tb tn a x, ep = some ⟨eb, eo, none⟩ ∧ tp = some ⟨tb, tn, none⟩ ∧ es[i]? = some a ∧ ts[i]? = some x ∧
    w.cell? ⟨eb, eo + i * 4, none⟩ = some (.int .i64 a.office) ∧ w.cell? ⟨eb, eo + i * 4 + 1, none⟩ = some (.int .i64 a.low) ∧ w.cell? ⟨eb, eo + i * 4 + 2, none⟩ = some (.int .i64 a.high) ∧ w.cell? ⟨tb, tn + i, none⟩ = some (.int .i64 x) := by
  obtain ⟨eb, eo, a, h1, h2, c0, c1, c2, _⟩ := he.ev hi
  obtain ⟨tb, tn, x, h3, h4, c3⟩ := ht.at_ (i := i) (by rw [hT.len]; exact hi)
  exact ⟨eb, eo, tb, tn, a, x, h1, h3, h2, h4, c0, c1, c2, c3⟩
set_option maxHeartbeats 1000000 in
theorem rfollows_c {dp ep tp : Option Addr} {dc ec tc : Nat} {d : List (List Int)} {es : List Evt} {ls : List Lgr} {ts : List Int} {a1 ad bs bd : Nat} {ag bg : Int} {v : Bool} {w : World} {R} (hT : HT d es ls ts) (hd : RowsAt w dp d) (he : EvsAt w ep es) (ht : IntsAt .i64 w tp ts) (ha1 : a1 < es.length) (hbd : bd < es.length)
    (hv : befB d es ts bd a1 = v) (hR : ∀ w', Below w.heap.size w w' → R (.returned (.bool v)) w') : Calls Try.prog 36 #[.slice dp d.length dc, .slice ep es.length ec, .slice tp es.length tc, .agg #[.int .i64 (a1 : Int), .int .i64 (ad : Int), .int .i64 ag], .agg #[.int .i64 (bs : Int), .int .i64 (bd : Int), .int .i64 bg]] w R := by
  obtain ⟨eb, eo, tb, tn, a, x, rfl, rfl, h1, h2, a0, _, _, a3⟩ := ev_tm hT he ht hbd
  obtain ⟨eb2, eo2, tb2, tn2, b, y, h5, h6, h3, h4, b0, _, _, b3⟩ := ev_tm hT he ht ha1
  injection h5 with h5; injection h5 with z1 z2
  injection h6 with h6; injection h6 with z3 z4
  subst z1; subst z2; subst z3; subst z4
  have hfew := hT.well.few
  have hk := (Keeps.alloc w (.cells #[.int .i64 (a1 : Int), .int .i64 (ad : Int), .int .i64 ag] 39)).trans (Keeps.alloc _ (.cells #[.int .i64 (bs : Int), .int .i64 (bd : Int), .int .i64 bg] 39))
  have KA := (Blk.new w #[.int .i64 (a1 : Int), .int .i64 (ad : Int), .int .i64 ag] 39).alloc (.cells #[.int .i64 (bs : Int), .int .i64 (bd : Int), .int .i64 bg] 39)
  have KB := Blk.new_at (w := w.alloc (.cells #[.int .i64 (a1 : Int), .int .i64 (ad : Int), .int .i64 ag] 39)) (cs := #[.int .i64 (bs : Int), .int .i64 (bd : Int), .int .i64 bg]) (t := 39) (n := w.heap.size + 1) (by simp)
  have k0 := KA.cell (k := 0) (v := .int .i64 (a1 : Int)) rfl
  have k1 := KB.cell (k := 1) (v := .int .i64 (bd : Int)) rfl
  have c0 := hk _ _ a0; have c3 := hk _ _ a3; have e0 := hk _ _ b0; have e3 := hk _ _ b3
  have Dk := hide (hd.keep hk)
  have B := hide (balloc (balloc (Below.refl w.heap.size w) (.cells #[.int .i64 (a1 : Int), .int .i64 (ad : Int), .int .i64 ag] 39)) (.cells #[.int .i64 (bs : Int), .int .i64 (bd : Int), .int .i64 bg] 39))
  have HR := hide hR; have HTT := hide hT; have Hv := hide hv
  have H1 := hide h1; have H2 := hide h2; have H3 := hide h3; have H4 := hide h4
  have ha1i : (a1 : Int) < (es.length : Int) := by omega
  have hbdi : (bd : Int) < (es.length : Int) := by omega
  clear hR hT hv hd he ht a0 a3 b0 b3 hk KA KB h1 h2 h3 h4
  go_enter Try.func36, Try.ntmps36
  go_wp2
  generalize (w.alloc (.cells #[.int .i64 (a1 : Int), .int .i64 (ad : Int), .int .i64 ag] 39)).alloc (.cells #[.int .i64 (bs : Int), .int .i64 (bd : Int), .int .i64 bg] 39) = W at *
  obtain ⟨g, hg⟩ : ∃ g, w.heap.size = g := ⟨_, rfl⟩
  rw [hg] at k0 k1 ⊢
  obtain ⟨g2, hg2⟩ : ∃ g2, g + 1 = g2 := ⟨_, rfl⟩
  rw [hg2] at k1 ⊢
  clear hg hg2
  go_quiet ((go_at_call 35; exact quiet_dr (rbef_c HTT.out (Dk.out.keep (fun _ _ h => h)) H1.out H3.out H2.out H4.out Hv.out ⟨rfl, Dr.refl _⟩)))
  go_wp2
  exact HR.out _ (below_drewN' B.out _)
end Go.Proofs.Ytaopfoicdjejnaa

namespace Go.Proofs.Ytaopfoicdjejnaa
open Go.RowKit

def regionsOf : Code → List Code
  | .seq a b => regionsOf a ++ regionsOf b
  | .block _ c => regionsOf c
  | .cond _ a b => regionsOf a ++ regionsOf b
  | .scope c => regionsOf c
  | .loop c => regionsOf c
  | .region i o d => [.region i o d]
  | _ => []
noncomputable def holdReg34 : Code := (regionsOf (Try.f15.body.getD .skip)).getD 32 .skip
theorem conj34 {wr w' : World} {bL oL k y : Nat} {x0 x1 x2 x3 x4 x5 : Int} (h0 : wr.cell? ⟨bL, oL + k * 3, none⟩ = some (.int .i64 x0)) (h1 : wr.cell? ⟨bL, oL + k * 3 + 1, none⟩ = some (.int .i64 x1)) (h2 : wr.cell? ⟨bL, oL + k * 3 + 2, none⟩ = some (.int .i64 x2)) (h3 : wr.cell? ⟨bL, oL + y * 3, none⟩ = some (.int .i64 x3)) (h4 : wr.cell? ⟨bL, oL + y * 3 + 1, none⟩ = some (.int .i64 x4)) (h5 : wr.cell? ⟨bL, oL + y * 3 + 2, none⟩ = some (.int .i64 x5)) (hb : Below wr.heap.size wr w') :
    Below wr.heap.size wr w' ∧ w'.cell? ⟨bL, oL + k * 3, none⟩ = some (.int .i64 x0) ∧ w'.cell? ⟨bL, oL + k * 3 + 1, none⟩ = some (.int .i64 x1) ∧ w'.cell? ⟨bL, oL + k * 3 + 2, none⟩ = some (.int .i64 x2) ∧ w'.cell? ⟨bL, oL + y * 3, none⟩ = some (.int .i64 x3) ∧ w'.cell? ⟨bL, oL + y * 3 + 1, none⟩ = some (.int .i64 x4) ∧ w'.cell? ⟨bL, oL + y * 3 + 2, none⟩ = some (.int .i64 x5) :=
  ⟨hb, cell_later hb h0, cell_later hb h1, cell_later hb h2, cell_later hb h3, cell_later hb h4, cell_later hb h5⟩
set_option maxRecDepth 100000 in
set_option maxHeartbeats 4000000 in
theorem hold_reg34t (Q : Exit → Act → World → Prop) (dp ep tp : Option Addr) (dc ec lc tc bL oL k y : Nat) (d : List (List Int)) (es : List Evt) (ls : List Lgr) (ts : List Int) (a b a2 b2 : Nat) (gg gg2 : Int) (wr : World) (hT : HT d es ls ts) (hk : k < ls.length) (hy : y < ls.length) (hl8 : ls.length ≤ 8)
    (ha : a < es.length) (hb : b < es.length) (ha2 : a2 < es.length) (hb2 : b2 < es.length) (HD : Hid (∀ W, Below wr.heap.size wr W → RowsAt W dp d)) (HE : Hid (∀ W, Below wr.heap.size wr W → EvsAt W ep es)) (HTm : Hid (∀ W, Below wr.heap.size wr W → IntsAt .i64 W tp ts))
    (hc : wr.cell? ⟨bL, oL + k * 3, none⟩ = some (.int .i64 (a : Int)) ∧ wr.cell? ⟨bL, oL + k * 3 + 1, none⟩ = some (.int .i64 (b : Int)) ∧ wr.cell? ⟨bL, oL + k * 3 + 2, none⟩ = some (.int .i64 gg) ∧ wr.cell? ⟨bL, oL + y * 3, none⟩ = some (.int .i64 (a2 : Int)) ∧ wr.cell? ⟨bL, oL + y * 3 + 1, none⟩ = some (.int .i64 (b2 : Int)) ∧ wr.cell? ⟨bL, oL + y * 3 + 2, none⟩ = some (.int .i64 gg2)) (HX1 : Hid (befB d es ts b2 a = true)) {u4 u5 u6 u7 u8 u9 u10 u11 u12 u13 u14 u15 u18 u19 u20 u21 u22 u23 u24 u25 u26 u27 u28 u29 u30 u31 u32 u33 u34 u35 u36 u37 u38 u39 u40 u41 u42 u43 u44 u45 u46 u47 u48 u49 u50 u51 u52 u53 u54 u55 u56 u57 u58 u59 u60 u61 u62 u63 u64 u65 u66 u67 u68 u69 u70 u71 u72 u73 u74 u75 u76 u77 u78 u79 u80 u81 u82 u83 u84 u85 u86 u87 u88 u89 u90 u91 u92 u93 u94 u95 u96 u97 u98 u99 u100 u101 u102 u103 u104 u105 u106 u107 u108 u109 u110 u111 u112 u113 u114 u115 u116 u117 u118 u119 u120 u121 u122 u123 u124 u125 u126 u127 u128 u129 u130 u131 u132 u133 u134 u135 u136 u137 u138 u139 u140 u141 u142 u143 u144 u145 u146 u147 u148 u149 u150 u151 u152 u153 u154 u155 u156 u157 u158 u159 u160 u161 u162 u163 u164 u165 u166 u167 u168 u169 u170 u171 u172 u173 u174 u175 u176 u177 u178 u179 u180 u181 u182 u183 u184 u185 u186 u187 u188 u189 u190 u191 u192 u193 u194 u195 u196 u197 u198 u199 u200 u201 u202 u203 u204 u205 u206 u207 u208 u209 u210 u211 u212 u213 u214 u215 u216 u217 u218 u219 u220 u221 u222 u223 u224 u225 u226 u227 u228 u229 u230 u231 u232 u233 u234 u235 u236 u237 u238 u239 u240 u241 u242 u243 u244 u245 u246 u247 u248 u249 u250 u251 u252 u253 u254 u255 u256 u257 u258 u259 u260 u261 u262 u263 u264 u265 u266 u267 u268 u269 u270 u271 u272 u273 u274 u275 u276 u277 u278 u279 u280 u281 u282 u283 u284 u285 u286 u287 u288 u289 u290 u291 : Value}
    (HN : Hid (∀ W v264 v265 v266 v267 v268 v269 v270 v271 v272 v273 v274 v275 v276 v277 v278 v279 v280 v281 v282 v283 v284 v285 v286 v287 v288 v289 v290, Below wr.heap.size wr W → Q .normal { tmps := #[.slice dp d.length dc, .slice ep es.length ec, .slice (some ⟨bL, oL, none⟩) ls.length lc, .slice tp es.length tc, u4, u5, u6, u7, u8, u9, u10, u11, u12, u13, u14, u15, .int .i64 k, .int .i64 y, u18, u19, u20, u21, u22, u23, u24, u25, u26, u27, u28, u29, u30, u31, u32, u33, u34, u35, u36, u37, u38, u39, u40, u41, u42, u43, u44, u45, u46, u47, u48, u49, u50, u51, u52, u53, u54, u55, u56, u57, u58, u59, u60, u61, u62, u63, u64, u65, u66, u67, u68, u69, u70, u71, u72, u73, u74, u75, u76, u77, u78, u79, u80, u81, u82, u83, u84, u85, u86, u87, u88, u89, u90, u91, u92, u93, u94, u95, u96, u97, u98, u99, u100, u101, u102, u103, u104, u105, u106, u107, u108, u109, u110, u111, u112, u113, u114, u115, u116, u117, u118, u119, u120, u121, u122, u123, u124, u125, u126, u127, u128, u129, u130, u131, u132, u133, u134, u135, u136, u137, u138, u139, u140, u141, u142, u143, u144, u145, u146, u147, u148, u149, u150, u151, u152, u153, u154, u155, u156, u157, u158, u159, u160, u161, u162, u163, u164, u165, u166, u167, u168, u169, u170, u171, u172, u173, u174, u175, u176, u177, u178, u179, u180, u181, u182, u183, u184, u185, u186, u187, u188, u189, u190, u191, u192, u193, u194, u195, u196, u197, u198, u199, u200, u201, u202, u203, u204, u205, u206, u207, u208, u209, u210, u211, u212, u213, u214, u215, u216, u217, u218, u219, u220, u221, u222, u223, u224, u225, u226, u227, u228, u229, u230, u231, u232, u233, u234, u235, u236, u237, u238, u239, u240, u241, u242, u243, u244, u245, u246, u247, u248, u249, u250, u251, u252, u253, u254, u255, u256, u257, u258, u259, u260, u261, u262, u263, v264, v265, v266, v267, v268, v269, v270, v271, v272, v273, v274, v275, v276, v277, v278, v279, v280, v281, v282, v283, v284, v285, v286, v287, v288, v289, v290, .bool false], defers := [] } W)) :
    holdReg34.wp Try.prog Q { tmps := #[.slice dp d.length dc, .slice ep es.length ec, .slice (some ⟨bL, oL, none⟩) ls.length lc, .slice tp es.length tc, u4, u5, u6, u7, u8, u9, u10, u11, u12, u13, u14, u15, .int .i64 k, .int .i64 y, u18, u19, u20, u21, u22, u23, u24, u25, u26, u27, u28, u29, u30, u31, u32, u33, u34, u35, u36, u37, u38, u39, u40, u41, u42, u43, u44, u45, u46, u47, u48, u49, u50, u51, u52, u53, u54, u55, u56, u57, u58, u59, u60, u61, u62, u63, u64, u65, u66, u67, u68, u69, u70, u71, u72, u73, u74, u75, u76, u77, u78, u79, u80, u81, u82, u83, u84, u85, u86, u87, u88, u89, u90, u91, u92, u93, u94, u95, u96, u97, u98, u99, u100, u101, u102, u103, u104, u105, u106, u107, u108, u109, u110, u111, u112, u113, u114, u115, u116, u117, u118, u119, u120, u121, u122, u123, u124, u125, u126, u127, u128, u129, u130, u131, u132, u133, u134, u135, u136, u137, u138, u139, u140, u141, u142, u143, u144, u145, u146, u147, u148, u149, u150, u151, u152, u153, u154, u155, u156, u157, u158, u159, u160, u161, u162, u163, u164, u165, u166, u167, u168, u169, u170, u171, u172, u173, u174, u175, u176, u177, u178, u179, u180, u181, u182, u183, u184, u185, u186, u187, u188, u189, u190, u191, u192, u193, u194, u195, u196, u197, u198, u199, u200, u201, u202, u203, u204, u205, u206, u207, u208, u209, u210, u211, u212, u213, u214, u215, u216, u217, u218, u219, u220, u221, u222, u223, u224, u225, u226, u227, u228, u229, u230, u231, u232, u233, u234, u235, u236, u237, u238, u239, u240, u241, u242, u243, u244, u245, u246, u247, u248, u249, u250, u251, u252, u253, u254, u255, u256, u257, u258, u259, u260, u261, u262, u263, u264, u265, u266, u267, u268, u269, u270, u271, u272, u273, u274, u275, u276, u277, u278, u279, u280, u281, u282, u283, u284, u285, u286, u287, u288, u289, u290, u291], defers := [] } wr := by
  simp only [holdReg34, Try.f15, Option.getD, regionsOf, List.nil_append, List.append_nil, List.cons_append, List.getD, List.getElem?_cons_succ, List.getElem?_cons_zero]
  have hkn : (k : Int) < (ls.length : Int) := by omega
  have hk0 : (0 : Int) ≤ (k : Int) := by omega
  have hyn : (y : Int) < (ls.length : Int) := by omega
  have hy0 : (0 : Int) ≤ (y : Int) := by omega
  obtain ⟨h0, h1, h2, h3, h4, h5⟩ := hc
  refine wp_region_noPanic ?_
  refine wp_region_held_drew (S := fun w' => Below wr.heap.size wr w' ∧ w'.cell? ⟨bL, oL + k * 3, none⟩ = some (.int .i64 (a : Int)) ∧ w'.cell? ⟨bL, oL + k * 3 + 1, none⟩ = some (.int .i64 (b : Int)) ∧ w'.cell? ⟨bL, oL + k * 3 + 2, none⟩ = some (.int .i64 gg) ∧ w'.cell? ⟨bL, oL + y * 3, none⟩ = some (.int .i64 (a2 : Int)) ∧ w'.cell? ⟨bL, oL + y * 3 + 1, none⟩ = some (.int .i64 (b2 : Int)) ∧ w'.cell? ⟨bL, oL + y * 3 + 2, none⟩ = some (.int .i64 gg2)) (by kernel_rfl) (conj34 h0 h1 h2 h3 h4 h5 (Below.refl _ _).drew) (fun hHeld => ?_)
  refine wpAnyH_take (i := 0) (v := ?v0) rfl (by kernel_rfl) (by kernel_rfl) (by kernel_rfl) (fun _ _ _ h => h) (Or.inl ⟨by rfl, ?hy0⟩) hHeld ?rest0
  case hy0 => (intro w0 hSw; (try dsimp only at hSw); go_simp; all_goals with_reducible rfl)
  try simp only [Act.put, List.getElem_toArray, List.getElem_cons_zero, List.getElem_cons_succ, List.setIfInBounds_toArray, List.set_cons_zero, List.set_cons_succ]
  refine wpAnyH_take (i := 1) (v := ?v1) rfl (by kernel_rfl) (by kernel_rfl) (by kernel_rfl) (fun _ _ _ h => h) (Or.inl ⟨by rfl, ?hy1⟩) hHeld ?rest1
  case hy1 => (intro w0 hSw; (try dsimp only at hSw); go_simp; all_goals with_reducible rfl)
  try simp only [Act.put, List.getElem_toArray, List.getElem_cons_zero, List.getElem_cons_succ, List.setIfInBounds_toArray, List.set_cons_zero, List.set_cons_succ]
  refine wpAnyH_take (i := 2) (v := ?v2) rfl (by kernel_rfl) (by kernel_rfl) (by kernel_rfl) (fun _ _ _ h => h) (Or.inl ⟨by rfl, ?hy2⟩) hHeld ?rest2
  case hy2 => (intro w0 hSw; (try dsimp only at hSw); go_simp; all_goals with_reducible rfl)
  try simp only [Act.put, List.getElem_toArray, List.getElem_cons_zero, List.getElem_cons_succ, List.setIfInBounds_toArray, List.set_cons_zero, List.set_cons_succ]
  refine wpAnyH_take (i := 3) (v := ?v3) rfl (by kernel_rfl) (by kernel_rfl) (by kernel_rfl) (fun _ _ _ h => h) (Or.inl ⟨by rfl, ?hy3⟩) hHeld ?rest3
  case hy3 => (intro w0 hSw; (try dsimp only at hSw); go_simp; all_goals with_reducible rfl)
  try simp only [Act.put, List.getElem_toArray, List.getElem_cons_zero, List.getElem_cons_succ, List.setIfInBounds_toArray, List.set_cons_zero, List.set_cons_succ]
  refine wpAnyH_take (i := 4) (v := ?v4) rfl (by kernel_rfl) (by kernel_rfl) (by kernel_rfl) (fun _ _ _ h => h) (Or.inl ⟨by rfl, ?hy4⟩) hHeld ?rest4
  case hy4 => (intro w0 hSw; (try dsimp only at hSw); go_simp; all_goals with_reducible rfl)
  try simp only [Act.put, List.getElem_toArray, List.getElem_cons_zero, List.getElem_cons_succ, List.setIfInBounds_toArray, List.set_cons_zero, List.set_cons_succ]
  refine wpAnyH_take (i := 5) (v := ?v5) rfl (by kernel_rfl) (by kernel_rfl) (by kernel_rfl) (fun _ _ _ h => h) (Or.inl ⟨by rfl, ?hy5⟩) hHeld ?rest5
  case hy5 => (intro w0 hSw; (try dsimp only at hSw); go_simp; all_goals with_reducible rfl)
  try simp only [Act.put, List.getElem_toArray, List.getElem_cons_zero, List.getElem_cons_succ, List.setIfInBounds_toArray, List.set_cons_zero, List.set_cons_succ]
  refine wpAnyH_take (i := 6) (v := ?v6) rfl (by kernel_rfl) (by kernel_rfl) (by kernel_rfl) (fun _ _ _ h => h) (Or.inl ⟨by rfl, ?hy6⟩) hHeld ?rest6
  case hy6 => (intro w0 hSw; (try dsimp only at hSw); go_simp; all_goals with_reducible rfl)
  try simp only [Act.put, List.getElem_toArray, List.getElem_cons_zero, List.getElem_cons_succ, List.setIfInBounds_toArray, List.set_cons_zero, List.set_cons_succ]
  refine wpAnyH_take (i := 7) (v := ?v7) rfl (by kernel_rfl) (by kernel_rfl) (by kernel_rfl) (fun _ _ _ h => h) (Or.inl ⟨by rfl, ?hy7⟩) hHeld ?rest7
  case hy7 => (intro w0 hSw; (try dsimp only at hSw); go_simp; all_goals with_reducible rfl)
  try simp only [Act.put, List.getElem_toArray, List.getElem_cons_zero, List.getElem_cons_succ, List.setIfInBounds_toArray, List.set_cons_zero, List.set_cons_succ]
  refine wpAnyH_take (i := 8) (v := ?v8) rfl (by kernel_rfl) (by kernel_rfl) (by kernel_rfl) (fun _ _ _ h => h) (Or.inl ⟨by rfl, ?hy8⟩) hHeld ?rest8
  case hy8 => (intro w0 hSw; (try dsimp only at hSw); go_simp; all_goals with_reducible rfl)
  try simp only [Act.put, List.getElem_toArray, List.getElem_cons_zero, List.getElem_cons_succ, List.setIfInBounds_toArray, List.set_cons_zero, List.set_cons_succ]
  refine wpAnyH_take (i := 9) (v := ?v9) rfl (by kernel_rfl) (by kernel_rfl) (by kernel_rfl) (fun _ _ _ h => h) (Or.inl ⟨by rfl, ?hy9⟩) hHeld ?rest9
  case hy9 => (intro w0 hSw; (try dsimp only at hSw); go_simp; all_goals with_reducible rfl)
  try simp only [Act.put, List.getElem_toArray, List.getElem_cons_zero, List.getElem_cons_succ, List.setIfInBounds_toArray, List.set_cons_zero, List.set_cons_succ]
  refine wpAnyH_take (i := 10) (v := ?v10) rfl (by kernel_rfl) (by kernel_rfl) (by kernel_rfl) (fun _ _ _ h => h) (Or.inl ⟨by rfl, ?hy10⟩) hHeld ?rest10
  case hy10 => (intro w0 hSw; (try dsimp only at hSw); go_simp; all_goals with_reducible rfl)
  try simp only [Act.put, List.getElem_toArray, List.getElem_cons_zero, List.getElem_cons_succ, List.setIfInBounds_toArray, List.set_cons_zero, List.set_cons_succ]
  refine wpAnyH_ready (rs := [11]) (by kernel_rfl) (by simp) ?_
  refine AllReadyH.cons rfl (fun K hK => ?_) AllReadyH.nil
  go_simp
  refine rfollows_c (a1 := a) (ad := b) (ag := gg) (bs := a2) (bd := b2) (bg := gg2) hT (HD.out _ hHeld.1) (HE.out _ hHeld.1) (HTm.out _ hHeld.1) ha hb2 HX1.out ?_
  intro w5 hb5
  refine hK.out _ _ (conj34 h0 h1 h2 h3 h4 h5 (bseq hHeld.1 hb5)) (fun hHeld' => ?_)
  clear hK K hHeld hb5
  have hHeld := hHeld'
  clear hHeld'
  try simp only [Act.put, List.getElem_toArray, List.getElem_cons_zero, List.getElem_cons_succ, List.setIfInBounds_toArray, List.set_cons_zero, List.set_cons_succ]
  refine wpAnyH_take (i := 12) (v := ?v12) rfl (by kernel_rfl) (by kernel_rfl) (by kernel_rfl) (fun _ _ _ h => h) (Or.inl ⟨by rfl, ?hy12⟩) hHeld ?rest12
  case hy12 => (intro w0 hSw; (try dsimp only at hSw); go_simp; all_goals with_reducible rfl)
  try simp only [Act.put, List.getElem_toArray, List.getElem_cons_zero, List.getElem_cons_succ, List.setIfInBounds_toArray, List.set_cons_zero, List.set_cons_succ]
  refine wpAnyH_take (i := 13) (v := ?v13) rfl (by kernel_rfl) (by kernel_rfl) (by kernel_rfl) (fun _ _ _ h => h) (Or.inl ⟨by rfl, ?hy13⟩) hHeld ?rest13
  case hy13 => (intro w0 hSw; (try dsimp only at hSw); go_simp; all_goals with_reducible rfl)
  try simp only [Act.put, List.getElem_toArray, List.getElem_cons_zero, List.getElem_cons_succ, List.setIfInBounds_toArray, List.set_cons_zero, List.set_cons_succ]
  refine wpAnyH_take (i := 14) (v := undef) rfl (by kernel_rfl) (by kernel_rfl) (by kernel_rfl) (fun _ _ _ h => h) (Or.inr ⟨by rfl, rfl⟩) hHeld ?_
  try simp only [Act.put, List.getElem_toArray, List.getElem_cons_zero, List.getElem_cons_succ, List.setIfInBounds_toArray, List.set_cons_zero, List.set_cons_succ]
  refine wpAnyH_take (i := 15) (v := undef) rfl (by kernel_rfl) (by kernel_rfl) (by kernel_rfl) (fun _ _ _ h => h) (Or.inr ⟨by rfl, rfl⟩) hHeld ?_
  try simp only [Act.put, List.getElem_toArray, List.getElem_cons_zero, List.getElem_cons_succ, List.setIfInBounds_toArray, List.set_cons_zero, List.set_cons_succ]
  refine wpAnyH_take (i := 16) (v := undef) rfl (by kernel_rfl) (by kernel_rfl) (by kernel_rfl) (fun _ _ _ h => h) (Or.inr ⟨by rfl, rfl⟩) hHeld ?_
  try simp only [Act.put, List.getElem_toArray, List.getElem_cons_zero, List.getElem_cons_succ, List.setIfInBounds_toArray, List.set_cons_zero, List.set_cons_succ]
  refine wpAnyH_take (i := 17) (v := undef) rfl (by kernel_rfl) (by kernel_rfl) (by kernel_rfl) (fun _ _ _ h => h) (Or.inr ⟨by rfl, rfl⟩) hHeld ?_
  try simp only [Act.put, List.getElem_toArray, List.getElem_cons_zero, List.getElem_cons_succ, List.setIfInBounds_toArray, List.set_cons_zero, List.set_cons_succ]
  refine wpAnyH_take (i := 18) (v := undef) rfl (by kernel_rfl) (by kernel_rfl) (by kernel_rfl) (fun _ _ _ h => h) (Or.inr ⟨by rfl, rfl⟩) hHeld ?_
  try simp only [Act.put, List.getElem_toArray, List.getElem_cons_zero, List.getElem_cons_succ, List.setIfInBounds_toArray, List.set_cons_zero, List.set_cons_succ]
  refine wpAnyH_take (i := 19) (v := undef) rfl (by kernel_rfl) (by kernel_rfl) (by kernel_rfl) (fun _ _ _ h => h) (Or.inr ⟨by rfl, rfl⟩) hHeld ?_
  try simp only [Act.put, List.getElem_toArray, List.getElem_cons_zero, List.getElem_cons_succ, List.setIfInBounds_toArray, List.set_cons_zero, List.set_cons_succ]
  refine wpAnyH_take (i := 20) (v := undef) rfl (by kernel_rfl) (by kernel_rfl) (by kernel_rfl) (fun _ _ _ h => h) (Or.inr ⟨by rfl, rfl⟩) hHeld ?_
  try simp only [Act.put, List.getElem_toArray, List.getElem_cons_zero, List.getElem_cons_succ, List.setIfInBounds_toArray, List.set_cons_zero, List.set_cons_succ]
  refine wpAnyH_take (i := 21) (v := undef) rfl (by kernel_rfl) (by kernel_rfl) (by kernel_rfl) (fun _ _ _ h => h) (Or.inr ⟨by rfl, rfl⟩) hHeld ?_
  try simp only [Act.put, List.getElem_toArray, List.getElem_cons_zero, List.getElem_cons_succ, List.setIfInBounds_toArray, List.set_cons_zero, List.set_cons_succ]
  refine wpAnyH_take (i := 22) (v := undef) rfl (by kernel_rfl) (by kernel_rfl) (by kernel_rfl) (fun _ _ _ h => h) (Or.inr ⟨by rfl, rfl⟩) hHeld ?_
  try simp only [Act.put, List.getElem_toArray, List.getElem_cons_zero, List.getElem_cons_succ, List.setIfInBounds_toArray, List.set_cons_zero, List.set_cons_succ]
  refine wpAnyH_take (i := 23) (v := undef) rfl (by kernel_rfl) (by kernel_rfl) (by kernel_rfl) (fun _ _ _ h => h) (Or.inr ⟨by rfl, rfl⟩) hHeld ?_
  try simp only [Act.put, List.getElem_toArray, List.getElem_cons_zero, List.getElem_cons_succ, List.setIfInBounds_toArray, List.set_cons_zero, List.set_cons_succ]
  refine wpAnyH_take (i := 24) (v := undef) rfl (by kernel_rfl) (by kernel_rfl) (by kernel_rfl) (fun _ _ _ h => h) (Or.inr ⟨by rfl, rfl⟩) hHeld ?_
  try simp only [Act.put, List.getElem_toArray, List.getElem_cons_zero, List.getElem_cons_succ, List.setIfInBounds_toArray, List.set_cons_zero, List.set_cons_succ]
  refine wpAnyH_take (i := 25) (v := undef) rfl (by kernel_rfl) (by kernel_rfl) (by kernel_rfl) (fun _ _ _ h => h) (Or.inr ⟨by rfl, rfl⟩) hHeld ?_
  try simp only [Act.put, List.getElem_toArray, List.getElem_cons_zero, List.getElem_cons_succ, List.setIfInBounds_toArray, List.set_cons_zero, List.set_cons_succ]
  refine wpAnyH_take (i := 26) (v := undef) rfl (by kernel_rfl) (by kernel_rfl) (by kernel_rfl) (fun _ _ _ h => h) (Or.inr ⟨by rfl, rfl⟩) hHeld ?_
  try simp only [Act.put, List.getElem_toArray, List.getElem_cons_zero, List.getElem_cons_succ, List.setIfInBounds_toArray, List.set_cons_zero, List.set_cons_succ]
  refine wpAnyH_take (i := 27) (v := ?v27) rfl (by kernel_rfl) (by kernel_rfl) (by kernel_rfl) (fun _ _ _ h => h) (Or.inl ⟨by rfl, ?hy27⟩) hHeld ?rest27
  case hy27 => (intro w0 hSw; (try dsimp only at hSw); go_simp; all_goals with_reducible rfl)
  try simp only [Act.put, List.getElem_toArray, List.getElem_cons_zero, List.getElem_cons_succ, List.setIfInBounds_toArray, List.set_cons_zero, List.set_cons_succ]
  refine wpAnyH_done (by kernel_rfl) ?_ _
  refine NoPanic.normal ?_
  exact HN.out _ _ _ _ _ _ _ _ _ _ _ _ _ _ _ _ _ _ _ _ _ _ _ _ _ _ _ _  hHeld.1

set_option maxRecDepth 100000 in
set_option maxHeartbeats 4000000 in
theorem hold_reg34f (Q : Exit → Act → World → Prop) (dp ep tp : Option Addr) (dc ec lc tc bL oL k y : Nat) (d : List (List Int)) (es : List Evt) (ls : List Lgr) (ts : List Int) (a b a2 b2 : Nat) (gg gg2 : Int) (wr : World) (hT : HT d es ls ts) (hk : k < ls.length) (hy : y < ls.length) (hl8 : ls.length ≤ 8)
    (ha : a < es.length) (hb : b < es.length) (ha2 : a2 < es.length) (hb2 : b2 < es.length) (HD : Hid (∀ W, Below wr.heap.size wr W → RowsAt W dp d)) (HE : Hid (∀ W, Below wr.heap.size wr W → EvsAt W ep es)) (HTm : Hid (∀ W, Below wr.heap.size wr W → IntsAt .i64 W tp ts))
    (hc : wr.cell? ⟨bL, oL + k * 3, none⟩ = some (.int .i64 (a : Int)) ∧ wr.cell? ⟨bL, oL + k * 3 + 1, none⟩ = some (.int .i64 (b : Int)) ∧ wr.cell? ⟨bL, oL + k * 3 + 2, none⟩ = some (.int .i64 gg) ∧ wr.cell? ⟨bL, oL + y * 3, none⟩ = some (.int .i64 (a2 : Int)) ∧ wr.cell? ⟨bL, oL + y * 3 + 1, none⟩ = some (.int .i64 (b2 : Int)) ∧ wr.cell? ⟨bL, oL + y * 3 + 2, none⟩ = some (.int .i64 gg2)) (v2 : Bool) (HX1 : Hid (befB d es ts b2 a = false)) (HX2 : Hid (befB d es ts b a2 = v2)) {u4 u5 u6 u7 u8 u9 u10 u11 u12 u13 u14 u15 u18 u19 u20 u21 u22 u23 u24 u25 u26 u27 u28 u29 u30 u31 u32 u33 u34 u35 u36 u37 u38 u39 u40 u41 u42 u43 u44 u45 u46 u47 u48 u49 u50 u51 u52 u53 u54 u55 u56 u57 u58 u59 u60 u61 u62 u63 u64 u65 u66 u67 u68 u69 u70 u71 u72 u73 u74 u75 u76 u77 u78 u79 u80 u81 u82 u83 u84 u85 u86 u87 u88 u89 u90 u91 u92 u93 u94 u95 u96 u97 u98 u99 u100 u101 u102 u103 u104 u105 u106 u107 u108 u109 u110 u111 u112 u113 u114 u115 u116 u117 u118 u119 u120 u121 u122 u123 u124 u125 u126 u127 u128 u129 u130 u131 u132 u133 u134 u135 u136 u137 u138 u139 u140 u141 u142 u143 u144 u145 u146 u147 u148 u149 u150 u151 u152 u153 u154 u155 u156 u157 u158 u159 u160 u161 u162 u163 u164 u165 u166 u167 u168 u169 u170 u171 u172 u173 u174 u175 u176 u177 u178 u179 u180 u181 u182 u183 u184 u185 u186 u187 u188 u189 u190 u191 u192 u193 u194 u195 u196 u197 u198 u199 u200 u201 u202 u203 u204 u205 u206 u207 u208 u209 u210 u211 u212 u213 u214 u215 u216 u217 u218 u219 u220 u221 u222 u223 u224 u225 u226 u227 u228 u229 u230 u231 u232 u233 u234 u235 u236 u237 u238 u239 u240 u241 u242 u243 u244 u245 u246 u247 u248 u249 u250 u251 u252 u253 u254 u255 u256 u257 u258 u259 u260 u261 u262 u263 u264 u265 u266 u267 u268 u269 u270 u271 u272 u273 u274 u275 u276 u277 u278 u279 u280 u281 u282 u283 u284 u285 u286 u287 u288 u289 u290 u291 : Value}
    (HN : Hid (∀ W v264 v265 v266 v267 v268 v269 v270 v271 v272 v273 v274 v275 v276 v277 v278 v279 v280 v281 v282 v283 v284 v285 v286 v287 v288 v289 v290, Below wr.heap.size wr W → Q .normal { tmps := #[.slice dp d.length dc, .slice ep es.length ec, .slice (some ⟨bL, oL, none⟩) ls.length lc, .slice tp es.length tc, u4, u5, u6, u7, u8, u9, u10, u11, u12, u13, u14, u15, .int .i64 k, .int .i64 y, u18, u19, u20, u21, u22, u23, u24, u25, u26, u27, u28, u29, u30, u31, u32, u33, u34, u35, u36, u37, u38, u39, u40, u41, u42, u43, u44, u45, u46, u47, u48, u49, u50, u51, u52, u53, u54, u55, u56, u57, u58, u59, u60, u61, u62, u63, u64, u65, u66, u67, u68, u69, u70, u71, u72, u73, u74, u75, u76, u77, u78, u79, u80, u81, u82, u83, u84, u85, u86, u87, u88, u89, u90, u91, u92, u93, u94, u95, u96, u97, u98, u99, u100, u101, u102, u103, u104, u105, u106, u107, u108, u109, u110, u111, u112, u113, u114, u115, u116, u117, u118, u119, u120, u121, u122, u123, u124, u125, u126, u127, u128, u129, u130, u131, u132, u133, u134, u135, u136, u137, u138, u139, u140, u141, u142, u143, u144, u145, u146, u147, u148, u149, u150, u151, u152, u153, u154, u155, u156, u157, u158, u159, u160, u161, u162, u163, u164, u165, u166, u167, u168, u169, u170, u171, u172, u173, u174, u175, u176, u177, u178, u179, u180, u181, u182, u183, u184, u185, u186, u187, u188, u189, u190, u191, u192, u193, u194, u195, u196, u197, u198, u199, u200, u201, u202, u203, u204, u205, u206, u207, u208, u209, u210, u211, u212, u213, u214, u215, u216, u217, u218, u219, u220, u221, u222, u223, u224, u225, u226, u227, u228, u229, u230, u231, u232, u233, u234, u235, u236, u237, u238, u239, u240, u241, u242, u243, u244, u245, u246, u247, u248, u249, u250, u251, u252, u253, u254, u255, u256, u257, u258, u259, u260, u261, u262, u263, v264, v265, v266, v267, v268, v269, v270, v271, v272, v273, v274, v275, v276, v277, v278, v279, v280, v281, v282, v283, v284, v285, v286, v287, v288, v289, v290, .bool (!v2)], defers := [] } W)) :
    holdReg34.wp Try.prog Q { tmps := #[.slice dp d.length dc, .slice ep es.length ec, .slice (some ⟨bL, oL, none⟩) ls.length lc, .slice tp es.length tc, u4, u5, u6, u7, u8, u9, u10, u11, u12, u13, u14, u15, .int .i64 k, .int .i64 y, u18, u19, u20, u21, u22, u23, u24, u25, u26, u27, u28, u29, u30, u31, u32, u33, u34, u35, u36, u37, u38, u39, u40, u41, u42, u43, u44, u45, u46, u47, u48, u49, u50, u51, u52, u53, u54, u55, u56, u57, u58, u59, u60, u61, u62, u63, u64, u65, u66, u67, u68, u69, u70, u71, u72, u73, u74, u75, u76, u77, u78, u79, u80, u81, u82, u83, u84, u85, u86, u87, u88, u89, u90, u91, u92, u93, u94, u95, u96, u97, u98, u99, u100, u101, u102, u103, u104, u105, u106, u107, u108, u109, u110, u111, u112, u113, u114, u115, u116, u117, u118, u119, u120, u121, u122, u123, u124, u125, u126, u127, u128, u129, u130, u131, u132, u133, u134, u135, u136, u137, u138, u139, u140, u141, u142, u143, u144, u145, u146, u147, u148, u149, u150, u151, u152, u153, u154, u155, u156, u157, u158, u159, u160, u161, u162, u163, u164, u165, u166, u167, u168, u169, u170, u171, u172, u173, u174, u175, u176, u177, u178, u179, u180, u181, u182, u183, u184, u185, u186, u187, u188, u189, u190, u191, u192, u193, u194, u195, u196, u197, u198, u199, u200, u201, u202, u203, u204, u205, u206, u207, u208, u209, u210, u211, u212, u213, u214, u215, u216, u217, u218, u219, u220, u221, u222, u223, u224, u225, u226, u227, u228, u229, u230, u231, u232, u233, u234, u235, u236, u237, u238, u239, u240, u241, u242, u243, u244, u245, u246, u247, u248, u249, u250, u251, u252, u253, u254, u255, u256, u257, u258, u259, u260, u261, u262, u263, u264, u265, u266, u267, u268, u269, u270, u271, u272, u273, u274, u275, u276, u277, u278, u279, u280, u281, u282, u283, u284, u285, u286, u287, u288, u289, u290, u291], defers := [] } wr := by
  simp only [holdReg34, Try.f15, Option.getD, regionsOf, List.nil_append, List.append_nil, List.cons_append, List.getD, List.getElem?_cons_succ, List.getElem?_cons_zero]
  have hkn : (k : Int) < (ls.length : Int) := by omega
  have hk0 : (0 : Int) ≤ (k : Int) := by omega
  have hyn : (y : Int) < (ls.length : Int) := by omega
  have hy0 : (0 : Int) ≤ (y : Int) := by omega
  obtain ⟨h0, h1, h2, h3, h4, h5⟩ := hc
  refine wp_region_noPanic ?_
  refine wp_region_held_drew (S := fun w' => Below wr.heap.size wr w' ∧ w'.cell? ⟨bL, oL + k * 3, none⟩ = some (.int .i64 (a : Int)) ∧ w'.cell? ⟨bL, oL + k * 3 + 1, none⟩ = some (.int .i64 (b : Int)) ∧ w'.cell? ⟨bL, oL + k * 3 + 2, none⟩ = some (.int .i64 gg) ∧ w'.cell? ⟨bL, oL + y * 3, none⟩ = some (.int .i64 (a2 : Int)) ∧ w'.cell? ⟨bL, oL + y * 3 + 1, none⟩ = some (.int .i64 (b2 : Int)) ∧ w'.cell? ⟨bL, oL + y * 3 + 2, none⟩ = some (.int .i64 gg2)) (by kernel_rfl) (conj34 h0 h1 h2 h3 h4 h5 (Below.refl _ _).drew) (fun hHeld => ?_)
  refine wpAnyH_take (i := 0) (v := ?v0) rfl (by kernel_rfl) (by kernel_rfl) (by kernel_rfl) (fun _ _ _ h => h) (Or.inl ⟨by rfl, ?hy0⟩) hHeld ?rest0
  case hy0 => (intro w0 hSw; (try dsimp only at hSw); go_simp; all_goals with_reducible rfl)
  try simp only [Act.put, List.getElem_toArray, List.getElem_cons_zero, List.getElem_cons_succ, List.setIfInBounds_toArray, List.set_cons_zero, List.set_cons_succ]
  refine wpAnyH_take (i := 1) (v := ?v1) rfl (by kernel_rfl) (by kernel_rfl) (by kernel_rfl) (fun _ _ _ h => h) (Or.inl ⟨by rfl, ?hy1⟩) hHeld ?rest1
  case hy1 => (intro w0 hSw; (try dsimp only at hSw); go_simp; all_goals with_reducible rfl)
  try simp only [Act.put, List.getElem_toArray, List.getElem_cons_zero, List.getElem_cons_succ, List.setIfInBounds_toArray, List.set_cons_zero, List.set_cons_succ]
  refine wpAnyH_take (i := 2) (v := ?v2) rfl (by kernel_rfl) (by kernel_rfl) (by kernel_rfl) (fun _ _ _ h => h) (Or.inl ⟨by rfl, ?hy2⟩) hHeld ?rest2
  case hy2 => (intro w0 hSw; (try dsimp only at hSw); go_simp; all_goals with_reducible rfl)
  try simp only [Act.put, List.getElem_toArray, List.getElem_cons_zero, List.getElem_cons_succ, List.setIfInBounds_toArray, List.set_cons_zero, List.set_cons_succ]
  refine wpAnyH_take (i := 3) (v := ?v3) rfl (by kernel_rfl) (by kernel_rfl) (by kernel_rfl) (fun _ _ _ h => h) (Or.inl ⟨by rfl, ?hy3⟩) hHeld ?rest3
  case hy3 => (intro w0 hSw; (try dsimp only at hSw); go_simp; all_goals with_reducible rfl)
  try simp only [Act.put, List.getElem_toArray, List.getElem_cons_zero, List.getElem_cons_succ, List.setIfInBounds_toArray, List.set_cons_zero, List.set_cons_succ]
  refine wpAnyH_take (i := 4) (v := ?v4) rfl (by kernel_rfl) (by kernel_rfl) (by kernel_rfl) (fun _ _ _ h => h) (Or.inl ⟨by rfl, ?hy4⟩) hHeld ?rest4
  case hy4 => (intro w0 hSw; (try dsimp only at hSw); go_simp; all_goals with_reducible rfl)
  try simp only [Act.put, List.getElem_toArray, List.getElem_cons_zero, List.getElem_cons_succ, List.setIfInBounds_toArray, List.set_cons_zero, List.set_cons_succ]
  refine wpAnyH_take (i := 5) (v := ?v5) rfl (by kernel_rfl) (by kernel_rfl) (by kernel_rfl) (fun _ _ _ h => h) (Or.inl ⟨by rfl, ?hy5⟩) hHeld ?rest5
  case hy5 => (intro w0 hSw; (try dsimp only at hSw); go_simp; all_goals with_reducible rfl)
  try simp only [Act.put, List.getElem_toArray, List.getElem_cons_zero, List.getElem_cons_succ, List.setIfInBounds_toArray, List.set_cons_zero, List.set_cons_succ]
  refine wpAnyH_take (i := 6) (v := ?v6) rfl (by kernel_rfl) (by kernel_rfl) (by kernel_rfl) (fun _ _ _ h => h) (Or.inl ⟨by rfl, ?hy6⟩) hHeld ?rest6
  case hy6 => (intro w0 hSw; (try dsimp only at hSw); go_simp; all_goals with_reducible rfl)
  try simp only [Act.put, List.getElem_toArray, List.getElem_cons_zero, List.getElem_cons_succ, List.setIfInBounds_toArray, List.set_cons_zero, List.set_cons_succ]
  refine wpAnyH_take (i := 7) (v := ?v7) rfl (by kernel_rfl) (by kernel_rfl) (by kernel_rfl) (fun _ _ _ h => h) (Or.inl ⟨by rfl, ?hy7⟩) hHeld ?rest7
  case hy7 => (intro w0 hSw; (try dsimp only at hSw); go_simp; all_goals with_reducible rfl)
  try simp only [Act.put, List.getElem_toArray, List.getElem_cons_zero, List.getElem_cons_succ, List.setIfInBounds_toArray, List.set_cons_zero, List.set_cons_succ]
  refine wpAnyH_take (i := 8) (v := ?v8) rfl (by kernel_rfl) (by kernel_rfl) (by kernel_rfl) (fun _ _ _ h => h) (Or.inl ⟨by rfl, ?hy8⟩) hHeld ?rest8
  case hy8 => (intro w0 hSw; (try dsimp only at hSw); go_simp; all_goals with_reducible rfl)
  try simp only [Act.put, List.getElem_toArray, List.getElem_cons_zero, List.getElem_cons_succ, List.setIfInBounds_toArray, List.set_cons_zero, List.set_cons_succ]
  refine wpAnyH_take (i := 9) (v := ?v9) rfl (by kernel_rfl) (by kernel_rfl) (by kernel_rfl) (fun _ _ _ h => h) (Or.inl ⟨by rfl, ?hy9⟩) hHeld ?rest9
  case hy9 => (intro w0 hSw; (try dsimp only at hSw); go_simp; all_goals with_reducible rfl)
  try simp only [Act.put, List.getElem_toArray, List.getElem_cons_zero, List.getElem_cons_succ, List.setIfInBounds_toArray, List.set_cons_zero, List.set_cons_succ]
  refine wpAnyH_take (i := 10) (v := ?v10) rfl (by kernel_rfl) (by kernel_rfl) (by kernel_rfl) (fun _ _ _ h => h) (Or.inl ⟨by rfl, ?hy10⟩) hHeld ?rest10
  case hy10 => (intro w0 hSw; (try dsimp only at hSw); go_simp; all_goals with_reducible rfl)
  try simp only [Act.put, List.getElem_toArray, List.getElem_cons_zero, List.getElem_cons_succ, List.setIfInBounds_toArray, List.set_cons_zero, List.set_cons_succ]
  refine wpAnyH_ready (rs := [11]) (by kernel_rfl) (by simp) ?_
  refine AllReadyH.cons rfl (fun K hK => ?_) AllReadyH.nil
  go_simp
  refine rfollows_c (a1 := a) (ad := b) (ag := gg) (bs := a2) (bd := b2) (bg := gg2) hT (HD.out _ hHeld.1) (HE.out _ hHeld.1) (HTm.out _ hHeld.1) ha hb2 HX1.out ?_
  intro w5 hb5
  refine hK.out _ _ (conj34 h0 h1 h2 h3 h4 h5 (bseq hHeld.1 hb5)) (fun hHeld' => ?_)
  clear hK K hHeld hb5
  have hHeld := hHeld'
  clear hHeld'
  try simp only [Act.put, List.getElem_toArray, List.getElem_cons_zero, List.getElem_cons_succ, List.setIfInBounds_toArray, List.set_cons_zero, List.set_cons_succ]
  refine wpAnyH_take (i := 12) (v := ?v12) rfl (by kernel_rfl) (by kernel_rfl) (by kernel_rfl) (fun _ _ _ h => h) (Or.inl ⟨by rfl, ?hy12⟩) hHeld ?rest12
  case hy12 => (intro w0 hSw; (try dsimp only at hSw); go_simp; all_goals with_reducible rfl)
  try simp only [Act.put, List.getElem_toArray, List.getElem_cons_zero, List.getElem_cons_succ, List.setIfInBounds_toArray, List.set_cons_zero, List.set_cons_succ]
  refine wpAnyH_take (i := 13) (v := ?v13) rfl (by kernel_rfl) (by kernel_rfl) (by kernel_rfl) (fun _ _ _ h => h) (Or.inl ⟨by rfl, ?hy13⟩) hHeld ?rest13
  case hy13 => (intro w0 hSw; (try dsimp only at hSw); go_simp; all_goals with_reducible rfl)
  try simp only [Act.put, List.getElem_toArray, List.getElem_cons_zero, List.getElem_cons_succ, List.setIfInBounds_toArray, List.set_cons_zero, List.set_cons_succ]
  refine wpAnyH_take (i := 14) (v := ?v14) rfl (by kernel_rfl) (by kernel_rfl) (by kernel_rfl) (fun _ _ _ h => h) (Or.inl ⟨by rfl, ?hy14⟩) hHeld ?rest14
  case hy14 => (intro w0 hSw; (try dsimp only at hSw); go_simp; all_goals with_reducible rfl)
  try simp only [Act.put, List.getElem_toArray, List.getElem_cons_zero, List.getElem_cons_succ, List.setIfInBounds_toArray, List.set_cons_zero, List.set_cons_succ]
  refine wpAnyH_take (i := 15) (v := ?v15) rfl (by kernel_rfl) (by kernel_rfl) (by kernel_rfl) (fun _ _ _ h => h) (Or.inl ⟨by rfl, ?hy15⟩) hHeld ?rest15
  case hy15 => (intro w0 hSw; (try dsimp only at hSw); go_simp; all_goals with_reducible rfl)
  try simp only [Act.put, List.getElem_toArray, List.getElem_cons_zero, List.getElem_cons_succ, List.setIfInBounds_toArray, List.set_cons_zero, List.set_cons_succ]
  refine wpAnyH_take (i := 16) (v := ?v16) rfl (by kernel_rfl) (by kernel_rfl) (by kernel_rfl) (fun _ _ _ h => h) (Or.inl ⟨by rfl, ?hy16⟩) hHeld ?rest16
  case hy16 => (intro w0 hSw; (try dsimp only at hSw); go_simp; all_goals with_reducible rfl)
  try simp only [Act.put, List.getElem_toArray, List.getElem_cons_zero, List.getElem_cons_succ, List.setIfInBounds_toArray, List.set_cons_zero, List.set_cons_succ]
  refine wpAnyH_take (i := 17) (v := ?v17) rfl (by kernel_rfl) (by kernel_rfl) (by kernel_rfl) (fun _ _ _ h => h) (Or.inl ⟨by rfl, ?hy17⟩) hHeld ?rest17
  case hy17 => (intro w0 hSw; (try dsimp only at hSw); go_simp; all_goals with_reducible rfl)
  try simp only [Act.put, List.getElem_toArray, List.getElem_cons_zero, List.getElem_cons_succ, List.setIfInBounds_toArray, List.set_cons_zero, List.set_cons_succ]
  refine wpAnyH_take (i := 18) (v := ?v18) rfl (by kernel_rfl) (by kernel_rfl) (by kernel_rfl) (fun _ _ _ h => h) (Or.inl ⟨by rfl, ?hy18⟩) hHeld ?rest18
  case hy18 => (intro w0 hSw; (try dsimp only at hSw); go_simp; all_goals with_reducible rfl)
  try simp only [Act.put, List.getElem_toArray, List.getElem_cons_zero, List.getElem_cons_succ, List.setIfInBounds_toArray, List.set_cons_zero, List.set_cons_succ]
  refine wpAnyH_take (i := 19) (v := ?v19) rfl (by kernel_rfl) (by kernel_rfl) (by kernel_rfl) (fun _ _ _ h => h) (Or.inl ⟨by rfl, ?hy19⟩) hHeld ?rest19
  case hy19 => (intro w0 hSw; (try dsimp only at hSw); go_simp; all_goals with_reducible rfl)
  try simp only [Act.put, List.getElem_toArray, List.getElem_cons_zero, List.getElem_cons_succ, List.setIfInBounds_toArray, List.set_cons_zero, List.set_cons_succ]
  refine wpAnyH_take (i := 20) (v := ?v20) rfl (by kernel_rfl) (by kernel_rfl) (by kernel_rfl) (fun _ _ _ h => h) (Or.inl ⟨by rfl, ?hy20⟩) hHeld ?rest20
  case hy20 => (intro w0 hSw; (try dsimp only at hSw); go_simp; all_goals with_reducible rfl)
  try simp only [Act.put, List.getElem_toArray, List.getElem_cons_zero, List.getElem_cons_succ, List.setIfInBounds_toArray, List.set_cons_zero, List.set_cons_succ]
  refine wpAnyH_take (i := 21) (v := ?v21) rfl (by kernel_rfl) (by kernel_rfl) (by kernel_rfl) (fun _ _ _ h => h) (Or.inl ⟨by rfl, ?hy21⟩) hHeld ?rest21
  case hy21 => (intro w0 hSw; (try dsimp only at hSw); go_simp; all_goals with_reducible rfl)
  try simp only [Act.put, List.getElem_toArray, List.getElem_cons_zero, List.getElem_cons_succ, List.setIfInBounds_toArray, List.set_cons_zero, List.set_cons_succ]
  refine wpAnyH_take (i := 22) (v := ?v22) rfl (by kernel_rfl) (by kernel_rfl) (by kernel_rfl) (fun _ _ _ h => h) (Or.inl ⟨by rfl, ?hy22⟩) hHeld ?rest22
  case hy22 => (intro w0 hSw; (try dsimp only at hSw); go_simp; all_goals with_reducible rfl)
  try simp only [Act.put, List.getElem_toArray, List.getElem_cons_zero, List.getElem_cons_succ, List.setIfInBounds_toArray, List.set_cons_zero, List.set_cons_succ]
  refine wpAnyH_take (i := 23) (v := ?v23) rfl (by kernel_rfl) (by kernel_rfl) (by kernel_rfl) (fun _ _ _ h => h) (Or.inl ⟨by rfl, ?hy23⟩) hHeld ?rest23
  case hy23 => (intro w0 hSw; (try dsimp only at hSw); go_simp; all_goals with_reducible rfl)
  try simp only [Act.put, List.getElem_toArray, List.getElem_cons_zero, List.getElem_cons_succ, List.setIfInBounds_toArray, List.set_cons_zero, List.set_cons_succ]
  refine wpAnyH_take (i := 24) (v := ?v24) rfl (by kernel_rfl) (by kernel_rfl) (by kernel_rfl) (fun _ _ _ h => h) (Or.inl ⟨by rfl, ?hy24⟩) hHeld ?rest24
  case hy24 => (intro w0 hSw; (try dsimp only at hSw); go_simp; all_goals with_reducible rfl)
  try simp only [Act.put, List.getElem_toArray, List.getElem_cons_zero, List.getElem_cons_succ, List.setIfInBounds_toArray, List.set_cons_zero, List.set_cons_succ]
  refine wpAnyH_ready (rs := [25]) (by kernel_rfl) (by simp) ?_
  refine AllReadyH.cons rfl (fun K hK => ?_) AllReadyH.nil
  go_simp
  refine rfollows_c (a1 := a2) (ad := b2) (ag := gg2) (bs := a) (bd := b) (bg := gg) hT (HD.out _ hHeld.1) (HE.out _ hHeld.1) (HTm.out _ hHeld.1) ha2 hb HX2.out ?_
  intro w5 hb5
  refine hK.out _ _ (conj34 h0 h1 h2 h3 h4 h5 (bseq hHeld.1 hb5)) (fun hHeld' => ?_)
  clear hK K hHeld hb5
  have hHeld := hHeld'
  clear hHeld'
  try simp only [Act.put, List.getElem_toArray, List.getElem_cons_zero, List.getElem_cons_succ, List.setIfInBounds_toArray, List.set_cons_zero, List.set_cons_succ]
  refine wpAnyH_take (i := 26) (v := ?v26) rfl (by kernel_rfl) (by kernel_rfl) (by kernel_rfl) (fun _ _ _ h => h) (Or.inl ⟨by rfl, ?hy26⟩) hHeld ?rest26
  case hy26 => (intro w0 hSw; (try dsimp only at hSw); go_simp; all_goals with_reducible rfl)
  try simp only [Act.put, List.getElem_toArray, List.getElem_cons_zero, List.getElem_cons_succ, List.setIfInBounds_toArray, List.set_cons_zero, List.set_cons_succ]
  refine wpAnyH_take (i := 27) (v := ?v27) rfl (by kernel_rfl) (by kernel_rfl) (by kernel_rfl) (fun _ _ _ h => h) (Or.inl ⟨by rfl, ?hy27⟩) hHeld ?rest27
  case hy27 => (intro w0 hSw; (try dsimp only at hSw); go_simp; all_goals with_reducible rfl)
  try simp only [Act.put, List.getElem_toArray, List.getElem_cons_zero, List.getElem_cons_succ, List.setIfInBounds_toArray, List.set_cons_zero, List.set_cons_succ]
  refine wpAnyH_done (by kernel_rfl) ?_ _
  refine NoPanic.normal ?_
  exact HN.out _ _ _ _ _ _ _ _ _ _ _ _ _ _ _ _ _ _ _ _ _ _ _ _ _ _ _ _  hHeld.1

end Go.Proofs.Ytaopfoicdjejnaa

namespace Go.Proofs.Ytaopfoicdjejnaa
open Go.RowKit

set_option maxRecDepth 100000 in
set_option maxHeartbeats 8000000 in
theorem rholds_c (dp ep lp tp : Option Addr) (dc ec lc tc n : Nat) (d : List (List Int)) (es : List Evt) (ls : List Lgr) (ts : List Int) (w : World) (R) (hdl : d.length ≤ maxLen) (hel : es.length ≤ maxLen) (hll : ls.length ≤ maxLen) (htl : n ≤ maxLen) (hn : ts.length = n) (hd : RowsAt w dp d) (he : EvsAt w ep es) (hl : LgsAt w lp ls) (ht : IntsAt .i64 w tp ts)
    (hR : ∀ w', Below w.heap.size w w' → R (.returned (.bool (holdB d es ls ts))) w') :
    Calls Try.prog 15 #[.slice dp d.length dc, .slice ep es.length ec, .slice lp ls.length lc, .slice tp n tc] w R := by
  have HF : Hid (¬ HoldP d es ls ts → ∀ w', Below w.heap.size w w' → R (.returned (.bool false)) w') := hide (fun hn w' hb => by have := hR w' hb; rw [holdB_false hn] at this; exact this)
  have HTr : Hid (HoldP d es ls ts → ∀ w', Below w.heap.size w w' → R (.returned (.bool true)) w') := hide (fun hn w' hb => by have := hR w' hb; rw [holdB_true.2 hn] at this; exact this)
  have htl' := htl
  unfold maxLen at htl
  have Hn := hide hn
  have Hd := hide hd; have He := hide he; have Hl := hide hl; have Ht := hide ht
  clear hR hd he hl ht hn
  go_enter Try.func15, Try.ntmps15
  go_wp2_with (go_at_call 19; refine Stop.out ?_)
  refine Stop.go (rvalid_c dp ep lp dc ec lc d es ls _ _ hdl hel hll Hd.out He.out Hl.out ?_)
  intro w1 hb
  have B1 := hide hb
  clear hb
  unfold maxLen at hdl hel hll
  cases hwb : wellB d es ls with
  | false =>
    have HF1 := hide (HF.out (fun h => by rw [wellB_true.2 h.1] at hwb; cases hwb))
    clear hwb
    go_wp2
    exact HF1.out _ B1.out
  | true =>
  have HW := hide (wellB_true.1 hwb)
  have hfew := HW.out.few
  have hl8 := legs_few HW.out
  clear hwb
  by_cases hne : n = es.length
  rotate_left
  · have hq : ((n : Int) != (es.length : Int)) = true := by simp; omega
    have HF1 := hide (HF.out (fun h => hne (by rw [← Hn.out]; exact h.2.1)))
    clear hne
    go_wp2
    exact HF1.out _ B1.out
  have hq : ((n : Int) != (es.length : Int)) = false := by simp; omega
  subst hne
  have D1 := hide (Hd.out.keep (Keeps.of_below B1.out)); have E1 := hide (He.out.keep (Keeps.of_below B1.out)); have L1 := hide (Hl.out.keep (Keeps.of_below B1.out)); have T1 := hide (Ht.out.keep (Keeps.of_below B1.out))
  go_wp2
  go_loopw [9] (fun si wr => ∃ i nd : Nat, i ≤ es.length ∧ si = .int .i64 i ∧ Hid (∀ j, j < i → winP es ts j) ∧ wr = w1.drewN nd) (fun si _ => es.length - (intOf si).toNat)
  case atStart => exact ⟨0, 0, Nat.zero_le _, rfl, hide (fun j h => absurd h (by omega)), rfl⟩
  case round => as_aux_lemma =>
    obtain ⟨i, nd, hi, rfl, HWn, rfl⟩ := hrel
    by_cases hlt : i < es.length
    · obtain ⟨eb, eo, e, rfl, hev, e0, e1, e2, e3⟩ := E1.out.ev hlt
      obtain ⟨tb, tn, t, rfl, hti, ct⟩ := T1.out.at_ (i := i) (by rw [Hn.out]; exact hlt)
      have HV := hide (show winP es ts i ↔ (max e.low 0 ≤ t ∧ t ≤ min e.high 1000000) by unfold winP; rw [evF_at hev, tmF_at hti]; rfl)
      have HFw := hide (fun (h : ¬ winP es ts i) => HF.out (fun h2 => h (h2.2.2.win i hlt)))
      have hi2 : (i : Int) < (es.length : Int) := by omega
      clear hev hti e3 e0
      by_cases h1 : t < 0
      · have HF1 := hide (HFw.out (fun h => by have := HV.out.1 h; omega))
        have d1 : decide (t < 0) = true := by simpa using h1
        go_wp2
        go_quiet (fail)
        go_wp2
        exact HF1.out _ (below_drewN' (below_drewN' B1.out _) _)
      have d1 : decide (t < 0) = false := by simpa using h1
      by_cases h2 : 1000000 < t
      · have HF1 := hide (HFw.out (fun h => by have := HV.out.1 h; omega))
        have d2 : decide (1000000 < t) = true := by simpa using h2
        go_wp2
        go_quiet (fail)
        go_wp2
        exact HF1.out _ (below_drewN' (below_drewN' B1.out _) _)
      have d2 : decide (1000000 < t) = false := by simpa using h2
      by_cases h3 : t < e.low
      · have HF1 := hide (HFw.out (fun h => by have := HV.out.1 h; omega))
        have d3 : decide (t < e.low) = true := by simpa using h3
        go_wp2
        go_quiet (fail)
        go_wp2
        exact HF1.out _ (below_drewN' (below_drewN' B1.out _) _)
      have d3 : decide (t < e.low) = false := by simpa using h3
      by_cases h4 : e.high < t
      · have HF1 := hide (HFw.out (fun h => by have := HV.out.1 h; omega))
        have d4 : decide (e.high < t) = true := by simpa using h4
        go_wp2
        go_quiet (fail)
        go_wp2
        exact HF1.out _ (below_drewN' (below_drewN' B1.out _) _)
      have d4 : decide (e.high < t) = false := by simpa using h4
      have HW2 := hide (show ∀ j, j < i + 1 → winP es ts j from fun j hj => by
        rcases Nat.lt_or_ge j i with h' | h'
        · exact HWn.out j h'
        · obtain rfl : j = i := by omega
          exact HV.out.2 ⟨by omega, by omega⟩)
      go_wp2
      go_quiet (fail)
      go_wp2
      go_roundw
      case rel => exact ⟨i + 1, _, by omega, by go_num, HW2, by first | rfl | exact World.drewN_drewN ..⟩
      case measure => simp [intOf]; omega
    · obtain rfl : i = es.length := by omega
      have HTT := hide (show HT d es ls ts from ⟨HW.out, Hn.out, fun x hx => by
        obtain ⟨i, hi⟩ := List.getElem?_of_mem hx
        have h1 := HWn.out i (by rw [← Hn.out]; exact (List.getElem?_eq_some_iff.1 hi).1)
        unfold winP at h1
        rw [tmF_at hi] at h1
        omega⟩)
      go_wp2
      have HF2 := hide (fun (a b : Nat) (hab : a < b) (hb : b < es.length) (h : ¬ (befB d es ts a b = true ∨ befB d es ts b a = true)) => HF.out (fun h2 => h (by
        rcases h2.2.2.two a (by omega) b hb (by omega) with h3 | h3
        · exact .inl (befB_true.2 h3)
        · exact .inr (befB_true.2 h3))))
      go_loopw [10] (fun sj wr => ∃ j nd : Nat, j ≤ es.length ∧ sj = .int .i64 j ∧ Hid (twoP d es ts j 0) ∧ wr = w1.drewN nd) (fun sj _ => es.length - (intOf sj).toNat)
      case atStart => exact ⟨0, nd, Nat.zero_le _, rfl, hide (fun a b _ h => absurd h (by omega)), rfl⟩
      case round => as_aux_lemma =>
        obtain ⟨j, nd2, hj, rfl, H2, rfl⟩ := hrel
        by_cases hltj : j < es.length
        · go_wp2
          go_loopw [11] (fun si wr => ∃ i nd : Nat, i ≤ j ∧ si = .int .i64 i ∧ Hid (twoP d es ts j i) ∧ wr = w1.drewN nd) (fun si _ => j - (intOf si).toNat)
          case atStart => exact ⟨0, nd2, Nat.zero_le _, rfl, H2, rfl⟩
          case round => as_aux_lemma =>
            clear H2
            obtain ⟨i, nd3, hi, rfl, H2, rfl⟩ := hrel
            by_cases hlti : i < j
            · obtain ⟨eb, eo, tb, tn, a, x, rfl, rfl, h1, h2, a0, _, _, a3⟩ := ev_tm HTT.out E1.out T1.out (i := i) (by omega)
              obtain ⟨eb2, eo2, tb2, tn2, b, y, h5, h6, h3, h4, b0, _, _, b3⟩ := ev_tm HTT.out E1.out T1.out hltj
              injection h5 with h5; injection h5 with z1 z2
              injection h6 with h6; injection h6 with z3 z4
              subst z1; subst z2; subst z3; subst z4
              have I1 := hide h1; have I2 := hide h2; have I3 := hide h3; have I4 := hide h4
              have hil : i < es.length := by omega
              have hii : (i : Int) < (es.length : Int) := by omega
              have hjj : (j : Int) < (es.length : Int) := by omega
              clear h1 h2 h3 h4
              cases hv1 : befB d es ts j i with
              | true =>
                have HX := hide hv1
                have H3 := hide (show twoP d es ts j (i + 1) from fun a b hab h => by
                  by_cases e : a = i ∧ b = j
                  · obtain ⟨rfl, rfl⟩ := e; exact .inr hv1
                  · exact H2.out a b hab (by omega))
                clear hv1
                go_wp2
                go_quiet ((go_at_call 35; exact quiet_add_dr (rbef_c HTT.out (D1.out.keep (fun _ _ h => h)) I3.out I1.out I4.out I2.out HX.out ⟨rfl, Dr.refl _⟩)))
                go_wp2
                go_roundw
                case rel => exact ⟨i + 1, _, by omega, by go_num, H3, by first | rfl | exact World.drewN_drewN ..⟩
                case measure => simp [intOf]; omega
              | false =>
                have HX := hide hv1
                cases hv2 : befB d es ts i j with
                | true =>
                  have HY := hide hv2
                  have H3 := hide (show twoP d es ts j (i + 1) from fun a b hab h => by
                    by_cases e : a = i ∧ b = j
                    · obtain ⟨rfl, rfl⟩ := e; exact .inl hv2
                    · exact H2.out a b hab (by omega))
                  clear hv1 hv2
                  go_wp2
                  go_quiet (first
                    | (go_at_call 35; exact quiet_add_dr (rbef_c HTT.out (D1.out.keep (fun _ _ h => h)) I3.out I1.out I4.out I2.out HX.out ⟨rfl, Dr.refl _⟩))
                    | (go_at_call 35; exact quiet_add_dr (rbef_c HTT.out (D1.out.keep (fun _ _ h => h)) I1.out I3.out I2.out I4.out HY.out ⟨rfl, Dr.refl _⟩)))
                  go_wp2
                  go_roundw
                  case rel => exact ⟨i + 1, _, by omega, by go_num, H3, by first | rfl | exact World.drewN_drewN ..⟩
                  case measure => simp [intOf]; omega
                | false =>
                  have HY := hide hv2
                  have HF1 := hide (HF2.out i j hlti hltj (by rw [hv1, hv2]; simp))
                  clear hv1 hv2
                  go_wp2
                  go_quiet (first
                    | (go_at_call 35; exact quiet_add_dr (rbef_c HTT.out (D1.out.keep (fun _ _ h => h)) I3.out I1.out I4.out I2.out HX.out ⟨rfl, Dr.refl _⟩))
                    | (go_at_call 35; exact quiet_add_dr (rbef_c HTT.out (D1.out.keep (fun _ _ h => h)) I1.out I3.out I2.out I4.out HY.out ⟨rfl, Dr.refl _⟩)))
                  go_wp2
                  exact HF1.out _ (below_drewN' (below_drewN' B1.out _) _)
            · obtain rfl : i = j := by omega
              have H3 := hide (show twoP d es ts (i + 1) 0 from fun a b hab h => H2.out a b hab (by omega))
              go_wp2
              go_roundw
              case rel => exact ⟨i + 1, _, by omega, by go_num, H3, rfl⟩
              case measure => simp [intOf]; omega
        · obtain rfl : j = es.length := by omega
          go_wp2
          go_loopw [12] (fun sk wr => ∃ k nd : Nat, k ≤ ls.length ∧ sk = .int .i64 k ∧ Hid (∀ g ∈ ls.take k, legP d es ts g ∧ ∀ x, x < es.length → outP d es ts g x) ∧ wr = w1.drewN nd) (fun sk _ => ls.length - (intOf sk).toNat)
          case atStart => exact ⟨0, nd2, Nat.zero_le _, rfl, hide (by simp), rfl⟩
          case round => as_aux_lemma =>
            obtain ⟨k, nd4, hk, rfl, HL, rfl⟩ := hrel
            by_cases hltk : k < ls.length
            · obtain ⟨lb, lo, g, rfl, hg, l0, l1, l2⟩ := L1.out.lg hltk
              have Hg := hide hg
              have hwl := HW.out.leg g (List.mem_of_getElem? hg)
              have HF3 := hide (fun (h : ¬ legP d es ts g) => HF.out (fun h2 => h (by
                obtain ⟨h3, h4⟩ := h2.2.2.leg g.lg (List.mem_map.2 ⟨g, List.mem_of_getElem? Hg.out, rfl⟩)
                exact ⟨h3, befB_true.2 h4⟩)))
              have HF4 := hide (fun (x : Nat) (hx : x < es.length) (h : ¬ outP d es ts g x) => HF.out (fun h2 => h (fun e1 e2 => by
                rcases h2.2.2.out g.lg (List.mem_map.2 ⟨g, List.mem_of_getElem? Hg.out, rfl⟩) x hx e1 e2 with h3 | h3
                · exact .inl (befB_true.2 h3)
                · exact .inr (befB_true.2 h3))))
              rcases g with ⟨gs, gd, gg⟩
              simp only at hwl l0 l1 l2
              obtain ⟨a, rfl⟩ : ∃ a : Nat, gs = a := ⟨gs.toNat, by omega⟩
              obtain ⟨b, rfl⟩ : ∃ b : Nat, gd = b := ⟨gd.toNat, by omega⟩
              obtain ⟨q1, q2, q3, q4, q5, q6⟩ := hwl
              have ha : a < es.length := by omega
              have hb : b < es.length := by omega
              obtain ⟨eb, eo, tb, tn, ea, xa, rfl, rfl, h1, h2, a0, _, _, a3⟩ := ev_tm HTT.out E1.out T1.out ha
              obtain ⟨eb2, eo2, tb2, tn2, ebv, xb, h5, h6, h3, h4, b0, _, _, b3⟩ := ev_tm HTT.out E1.out T1.out hb
              injection h5 with h5; injection h5 with z1 z2
              injection h6 with h6; injection h6 with z3 z4
              subst z1; subst z2; subst z3; subst z4
              have wa := HTT.out.win xa (List.mem_of_getElem? h2)
              have wb := HTT.out.win xb (List.mem_of_getElem? h4)
              have HV := hide (show legP d es ts ⟨a, b, gg⟩ ↔ (xb - xa = gg ∧ befB d es ts a b = true) by
                unfold legP
                simp only [Int.toNat_natCast]
                rw [tmF_at h2, tmF_at h4])
              have I1 := hide h1; have I2 := hide h2; have I3 := hide h3; have I4 := hide h4
              have hwr : IntKind.i64.wrap (xb - xa) = xb - xa := IntWalk.i64_in _ (by omega)
              have ha2 : (a : Int) < (es.length : Int) := by omega
              have hb2 : (b : Int) < (es.length : Int) := by omega
              clear hg h1 h2 h3 h4
              by_cases hgap : xb - xa = gg
              rotate_left
              · have HF1 := hide (HF3.out (fun h => hgap (HV.out.1 h).1))
                have d1 : (xb - xa != gg) = true := by simpa using hgap
                clear hgap
                go_wp2
                go_quiet (fail)
                go_wp2
                exact HF1.out _ (below_drewN' (below_drewN' B1.out _) _)
              have d1 : (xb - xa != gg) = false := by simpa using hgap
              have Hgap := hide hgap
              clear hgap
              cases hv : befB d es ts a b with
              | false =>
                have HX := hide hv
                have HF1 := hide (HF3.out (fun h => by have := (HV.out.1 h).2; rw [hv] at this; cases this))
                clear hv
                go_wp2
                go_quiet ((go_at_call 35; exact quiet_add_dr (rbef_c HTT.out (D1.out.keep (fun _ _ h => h)) I1.out I3.out I2.out I4.out HX.out ⟨rfl, Dr.refl _⟩)))
                go_wp2
                exact HF1.out _ (below_drewN' (below_drewN' B1.out _) _)
              | true =>
                have HX := hide hv
                have HLg := hide (HV.out.2 ⟨Hgap.out, hv⟩)
                clear hv
                go_wp2
                go_quiet ((go_at_call 35; exact quiet_add_dr (rbef_c HTT.out (D1.out.keep (fun _ _ h => h)) I1.out I3.out I2.out I4.out HX.out ⟨rfl, Dr.refl _⟩)))
                clear d1 hwr HV HF3
                go_wp2
                go_loopw [15] (fun sx wr => ∃ x nd : Nat, x ≤ es.length ∧ sx = .int .i64 x ∧ Hid (∀ y, y < x → outP d es ts ⟨a, b, gg⟩ y) ∧ wr = w1.drewN nd) (fun sx _ => es.length - (intOf sx).toNat)
                case atStart => exact ⟨0, _, Nat.zero_le _, rfl, hide (fun y h => absurd h (by omega)), by first | rfl | exact World.drewN_drewN ..⟩
                case round => as_aux_lemma =>
                  obtain ⟨x, nd5, hx, rfl, HO, rfl⟩ := hrel
                  by_cases hltx : x < es.length
                  · have HO2 := hide (fun (h : outP d es ts ⟨a, b, gg⟩ x) => (show ∀ y, y < x + 1 → outP d es ts ⟨a, b, gg⟩ y from fun y hy => by
                      rcases Nat.lt_or_ge y x with h' | h'
                      · exact HO.out y h'
                      · obtain rfl : y = x := by omega
                        exact h))
                    have hun : ∀ x, outP d es ts ⟨a, b, gg⟩ x ↔ (x ≠ a → x ≠ b → befB d es ts x a = true ∨ befB d es ts b x = true) := fun x => by
                      unfold outP; simp only [Int.toNat_natCast]
                    have HUn := hide hun
                    clear hun
                    by_cases hxa : x = a
                    · have d1 : ((x : Int) != (a : Int)) = false := by simp; omega
                      have H3 := hide (HO2.out ((HUn.out x).2 (fun h => absurd hxa h)))
                      clear hxa
                      go_wp2
                      go_quiet (fail)
                      go_wp2
                      go_roundw
                      case rel => exact ⟨x + 1, _, by omega, by go_num, H3, by first | rfl | exact World.drewN_drewN ..⟩
                      case measure => simp [intOf]; omega
                    have d1 : ((x : Int) != (a : Int)) = true := by simp; omega
                    by_cases hxb : x = b
                    · have d2 : ((x : Int) != (b : Int)) = false := by simp; omega
                      have H3 := hide (HO2.out ((HUn.out x).2 (fun _ h => absurd hxb h)))
                      clear hxa hxb
                      go_wp2
                      go_quiet (fail)
                      go_wp2
                      go_roundw
                      case rel => exact ⟨x + 1, _, by omega, by go_num, H3, by first | rfl | exact World.drewN_drewN ..⟩
                      case measure => simp [intOf]; omega
                    have d2 : ((x : Int) != (b : Int)) = true := by simp; omega
                    obtain ⟨eb3, eo3, tb3, tn3, ex, xx, h5, h6, h3, h4, x0, _, _, x3⟩ := ev_tm HTT.out E1.out T1.out hltx
                    injection h5 with h5; injection h5 with z1 z2
                    injection h6 with h6; injection h6 with z3 z4
                    subst z1; subst z2; subst z3; subst z4
                    have I5 := hide h3; have I6 := hide h4
                    have hx2 : (x : Int) < (es.length : Int) := by omega
                    clear h3 h4
                    cases hv1 : befB d es ts x a with
                    | true =>
                      have HX1 := hide hv1
                      have H3 := hide (HO2.out ((HUn.out x).2 (fun _ _ => .inl hv1)))
                      clear hv1 hxa hxb
                      go_wp2
                      go_quiet ((go_at_call 35; exact quiet_add_dr (rbef_c HTT.out (D1.out.keep (fun _ _ h => h)) I5.out I1.out I6.out I2.out HX1.out ⟨rfl, Dr.refl _⟩)))
                      go_wp2
                      go_roundw
                      case rel => exact ⟨x + 1, _, by omega, by go_num, H3, by first | rfl | exact World.drewN_drewN ..⟩
                      case measure => simp [intOf]; omega
                    | false =>
                      have HX1 := hide hv1
                      cases hv2 : befB d es ts b x with
                      | true =>
                        have HX2 := hide hv2
                        have H3 := hide (HO2.out ((HUn.out x).2 (fun _ _ => .inr hv2)))
                        clear hv1 hv2 hxa hxb
                        go_wp2
                        go_quiet (first
                          | (go_at_call 35; exact quiet_add_dr (rbef_c HTT.out (D1.out.keep (fun _ _ h => h)) I5.out I1.out I6.out I2.out HX1.out ⟨rfl, Dr.refl _⟩))
                          | (go_at_call 35; exact quiet_add_dr (rbef_c HTT.out (D1.out.keep (fun _ _ h => h)) I3.out I5.out I4.out I6.out HX2.out ⟨rfl, Dr.refl _⟩)))
                        go_wp2
                        go_roundw
                        case rel => exact ⟨x + 1, _, by omega, by go_num, H3, by first | rfl | exact World.drewN_drewN ..⟩
                        case measure => simp [intOf]; omega
                      | false =>
                        have HX2 := hide hv2
                        have HF1 := hide (HF4.out x hltx (fun h => by
                          rcases (HUn.out x).1 h hxa hxb with h | h
                          · rw [hv1] at h; cases h
                          · rw [hv2] at h; cases h))
                        clear hv1 hv2 hxa hxb
                        go_wp2
                        go_quiet (first
                          | (go_at_call 35; exact quiet_add_dr (rbef_c HTT.out (D1.out.keep (fun _ _ h => h)) I5.out I1.out I6.out I2.out HX1.out ⟨rfl, Dr.refl _⟩))
                          | (go_at_call 35; exact quiet_add_dr (rbef_c HTT.out (D1.out.keep (fun _ _ h => h)) I3.out I5.out I4.out I6.out HX2.out ⟨rfl, Dr.refl _⟩)))
                        go_wp2
                        exact HF1.out _ (below_drewN' (below_drewN' B1.out _) _)
                  · obtain rfl : x = es.length := by omega
                    have HLn := hide (show ∀ g ∈ ls.take (k + 1), legP d es ts g ∧ ∀ x, x < es.length → outP d es ts g x from fun g hg => by
                      rw [List.take_add_one, Hg.out] at hg
                      rcases List.mem_append.1 hg with h | h
                      · exact HL.out g h
                      · simp at h; rw [h]; exact ⟨HLg.out, HO.out⟩)
                    go_wp2
                    go_roundw
                    case rel => exact ⟨k + 1, _, by omega, by go_num, HLn, rfl⟩
                    case measure => simp [intOf]; omega
            · obtain rfl : k = ls.length := by omega
              have HLall := hide (show ∀ g ∈ ls, legP d es ts g ∧ ∀ x, x < es.length → outP d es ts g x by have := HL.out; rwa [List.take_length] at this)
              have B2 := hide (below_drewN' B1.out nd4)
              clear HL
              go_wp2
              generalize w1.drewN nd4 = w2 at *
              go_loopw [16] (fun sk wr => ∃ k : Nat, k ≤ ls.length ∧ sk = .int .i64 k ∧ Hid (Below w.heap.size w wr) ∧ Hid (∀ (a b : Nat) (g g' : Lgr), a < b → b < k → ls[a]? = some g → ls[b]? = some g' → pairP d es ts g' g)) (fun sk _ => ls.length - (intOf sk).toNat)
              case atStart => exact ⟨0, Nat.zero_le _, rfl, B2, hide (fun a b g g' h h' => absurd h' (by omega))⟩
              case round => as_aux_lemma =>
                clear B2
                obtain ⟨k, hk, rfl, HB, HP⟩ := hrel
                by_cases hltk : k < ls.length
                · obtain ⟨lb, lo, g, hlp, hg, _, _, _⟩ := Hl.out.lg hltk
                  subst hlp
                  have Hg := hide hg
                  have hwl := HW.out.leg g (List.mem_of_getElem? hg)
                  have HF5 := hide (fun (a : Nat) (g' : Lgr) (ha : a < k) (hg' : ls[a]? = some g') (h : ¬ pairP d es ts g g') => HF.out (fun h2 => h (by
                    have hne : g.lg.src ≠ g'.lg.src := by
                      have h6 := (fl_once Hg.out HW.out.once).1
                      intro e
                      have h7 : g'.src ∈ fl (ls.take k) := by
                        unfold fl
                        refine List.mem_flatMap.2 ⟨g', ?_, by simp⟩
                        refine List.mem_of_getElem? (i := a) ?_
                        rw [List.getElem?_take, if_pos ha]; exact hg'
                      have h8 := HW.out.leg g' (List.mem_of_getElem? hg')
                      have e' : g.src.toNat = g'.src.toNat := e
                      have : g.src = g'.src := by omega
                      exact h6 (by rw [this]; exact h7)
                    rcases h2.2.2.legs g.lg (List.mem_map.2 ⟨g, List.mem_of_getElem? Hg.out, rfl⟩) g'.lg (List.mem_map.2 ⟨g', List.mem_of_getElem? hg', rfl⟩) hne with h3 | h3
                    · exact .inl (befB_true.2 h3)
                    · exact .inr (befB_true.2 h3))))
                  clear hg
                  go_wp2
                  go_loopw [17] (fun sy wr => ∃ y : Nat, y ≤ k ∧ sy = .int .i64 y ∧ Hid (Below w.heap.size w wr) ∧ Hid (∀ (c : Nat) (g' : Lgr), c < y → ls[c]? = some g' → pairP d es ts g g')) (fun sy _ => k - (intOf sy).toNat)
                  case atStart => exact ⟨0, Nat.zero_le _, rfl, HB, hide (fun c g' h => absurd h (by omega))⟩
                  case round => as_aux_lemma =>
                    clear HB
                    obtain ⟨y, hy, rfl, HB, HPr⟩ := hrel
                    by_cases hlty : y < k
                    · obtain ⟨lb2, lo2, g2, hlp2, hg2, m0, m1, m2⟩ := (Hl.out.keep (Keeps.of_below HB.out)).lg (i := y) (by omega)
                      injection hlp2 with hlp2; injection hlp2 with z1 z2
                      subst z1; subst z2
                      obtain ⟨lb3, lo3, g3, hlp3, hg3, l0, l1, l2⟩ := (Hl.out.keep (Keeps.of_below HB.out)).lg (i := k) hltk
                      injection hlp3 with hlp3; injection hlp3 with z1 z2
                      subst z1; subst z2
                      have hgg : g3 = g := by have := Hg.out; rw [hg3] at this; injection this
                      subst hgg
                      have Hg2 := hide hg2
                      have hw2 := HW.out.leg g2 (List.mem_of_getElem? hg2)
                      have HF6 := hide (HF5.out y g2 hlty hg2)
                      have HP2 := hide (fun (h : pairP d es ts g3 g2) => (show ∀ (c : Nat) (g' : Lgr), c < y + 1 → ls[c]? = some g' → pairP d es ts g3 g' from fun c g' hc hg' => by
                        rcases Nat.lt_or_ge c y with h' | h'
                        · exact HPr.out c g' h' hg'
                        · obtain rfl : c = y := by omega
                          have := Hg2.out
                          rw [hg'] at this; injection this with this; rw [this]; exact h))
                      clear hg2 hg3
                      rcases g2 with ⟨gs2, gd2, gg2⟩
                      rcases g3 with ⟨gs, gd, gg⟩
                      simp only at hw2 hwl m0 m1 m2 l0 l1 l2
                      obtain ⟨a2, rfl⟩ : ∃ a2 : Nat, gs2 = a2 := ⟨gs2.toNat, by omega⟩
                      obtain ⟨b2, rfl⟩ : ∃ b2 : Nat, gd2 = b2 := ⟨gd2.toNat, by omega⟩
                      obtain ⟨a, rfl⟩ : ∃ a : Nat, gs = a := ⟨gs.toNat, by omega⟩
                      obtain ⟨b, rfl⟩ : ∃ b : Nat, gd = b := ⟨gd.toNat, by omega⟩
                      obtain ⟨r1, r2, r3, r4, r5, r6⟩ := hw2
                      obtain ⟨t1, t2, t3, t4, t5, t6⟩ := hwl
                      have ha : a < es.length := by omega
                      have hb : b < es.length := by omega
                      have ha2 : a2 < es.length := by omega
                      have hb2 : b2 < es.length := by omega
                      have HUn := hide (show pairP d es ts ⟨a, b, gg⟩ ⟨a2, b2, gg2⟩ ↔ (befB d es ts b a2 = true ∨ befB d es ts b2 a = true) by unfold pairP; simp only [Int.toNat_natCast])
                      have D6 := hide (fun W (h : Below wr.heap.size wr W) => Hd.out.keep (Keeps.of_below (bseq HB.out h)))
                      have E6 := hide (fun W (h : Below wr.heap.size wr W) => He.out.keep (Keeps.of_below (bseq HB.out h)))
                      have T6 := hide (fun W (h : Below wr.heap.size wr W) => Ht.out.keep (Keeps.of_below (bseq HB.out h)))
                      have HC6 := hide (And.intro l0 (And.intro l1 (And.intro l2 (And.intro m0 (And.intro m1 m2)))))
                      clear t1 t2 t3 t4 t5 t6 r1 r2 r3 r4 r5 r6 l0 l1 l2 m0 m1 m2
                      have hyk : y < ls.length := by omega
                      cases hv1 : befB d es ts b2 a with
                      | true =>
                        have HX1 := hide hv1
                        have H3 := hide (HP2.out (HUn.out.2 (.inr hv1)))
                        clear hv1
                        go_wp2
                        refine hold_reg34t _ dp ep tp dc ec lc tc lb lo k y d es ls ts a b a2 b2 gg gg2 wr HTT.out hltk hyk hl8 ha hb ha2 hb2 D6 E6 T6 HC6.out HX1 ?_
                        intro W v264 v265 v266 v267 v268 v269 v270 v271 v272 v273 v274 v275 v276 v277 v278 v279 v280 v281 v282 v283 v284 v285 v286 v287 v288 v289 v290 hb5
                        have B7 := hide (bseq HB.out hb5)
                        clear hb5
                        go_wp2
                        go_roundw
                        case rel => exact ⟨y + 1, by omega, by go_num, B7, H3⟩
                        case measure => simp [intOf]; omega
                      | false =>
                        have HX1 := hide hv1
                        cases hv2 : befB d es ts b a2 with
                        | true =>
                          have HX2 := hide hv2
                          have H3 := hide (HP2.out (HUn.out.2 (.inl hv2)))
                          clear hv1 hv2
                          go_wp2
                          refine hold_reg34f _ dp ep tp dc ec lc tc lb lo k y d es ls ts a b a2 b2 gg gg2 wr HTT.out hltk hyk hl8 ha hb ha2 hb2 D6 E6 T6 HC6.out true HX1 HX2 ?_
                          intro W v264 v265 v266 v267 v268 v269 v270 v271 v272 v273 v274 v275 v276 v277 v278 v279 v280 v281 v282 v283 v284 v285 v286 v287 v288 v289 v290 hb5
                          have B7 := hide (bseq HB.out hb5)
                          clear hb5
                          go_wp2
                          go_roundw
                          case rel => exact ⟨y + 1, by omega, by go_num, B7, H3⟩
                          case measure => simp [intOf]; omega
                        | false =>
                          have HX2 := hide hv2
                          have HF1 := hide (HF6.out (fun h => by
                            rcases HUn.out.1 h with h | h
                            · rw [hv2] at h; cases h
                            · rw [hv1] at h; cases h))
                          clear hv1 hv2
                          go_wp2
                          refine hold_reg34f _ dp ep tp dc ec lc tc lb lo k y d es ls ts a b a2 b2 gg gg2 wr HTT.out hltk hyk hl8 ha hb ha2 hb2 D6 E6 T6 HC6.out false HX1 HX2 ?_
                          intro W v264 v265 v266 v267 v268 v269 v270 v271 v272 v273 v274 v275 v276 v277 v278 v279 v280 v281 v282 v283 v284 v285 v286 v287 v288 v289 v290 hb5
                          have B7 := hide (bseq HB.out hb5)
                          clear hb5
                          go_wp2
                          exact HF1.out _ B7.out
                    · obtain rfl : y = k := by omega
                      have HPn := hide (show ∀ (a b : Nat) (g g' : Lgr), a < b → b < y + 1 → ls[a]? = some g → ls[b]? = some g' → pairP d es ts g' g from fun a' b' g1 g' h1 h2 h3 h4 => by
                        rcases Nat.lt_or_ge b' y with h' | h'
                        · exact HP.out a' b' g1 g' h1 h' h3 h4
                        · obtain rfl : b' = y := by omega
                          have := Hg.out
                          rw [h4] at this; injection this with this; rw [this]
                          exact HPr.out a' g1 h1 h3)
                      go_wp2
                      go_roundw
                      case rel => exact ⟨y + 1, by omega, by go_num, HB, HPn⟩
                      case measure => simp [intOf]; omega
                · obtain rfl : k = ls.length := by omega
                  have HD := hide (HTr.out ⟨HW.out, Hn.out, by
                    have hl1 := HLall.out
                    have hbb : ∀ i j, i < es.length → j < es.length → i ≠ j → befE (dst d) (evF es) (tmF ts) i j ∨ befE (dst d) (evF es) (tmF ts) j i := fun i j h1 h2 h3 => by
                      rcases Nat.lt_or_ge i j with h | h
                      · rcases H2.out i j h (.inl h2) with h4 | h4
                        · exact .inl (befB_true.1 h4)
                        · exact .inr (befB_true.1 h4)
                      · rcases H2.out j i (by omega) (.inl h1) with h4 | h4
                        · exact .inr (befB_true.1 h4)
                        · exact .inl (befB_true.1 h4)
                    refine ⟨fun i hi => HWn.out i hi, fun i hi j hj hne => hbb i j hi hj hne, fun g hg => ?_, fun g hg x hx h1 h2 => ?_, fun g hg g' hg' hne => ?_⟩
                    · obtain ⟨g0, hg0, rfl⟩ := List.mem_map.1 hg
                      have := (hl1 g0 hg0).1
                      exact ⟨this.1, befB_true.1 this.2⟩
                    · obtain ⟨g0, hg0, rfl⟩ := List.mem_map.1 hg
                      rcases (hl1 g0 hg0).2 x hx h1 h2 with h4 | h4
                      · exact .inl (befB_true.1 h4)
                      · exact .inr (befB_true.1 h4)
                    · obtain ⟨g0, hg0, rfl⟩ := List.mem_map.1 hg
                      obtain ⟨g1, hg1, rfl⟩ := List.mem_map.1 hg'
                      obtain ⟨i0, hi0⟩ := List.getElem?_of_mem hg0
                      obtain ⟨i1, hi1⟩ := List.getElem?_of_mem hg1
                      have l0 := (List.getElem?_eq_some_iff.1 hi0).1
                      have l1 := (List.getElem?_eq_some_iff.1 hi1).1
                      rcases Nat.lt_trichotomy i0 i1 with h | h | h
                      · rcases HP.out i0 i1 g0 g1 h l1 hi0 hi1 with h4 | h4
                        · exact .inr (befB_true.1 h4)
                        · exact .inl (befB_true.1 h4)
                      · subst h
                        rw [hi0] at hi1; injection hi1 with hi1
                        exact absurd (by rw [hi1]) hne
                      · rcases HP.out i1 i0 g1 g0 h l0 hi1 hi0 with h4 | h4
                        · exact .inl (befB_true.1 h4)
                        · exact .inr (befB_true.1 h4)⟩)
                  go_wp2
                  exact HD.out _ HB.out
end Go.Proofs.Ytaopfoicdjejnaa
