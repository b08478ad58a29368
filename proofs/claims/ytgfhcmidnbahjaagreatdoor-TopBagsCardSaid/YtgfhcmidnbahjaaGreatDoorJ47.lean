/- TopBags: a part of her walk (printed by genBP.py). TopBags: a part of her walk (printed by genBP.py). The fixed check. The fixed check, walked. -/
import Derived.Test.YtgfhcmidnbahjaaGreatDoorJ44
import Derived.Test.YtgfhcmidnbahjaaGreatDoorJ45
import Derived.Test.YtgfhcmidnbahjaaGreatDoorJ37
import Derived.Test.YtgfhcmidnbahjaaGreatDoorJ35
set_option linter.unusedVariables false
set_option linter.unusedSimpArgs false
namespace Go.Proofs.YtgfhcmidnbahjaaGreatDoor
open Go
variable {u0 u1 u2 u3 u4 u5 u6 u7 u8 u9 u10 u11 u12 u13 u14 u15 u16 u17 u18 u19 u20 u21 u22 u23 u24 u25 u26 u27 u28 u29 u30 u31 u32 u33 u34 u35 u36 u37 u38 u39 u40 u41 u42 u43 u44 u45 u46 u47 u48 u49 u50 u51 u52 u53 u54 u55 u56 u57 u58 u59 u60 u61 u62 u63 u64 u65 u66 u67 u68 u69 u70 u71 u72 u73 u74 u75 u76 u77 u78 u79 u80 u81 u82 u83 u84 u85 u86 u87 u88 u89 u90 u91 u92 u93 u94 u95 u96 u97 u98 u99 u100 u101 u102 u103 u104 u105 u106 u107 u108 u109 u110 u111 u112 u113 u114 u115 u116 u117 u118 u119 u120 u121 u122 u123 u124 u125 u126 u127 u128 u129 u130 u131 u132 u133 u134 u135 u136 u137 u138 u139 u140 u141 u142 u143 u144 u145 u146 u147 u148 u149 u150 u151 u152 u153 u154 u155 u156 u157 u158 u159 u160 u161 u162 u163 u164 u165 u166 u167 u168 u169 u170 u171 u172 u173 u174 u175 u176 u177 u178 u179 u180 u181 u182 u183 u184 u185 u186 u187 u188 u189 u190 u191 u192 u193 u194 u195 u196 u197 u198 u199 u200 u201 u202 u203 u204 u205 u206 u207 u208 u209 u210 u211 u212 u213 u214 u215 u216 u217 u218 u219 u220 u221 u222 u223 u224 u225 u226 u227 u228 u229 u230 u231 u232 u233 u234 u235 u236 u237 u238 u239 u240 u241 u242 u243 u244 u245 u246 u247 u248 u249 u250 u251 u252 u253 u254 u255 u256 u257 u258 u259 u260 u261 u262 u263 u264 u265 u266 u267 u268 u269 u270 u271 u272 u273 u274 u275 u276 u277 u278 u279 u280 u281 u282 u283 u284 u285 u286 u287 u288 u289 u290 u291 u292 u293 u294 u295 u296 u297 u298 u299 u300 u301 u302 u303 u304 u305 u306 u307 u308 u309 u310 u311 u312 u313 u314 u315 u316 u317 u318 u319 u320 u321 u322 u323 u324 u325 u326 u327 u328 u329 u330 u331 u332 u333 u334 u335 u336 u337 u338 u339 u340 u341 u342 u343 u344 u345 u346 u347 u348 u349 u350 u351 u352 u353 u354 u355 u356 u357 u358 u359 u360 u361 u362 u363 u364 u365 u366 u367 u368 u369 u370 u371 u372 u373 u374 u375 u376 u377 u378 u379 u380 u381 u382 u383 u384 u385 u386 u387 u388 u389 u390 u391 u392 u393 u394 u395 u396 u397 u398 u399 u400 u401 u402 u403 u404 u405 u406 u407 u408 u409 u410 u411 u412 u413 u414 u415 u416 u417 u418 u419 u420 u421 u422 u423 u424 u425 u426 u427 u428 u429 u430 : Value}
section
open Go.RowKit Go.Shelf
attribute [local go_sem] Oper.semAt_some run_store_func
set_option maxRecDepth 100000 in
set_option maxHeartbeats 8000000 in
theorem bag_l4 {w : World} {Q : Exit → Act → World → Prop} (t : Bgd) (m g mg : Nat) (pD qG : Option Addr) (cD cG gb cb : Nat)
  (hok : BgP t) (hm : t.m = m) (hg : t.g = g) (hmg : m + g = mg) (hm20 : m ≤ 20) (hg20 : g ≤ 20) (hput : ∀ i, i < m → t.put i = true) (hE : EncAt 5 Bx.cells w (some ⟨gb, 0, none⟩) t.l)
  (hQ : ∀ (v294 v295 v296 v297 v298 v299 v300 v301 v302 v303 v304 v305 v306 v307 v308 : Value) (w' : World), Below w.heap.size w w' → Q (.exit 8) { tmps := #[u0, u1, u2, u3, u4, u5, u6, u7, u8, u9, u10, u11, u12, u13, u14, u15, .slice qG g cG, u17, u18, u19, u20, u21, .slice pD m cD, .slice (some ⟨gb, 0, none⟩) mg cb, u24, u25, u26, u27, u28, u29, u30, u31, u32, u33, u34, u35, u36, .int .i64 (m : Int), .int .i64 (g : Int), u39, u40, u41, u42, u43, u44, u45, u46, u47, u48, u49, u50, u51, u52, u53, u54, u55, u56, u57, u58, u59, u60, u61, u62, u63, u64, u65, u66, u67, u68, u69, u70, u71, u72, u73, u74, u75, u76, u77, u78, u79, u80, u81, u82, u83, u84, u85, u86, u87, u88, u89, u90, u91, u92, u93, u94, u95, u96, u97, u98, u99, u100, u101, u102, u103, u104, u105, u106, u107, u108, u109, u110, u111, u112, u113, u114, u115, u116, u117, u118, u119, u120, u121, u122, u123, u124, u125, u126, u127, u128, u129, u130, u131, u132, u133, u134, u135, u136, u137, u138, u139, u140, u141, u142, u143, u144, u145, u146, u147, u148, u149, u150, u151, u152, u153, u154, u155, u156, u157, u158, u159, u160, u161, u162, u163, u164, u165, u166, u167, u168, u169, u170, u171, u172, u173, u174, u175, u176, u177, u178, u179, u180, u181, u182, u183, u184, u185, u186, u187, u188, u189, u190, u191, u192, u193, u194, u195, u196, u197, u198, u199, u200, u201, u202, u203, u204, u205, u206, u207, u208, u209, u210, u211, u212, u213, u214, u215, u216, u217, u218, u219, u220, u221, u222, u223, u224, u225, u226, u227, u228, u229, u230, u231, u232, u233, u234, u235, u236, u237, u238, u239, u240, u241, u242, u243, u244, u245, u246, u247, u248, u249, u250, u251, u252, u253, u254, u255, u256, u257, u258, u259, u260, u261, u262, u263, u264, u265, u266, u267, u268, u269, u270, u271, u272, u273, u274, u275, u276, u277, u278, u279, u280, u281, u282, u283, u284, u285, u286, u287, u288, u289, u290, u291, u292, u293, v294, v295, v296, v297, v298, v299, v300, v301, v302, v303, v304, v305, v306, v307, v308, u309, u310, u311, u312, u313, u314, u315, u316, u317, u318, u319, u320, u321, u322, u323, u324, u325, u326, u327, u328, u329, u330, u331, u332, u333, u334, u335, u336, u337, u338, u339, u340, u341, u342, u343, u344, u345, u346, u347, u348, u349, u350, u351, u352, u353, u354, u355, u356, u357, u358, u359, u360, u361, u362, u363, u364, u365, u366, u367, u368, u369, u370, u371, u372, u373, u374, u375, u376, u377, u378, u379, u380, u381, u382, u383, u384, u385, u386, u387, u388, u389, u390, u391, u392, u393, u394, u395, u396, u397, u398, u399, u400, u401, u402, u403, u404, u405, u406, u407, u408, u409, u410, u411, u412, u413, u414, u415, u416, u417, u418, u419, u420, u421, u422, u423, u424, u425, u426, u427, u428, u429, u430], defers := [] } w') :
  ((loopsOf (Tryz.f4.body.getD .skip)).getD 4 .skip).wp Tryz.prog Q { tmps := #[u0, u1, u2, u3, u4, u5, u6, u7, u8, u9, u10, u11, u12, u13, u14, u15, .slice qG g cG, u17, u18, u19, u20, u21, .slice pD m cD, .slice (some ⟨gb, 0, none⟩) mg cb, u24, u25, u26, u27, u28, u29, u30, u31, u32, u33, u34, u35, u36, .int .i64 0, .int .i64 0, u39, u40, u41, u42, u43, u44, u45, u46, u47, u48, u49, u50, u51, u52, u53, u54, u55, u56, u57, u58, u59, u60, u61, u62, u63, u64, u65, u66, u67, u68, u69, u70, u71, u72, u73, u74, u75, u76, u77, u78, u79, u80, u81, u82, u83, u84, u85, u86, u87, u88, u89, u90, u91, u92, u93, u94, u95, u96, u97, u98, u99, u100, u101, u102, u103, u104, u105, u106, u107, u108, u109, u110, u111, u112, u113, u114, u115, u116, u117, u118, u119, u120, u121, u122, u123, u124, u125, u126, u127, u128, u129, u130, u131, u132, u133, u134, u135, u136, u137, u138, u139, u140, u141, u142, u143, u144, u145, u146, u147, u148, u149, u150, u151, u152, u153, u154, u155, u156, u157, u158, u159, u160, u161, u162, u163, u164, u165, u166, u167, u168, u169, u170, u171, u172, u173, u174, u175, u176, u177, u178, u179, u180, u181, u182, u183, u184, u185, u186, u187, u188, u189, u190, u191, u192, u193, u194, u195, u196, u197, u198, u199, u200, u201, u202, u203, u204, u205, u206, u207, u208, u209, u210, u211, u212, u213, u214, u215, u216, u217, u218, u219, u220, u221, u222, u223, u224, u225, u226, u227, u228, u229, u230, u231, u232, u233, u234, u235, u236, u237, u238, u239, u240, u241, u242, u243, u244, u245, u246, u247, u248, u249, u250, u251, u252, u253, u254, u255, u256, u257, u258, u259, u260, u261, u262, u263, u264, u265, u266, u267, u268, u269, u270, u271, u272, u273, u274, u275, u276, u277, u278, u279, u280, u281, u282, u283, u284, u285, u286, u287, u288, u289, u290, u291, u292, u293, u294, u295, u296, u297, u298, u299, u300, u301, u302, u303, u304, u305, u306, u307, u308, u309, u310, u311, u312, u313, u314, u315, u316, u317, u318, u319, u320, u321, u322, u323, u324, u325, u326, u327, u328, u329, u330, u331, u332, u333, u334, u335, u336, u337, u338, u339, u340, u341, u342, u343, u344, u345, u346, u347, u348, u349, u350, u351, u352, u353, u354, u355, u356, u357, u358, u359, u360, u361, u362, u363, u364, u365, u366, u367, u368, u369, u370, u371, u372, u373, u374, u375, u376, u377, u378, u379, u380, u381, u382, u383, u384, u385, u386, u387, u388, u389, u390, u391, u392, u393, u394, u395, u396, u397, u398, u399, u400, u401, u402, u403, u404, u405, u406, u407, u408, u409, u410, u411, u412, u413, u414, u415, u416, u417, u418, u419, u420, u421, u422, u423, u424, u425, u426, u427, u428, u429, u430], defers := [] } w := by
 have HQ := hide hQ; have HOk := hide hok; have HM := hide hm; have HG := hide hg; have HMg := hide hmg; have HE := hide hE
 have hlen : t.l.length = mg := by rw [Bgd.len, hm, hg, hmg]
 have HLen := hide hlen
 have hins : ∀ j, j < g → insF t.l (m + j) = (List.range m).filter fun k => decide (t.dest k = j) := fun j hj => by
  have h := Bgd.ins (s := t) (j := j) (by rw [hg]; exact hj)
  rw [hm] at h
  rw [h]
  apply List.filter_congr
  intro k hk
  rw [hput k (List.mem_range.1 hk), Bool.true_and]
 have HIns := hide hins
 obtain ⟨S, hS⟩ : ∃ S : Nat → Nat, ∀ k, S k = ((List.range k).map fun j => ((List.range m).filter fun i => decide (t.dest i = j)).length).sum := ⟨_, fun _ => rfl⟩
 have hS0 : S 0 = 0 := by rw [hS]; rfl
 have hS1 : ∀ k, S (k + 1) = S k + ((List.range m).filter fun i => decide (t.dest i = k)).length := fun k => by
  rw [hS, hS, List.range_succ, List.map_append, List.sum_append]; simp
 have hSb : ∀ k, S k ≤ 20 * k := fun k => by
  induction k with
  | zero => rw [hS0]; exact Nat.zero_le _
  | succ k ih =>
   rw [hS1]
   have h1 : ((List.range m).filter fun i => decide (t.dest i = k)).length ≤ m := Nat.le_trans (List.length_filter_le _ _) (by simp)
   omega
 have hSg : S g = m := by
  rw [hS]
  exact sum_ins (fun i hi => by have := hok.dest i (by omega); omega) m (Nat.le_refl _)
 have HS1 := hide hS1; have HSb := hide hSb; have HSg := hide hSg
 clear hQ hok hm hg hmg hput hE hlen hins hS hS1 hSb hSg
 simp only [Tryz.f4, Option.getD, loopsOf, List.append_eq, List.nil_append, List.append_nil, List.cons_append, List.getD, List.getElem?_cons_succ, List.getElem?_cons_zero]
 go_loopw [37, 38] (fun st si wr => ∃ k : Nat, k ≤ g ∧ si = .int .i64 k ∧ st = .int .i64 (S k : Int) ∧ Hid (Below w.heap.size w wr)) (fun _ si _ => g - (intOf si).toNat)
 case atStart => exact ⟨0, Nat.zero_le _, rfl, by rw [hS0]; rfl, hide (Below.refl _ _)⟩
 case round =>
  clear hS0
  obtain ⟨k, hkl, rfl, rfl, HB⟩ := hrel
  by_cases hlt : k < g
  ·have hb1 := HSb.out k
   have hb2 := HSb.out (k + 1)
   have hs1 := HS1.out k
   obtain ⟨z, hz⟩ : ∃ z, m + k = z := ⟨_, rfl⟩
   have hzz : IntKind.i64.wrap ((m : Int) + (k : Int)) = (z : Int) := by rw [IntWalk.i64_in _ (by omega)]; omega
   obtain ⟨L, hL⟩ : ∃ L, ((List.range m).filter fun i => decide (t.dest i = k)).length = L := ⟨_, rfl⟩
   have hil : (insF t.l z).length = L := by rw [← hz, HIns.out k hlt, hL]
   rw [hL] at hs1
   have hsw : IntKind.i64.wrap ((S k : Int) + (L : Int)) = ((S (k + 1) : Nat) : Int) := by rw [IntWalk.i64_in _ (by omega)]; omega
   have hlv := Bgd.leafs (s := t) (j := k)
   rw [HM.out, hz] at hlv
   have hzl : z < mg := by have := HMg.out; omega
   have HLv := hide hlv; have HIl := hide hil; have HZl := hide hzl
   have q2 : (k : Int) < (g : Int) := by omega
   clear hb1 hb2 hs1 hz hL hil hlv hzl
   go_wp2_with (go_at_call 23; refine Stop.out ?_)
   have hcall := nInside_c t.l z (some ⟨gb, 0, none⟩) cb wr
   rw [HLen.out] at hcall
   refine Stop.go (hcall _ (HE.out.keep (Keeps.of_below HB.out)) (Bgd.ok HOk.out) HZl.out (by have h := HLv.out; rw [HLen.out] at h; exact h) ?_)
   rw [HIl.out]
   intro w2 p2 c2 hbb
   have HB2 := hide (bseq HB.out hbb)
   clear hcall hbb HB HLv HIl HZl
   go_wp2
   go_roundw
   case rel => exact ⟨k + 1, by omega, by go_num, rfl, HB2⟩
   case measure => simp [intOf]; omega
  ·obtain rfl : k = g := by omega
   have q2 : ¬ (k : Int) < (k : Int) := by omega
   have hsg := HSg.out
   rw [hsg]
   go_wp2
   exact HQ.out _ _ _ _ _ _ _ _ _ _ _ _ _ _ _ wr HB.out
end
section
open Go.RowKit Go.Shelf
attribute [local go_sem] Oper.semAt_some run_store_func
set_option maxRecDepth 100000 in
set_option maxHeartbeats 8000000 in
theorem bag_l5 {w : World} {Q : Exit → Act → World → Prop} (t : Bgd) (m g mg n o gB : Nat) (B : Nat → Nat → Int) (pl tn : Nat → Nat) (pT pD : Option Addr) (cT cD gb cb : Nat)
  (hok : BgP t) (hm : t.m = m) (hg : t.g = g) (hmg : m + g = mg) (hm20 : m ≤ 20) (hg20 : g ≤ 20) (ho : o < n) (hput : ∀ i, i < m → t.put i = true) (hE : EncAt 5 Bx.cells w (some ⟨gb, 0, none⟩) t.l) (hB : MatAt w (some ⟨gB, 0, none⟩) n B) (hT : IntsAt .i64 w pT ((List.range m).map fun i => (tn i : Int))) (hD : IntsAt .i64 w pD ((List.range m).map fun i => (t.dest i : Int))) (hto : ∀ i, i < m → tn i < n) (hpl : ∀ j, j < g → t.plc j = (pl j : Int) ∧ pl j < n) (hz0 : ∀ i, i < m → t.dest i = 0 → tn i = o) (hz1 : ∀ i, i < m → 0 < t.dest i → 0 ≤ B (pl (t.dest i)) (tn i) ∧ B (pl (t.dest i)) (tn i) < B o (tn i))
  (hQ : ∀ (v10 v40 v320 v321 v322 v323 v324 v325 v326 v327 v328 v329 v330 v331 v332 v333 v334 v335 v336 v337 v338 v339 v340 v341 v342 v343 v344 v345 v346 v347 v348 v349 v350 v351 v352 v353 v354 v355 v356 v357 v358 v359 v360 v361 v362 v363 v364 v365 v366 v367 v368 v369 v370 v371 v372 v373 v374 v375 v376 v377 v378 v379 v380 v381 v382 v383 v384 v385 v386 v387 v388 v389 v390 v391 v392 v393 v394 v395 v396 v397 v398 v399 v400 v401 v402 v403 v404 v405 v406 v407 v408 v409 v410 v411 v412 v413 v414 v415 v416 v417 v418 v419 v420 v421 v422 v423 v424 v425 v426 v427 v428 v429 : Value) (w' : World), Below w.heap.size w w' → Q (.exit 10) { tmps := #[u0, u1, u2, u3, u4, u5, u6, u7, u8, u9, v10, u11, u12, u13, u14, .int .i64 (o : Int), u16, u17, .slice (some ⟨gB, 0, none⟩) n n, u19, u20, .slice pT m cT, .slice pD m cD, .slice (some ⟨gb, 0, none⟩) mg cb, u24, u25, u26, u27, u28, u29, u30, u31, u32, u33, u34, u35, u36, u37, u38, .int .i64 (m : Int), v40, u41, u42, u43, u44, u45, u46, u47, u48, u49, u50, u51, u52, u53, u54, u55, u56, u57, u58, u59, u60, u61, u62, u63, u64, u65, u66, u67, u68, u69, u70, u71, u72, u73, u74, u75, u76, u77, u78, u79, u80, u81, u82, u83, u84, u85, u86, u87, u88, u89, u90, u91, u92, u93, u94, u95, u96, u97, u98, u99, u100, u101, u102, u103, u104, u105, u106, u107, u108, u109, u110, u111, u112, u113, u114, u115, u116, u117, u118, u119, u120, u121, u122, u123, u124, u125, u126, u127, u128, u129, u130, u131, u132, u133, u134, u135, u136, u137, u138, u139, u140, u141, u142, u143, u144, u145, u146, u147, u148, u149, u150, u151, u152, u153, u154, u155, u156, u157, u158, u159, u160, u161, u162, u163, u164, u165, u166, u167, u168, u169, u170, u171, u172, u173, u174, u175, u176, u177, u178, u179, u180, u181, u182, u183, u184, u185, u186, u187, u188, u189, u190, u191, u192, u193, u194, u195, u196, u197, u198, u199, u200, u201, u202, u203, u204, u205, u206, u207, u208, u209, u210, u211, u212, u213, u214, u215, u216, u217, u218, u219, u220, u221, u222, u223, u224, u225, u226, u227, u228, u229, u230, u231, u232, u233, u234, u235, u236, u237, u238, u239, u240, u241, u242, u243, u244, u245, u246, u247, u248, u249, u250, u251, u252, u253, u254, u255, u256, u257, u258, u259, u260, u261, u262, u263, u264, u265, u266, u267, u268, u269, u270, u271, u272, u273, u274, u275, u276, u277, u278, u279, u280, u281, u282, u283, u284, u285, u286, u287, u288, u289, u290, u291, u292, u293, u294, u295, u296, u297, u298, u299, u300, u301, u302, u303, u304, u305, u306, u307, u308, u309, u310, u311, u312, u313, u314, u315, u316, u317, u318, u319, v320, v321, v322, v323, v324, v325, v326, v327, v328, v329, v330, v331, v332, v333, v334, v335, v336, v337, v338, v339, v340, v341, v342, v343, v344, v345, v346, v347, v348, v349, v350, v351, v352, v353, v354, v355, v356, v357, v358, v359, v360, v361, v362, v363, v364, v365, v366, v367, v368, v369, v370, v371, v372, v373, v374, v375, v376, v377, v378, v379, v380, v381, v382, v383, v384, v385, v386, v387, v388, v389, v390, v391, v392, v393, v394, v395, v396, v397, v398, v399, v400, v401, v402, v403, v404, v405, v406, v407, v408, v409, v410, v411, v412, v413, v414, v415, v416, v417, v418, v419, v420, v421, v422, v423, v424, v425, v426, v427, v428, v429, u430], defers := [] } w') :
  ((loopsOf (Tryz.f4.body.getD .skip)).getD 5 .skip).wp Tryz.prog Q { tmps := #[u0, u1, u2, u3, u4, u5, u6, u7, u8, u9, u10, u11, u12, u13, u14, .int .i64 (o : Int), u16, u17, .slice (some ⟨gB, 0, none⟩) n n, u19, u20, .slice pT m cT, .slice pD m cD, .slice (some ⟨gb, 0, none⟩) mg cb, u24, u25, u26, u27, u28, u29, u30, u31, u32, u33, u34, u35, u36, u37, u38, .int .i64 0, u40, u41, u42, u43, u44, u45, u46, u47, u48, u49, u50, u51, u52, u53, u54, u55, u56, u57, u58, u59, u60, u61, u62, u63, u64, u65, u66, u67, u68, u69, u70, u71, u72, u73, u74, u75, u76, u77, u78, u79, u80, u81, u82, u83, u84, u85, u86, u87, u88, u89, u90, u91, u92, u93, u94, u95, u96, u97, u98, u99, u100, u101, u102, u103, u104, u105, u106, u107, u108, u109, u110, u111, u112, u113, u114, u115, u116, u117, u118, u119, u120, u121, u122, u123, u124, u125, u126, u127, u128, u129, u130, u131, u132, u133, u134, u135, u136, u137, u138, u139, u140, u141, u142, u143, u144, u145, u146, u147, u148, u149, u150, u151, u152, u153, u154, u155, u156, u157, u158, u159, u160, u161, u162, u163, u164, u165, u166, u167, u168, u169, u170, u171, u172, u173, u174, u175, u176, u177, u178, u179, u180, u181, u182, u183, u184, u185, u186, u187, u188, u189, u190, u191, u192, u193, u194, u195, u196, u197, u198, u199, u200, u201, u202, u203, u204, u205, u206, u207, u208, u209, u210, u211, u212, u213, u214, u215, u216, u217, u218, u219, u220, u221, u222, u223, u224, u225, u226, u227, u228, u229, u230, u231, u232, u233, u234, u235, u236, u237, u238, u239, u240, u241, u242, u243, u244, u245, u246, u247, u248, u249, u250, u251, u252, u253, u254, u255, u256, u257, u258, u259, u260, u261, u262, u263, u264, u265, u266, u267, u268, u269, u270, u271, u272, u273, u274, u275, u276, u277, u278, u279, u280, u281, u282, u283, u284, u285, u286, u287, u288, u289, u290, u291, u292, u293, u294, u295, u296, u297, u298, u299, u300, u301, u302, u303, u304, u305, u306, u307, u308, u309, u310, u311, u312, u313, u314, u315, u316, u317, u318, u319, u320, u321, u322, u323, u324, u325, u326, u327, u328, u329, u330, u331, u332, u333, u334, u335, u336, u337, u338, u339, u340, u341, u342, u343, u344, u345, u346, u347, u348, u349, u350, u351, u352, u353, u354, u355, u356, u357, u358, u359, u360, u361, u362, u363, u364, u365, u366, u367, u368, u369, u370, u371, u372, u373, u374, u375, u376, u377, u378, u379, u380, u381, u382, u383, u384, u385, u386, u387, u388, u389, u390, u391, u392, u393, u394, u395, u396, u397, u398, u399, u400, u401, u402, u403, u404, u405, u406, u407, u408, u409, u410, u411, u412, u413, u414, u415, u416, u417, u418, u419, u420, u421, u422, u423, u424, u425, u426, u427, u428, u429, u430], defers := [] } w := by
 have HQ := hide hQ; have HOk := hide hok; have HM := hide hm; have HG := hide hg; have HMg := hide hmg; have HE := hide hE; have HPut := hide hput; have HB0 := hide hB; have HT := hide hT; have HD := hide hD; have HTo := hide hto; have HPl := hide hpl; have HZ0 := hide hz0; have HZ1 := hide hz1
 have hlen : t.l.length = mg := by rw [Bgd.len, hm, hg, hmg]
 have HLen := hide hlen
 clear hQ hok hm hg hmg hput hE hlen hB hT hD hto hpl hz0 hz1
 simp only [Tryz.f4, Option.getD, loopsOf, List.append_eq, List.nil_append, List.append_nil, List.cons_append, List.getD, List.getElem?_cons_succ, List.getElem?_cons_zero]
 go_loopw [39] (fun si wr => ∃ k : Nat, k ≤ m ∧ si = .int .i64 k ∧ Hid (Below w.heap.size w wr)) (fun si _ => m - (intOf si).toNat)
 case atStart => exact ⟨0, Nat.zero_le _, rfl, hide (Below.refl _ _)⟩
 case round =>
  obtain ⟨k, hkl, rfl, HB⟩ := hrel
  by_cases hlt : k < m
  ·obtain ⟨bt, ot, yt, hpt, hyt, ct⟩ := HT.out.at_ (i := k) (by simpa using hlt)
   rw [List.getElem?_map, List.getElem?_range hlt] at hyt; injection hyt with hyt; subst hyt
   have ct' : w.cell? ⟨bt, ot + k, none⟩ = some (.int .i64 (tn k : Int)) := ct
   obtain ⟨bd, od, yd, hpd, hyd, cd⟩ := HD.out.at_ (i := k) (by simpa using hlt)
   rw [List.getElem?_map, List.getElem?_range hlt] at hyd; injection hyd with hyd; subst hyd
   have cd' : w.cell? ⟨bd, od + k, none⟩ = some (.int .i64 (t.dest k : Int)) := cd
   clear ct cd
   have hdg := HOk.out.dest k (by rw [HM.out]; exact hlt)
   rw [HG.out] at hdg
   obtain ⟨bb, ob, hpb, _, _, m2, m3, _⟩ := HE.out.bx (i := k) (by rw [HLen.out]; have := HMg.out; omega)
   rw [Bgd.getD (by rw [HM.out]; omega), Bgd.bx_item (by rw [HM.out]; exact hlt), HPut.out k hlt, HM.out] at m2 m3
   rw [if_pos rfl] at m2 m3
   injection hpb with hpb; injection hpb with e1 e2; subst e1; subst e2
   have hpl := HPl.out _ hdg
   have hz0 := HZ0.out k hlt
   have hz1 := HZ1.out k hlt
   have hto := HTo.out k hlt
   generalize t.dest k = dj at *
   generalize tn k = d at *
   rw [hpl.1] at m3
   generalize pl dj = pj at *
   have hpn := hpl.2
   obtain ⟨z, hz⟩ : ∃ z, m + dj = z := ⟨_, rfl⟩
   rw [hz] at m2
   have hzz : IntKind.i64.wrap ((m : Int) + (dj : Int)) = (z : Int) := by rw [IntWalk.i64_in _ (by omega)]; omega
   obtain ⟨b1, o1, b2, o2, c2, hp1, r1, e1⟩ := HB0.out o ho
   obtain ⟨b3, o3, b4, o4, c4, hp3, r3, e3⟩ := HB0.out pj hpn
   injection hp1 with hp1; injection hp1 with e5 e6; subst e5; subst e6
   injection hp3 with hp3; injection hp3 with e5 e6; subst e5; subst e6
   have a1 := e1 d hto; have a3 := e3 d hto
   rw [Nat.zero_add] at r1 r3 m2 m3
   obtain ⟨D, hD⟩ : ∃ D : Int, (dj : Int) = D := ⟨_, rfl⟩
   obtain ⟨P, hP⟩ : ∃ P : Int, (pj : Int) = P := ⟨_, rfl⟩
   have hP2 : pj = P.toNat := by omega
   rw [hD] at cd' hzz
   rw [hP2] at r3
   have m3' : w.cell? ⟨gb, k * 5 + 3, none⟩ = some (.int .i64 P) := hP ▸ m3
   have x2 := cell_later HB.out cd'; have x3 := cell_later HB.out m2; have x4 := cell_later HB.out m3'; have x5 := cell_later HB.out r1; have x6 := cell_later HB.out r3
   have K0 := hide (And.intro ct' (And.intro cd' (And.intro r1 (And.intro r3 (And.intro a1 a3)))))
   clear ct' cd' m2 m3 m3' r1 r3 a1 a3 e1 e3
   have q1 : (0 : Int) ≤ (k : Int) := by omega
   have q2 : (k : Int) < (m : Int) := by omega
   have q3 : (k : Int) < (mg : Int) := by have := HMg.out; omega
   have q4 : (0 : Int) ≤ P := by omega
   have q5 : P < (n : Int) := by omega
   have q6 : (0 : Int) ≤ (o : Int) := by omega
   have q7 : (o : Int) < (n : Int) := by omega
   have q8 : (0 : Int) ≤ (d : Int) := by omega
   have q9 : (d : Int) < (n : Int) := by omega
   have f1 : ¬ (P < 0) := by omega
   have f2 : ¬ ((n : Int) ≤ P) := by omega
   have d1 : decide (P < 0) = false := decide_eq_false f1
   have d2 : decide ((n : Int) ≤ P) = false := decide_eq_false f2
   subst hpt; subst hpd
   have f3 : ((z : Int) != (z : Int)) = false := by simp
   have f4 : ((n : Int) != (n : Int)) = false := by simp
   have Hz0 := hide hz0; have Hz1 := hide hz1
   clear hz0 hz1 hdg hpl hz
   go_wp2
   go_quiet (fail)
   have HB1 : Hid (Below w.heap.size w (wr.drewN nq)) := hide (below_drewN' HB.out nq)
   clear x2 x3 x4 x5 x6 HB
   generalize wr.drewN nq = w1 at *
   go_wp2
   have x1 := cell_later HB1.out K0.out.1; have x2 := cell_later HB1.out K0.out.2.1
   clear f1 f2 d1 d2 f3 f4
   have HB4 : Hid (∀ n, Below w.heap.size w (w1.drewN n)) := hide (fun n => below_drewN' HB1.out n)
   by_cases hd0 : dj = 0
   ·have hdo := Hz0.out hd0
    obtain rfl : D = 0 := by omega
    clear hzz Hz1 Hz0
    subst hdo
    clear hD hd0 hpn hto HB1 hP hP2
    go_quiet (fail)
    go_wp2
    go_roundw
    case rel => exact ⟨k + 1, by omega, by go_num, hide (HB4.out nq)⟩
    case measure => simp [intOf]; omega
   ·obtain ⟨g5, g6⟩ := Hz1.out (by omega)
    have x5 := cell_later HB1.out K0.out.2.2.1; have x6 := cell_later HB1.out K0.out.2.2.2.1; have x7 := cell_later HB1.out K0.out.2.2.2.2.1; have x8 := cell_later HB1.out K0.out.2.2.2.2.2
    have g1 : (D == 0) = false := by simp; omega
    have g3 : (0 : Int) < D := by omega
    clear K0 Hz0 Hz1 HB0
    generalize B pj d = v1 at *
    generalize B o d = v2 at *
    have g7 : ¬ (v1 < 0) := by omega
    have g8 : ¬ (v2 ≤ v1) := by omega
    clear hd0 hpn hto HB1 g5 g6 hD hP hP2
    go_quiet (fail)
    go_wp2
    go_roundw
    case rel => exact ⟨k + 1, by omega, by go_num, hide (HB4.out nq)⟩
    case measure => simp [intOf]; omega
  ·obtain rfl : k = m := by omega
   have q2 : ¬ (k : Int) < (k : Int) := by omega
   go_wp2
   exact HQ.out _ _ _ _ _ _ _ _ _ _ _ _ _ _ _ _ _ _ _ _ _ _ _ _ _ _ _ _ _ _ _ _ _ _ _ _ _ _ _ _ _ _ _ _ _ _ _ _ _ _ _ _ _ _ _ _ _ _ _ _ _ _ _ _ _ _ _ _ _ _ _ _ _ _ _ _ _ _ _ _ _ _ _ _ _ _ _ _ _ _ _ _ _ _ _ _ _ _ _ _ _ _ _ _ _ _ _ _ _ _ _ _ wr HB.out
end
section
open Go.RowKit Go.Shelf
attribute [local go_sem] Oper.semAt_some run_store_func
theorem passF_leads {N : Net} {nx φ : Mat} (hs : Snd N) (hp : PlanP N nx φ) {d : Nat} (hd : d < N.offs.length) (hl : ∀ x, x < N.offs.length → x ≠ d → nx x d ≠ -1) :
  ∀ (k x : Nat), x < N.offs.length → rankF N.offs.length (fun y => φ y d) x ≤ k → d ∈ passF N nx d k x := by
 intro k
 induction k with
 | zero =>
  intro x hx hr
  by_cases e : x = d
  ·subst e; simp [passF]
  ·obtain ⟨_, _, _, hd0, hd1⟩ := hp.dst hs hx hd (hl x hx e)
   have := rank_lt (n := N.offs.length) (f := fun y => φ y d) (o := x) (x := (linOf N (nx x d)).dst.toNat) (by omega) (hp.falls x d hx hd e (hl x hx e))
   omega
 | succ k ih =>
  intro x hx hr
  by_cases e : x = d
  ·subst e; rw [passF]; simp
  ·rw [passF_more e (hl x hx e)]
   obtain ⟨_, _, _, hd0, hd1⟩ := hp.dst hs hx hd (hl x hx e)
   have := rank_lt (n := N.offs.length) (f := fun y => φ y d) (o := x) (x := (linOf N (nx x d)).dst.toNat) (by omega) (hp.falls x d hx hd e (hl x hx e))
   exact List.mem_cons_of_mem _ (ih _ (by omega) (by omega))
theorem leads_all {N : Net} {fr till : Int} (hs : Snd N) (h6 : N.offs.length ≤ 20) (hl : ∀ a b, a < N.offs.length → b < N.offs.length → a ≠ b → nextF' N fr till a b ≠ -1) :
  ∀ x d, x < N.offs.length → d < N.offs.length → leadsF N (nextF' N fr till) x d = true := by
 intro x d hx hd
 have hp : PlanP N (nextF' N fr till) (boundF N fr till) := ⟨next_formed, next_falls hs⟩
 have hr := rank_bound (n := N.offs.length) (f := fun y => boundF N fr till y d) hx
 unfold leadsF
 exact decide_eq_true (passF_leads hs hp hd (fun y hy he => hl y d hy hd he) 19 x hx (by omega))
def bx9 : List Bx := [⟨str1 73, 0, -1, 0, false⟩, ⟨str1 66, 1, -1, 0, false⟩]
theorem str1_ne : str1 73 ≠ str1 66 := fun h => by
 have := congrArg (fun b : ByteArray => b.data.toList) h
 exact absurd this (by decide)
theorem bxsP9 (q : Int) (hq : q = -1 ∨ q = 1) : BxsP [⟨str1 73, 0, q, 0, false⟩, ⟨str1 66, 1, -1, 0, false⟩] := by
 rcases hq with rfl | rfl
 all_goals
  refine ⟨by simp, ?_, ?_, ?_, ?_, ?_, ?_, ?_⟩
  ·intro b hb; simp only [List.mem_cons, List.not_mem_nil, or_false] at hb; rcases hb with rfl | rfl <;> exact ⟨by decide, by decide⟩
  ·simp only [List.map_cons, List.map_nil, List.nodup_cons, List.mem_singleton, List.not_mem_nil, not_false_eq_true, List.nodup_nil, and_true]; exact str1_ne
  ·intro b hb; simp only [List.mem_cons, List.not_mem_nil, or_false] at hb; rcases hb with rfl | rfl <;> exact ⟨by decide, by decide⟩
  ·intro b hb; simp only [List.mem_cons, List.not_mem_nil, or_false] at hb; rcases hb with rfl | rfl <;> exact ⟨by decide, by decide⟩
  ·intro b hb; simp only [List.mem_cons, List.not_mem_nil, or_false] at hb; rcases hb with rfl | rfl <;> exact ⟨by decide, by decide⟩
  ·intro b hb; simp only [List.mem_cons, List.not_mem_nil, or_false] at hb; rcases hb with rfl | rfl <;> (intro h; cases h)
  ·intro b hb h0
   simp only [List.mem_cons, List.not_mem_nil, or_false] at hb
   rcases hb with rfl | rfl
   ·first
    | exact absurd h0 (by decide)
    | exact ⟨⟨str1 66, 1, -1, 0, false⟩, rfl, by decide, rfl⟩
   ·exact absurd h0 (by decide)
theorem putP9 : PutP bx9 0 1 := ⟨bxsP9 (-1) (.inl rfl), by decide, by decide, rfl, by decide, rfl, rfl, rfl⟩
theorem put9 : putF bx9 0 1 = [⟨str1 73, 0, 1, 0, false⟩, ⟨str1 66, 1, -1, 0, false⟩] := rfl
theorem root9 : rootF (putF bx9 0 1) 0 = 1 := by rw [put9]; rfl
end
section
open Go.RowKit Go.Shelf
attribute [local go_sem] Oper.semAt_some run_store_func
theorem PlanAt.cap {W : World} {N M : Net} {fr till : Int} {P Q : Pln} {b b' : Nat} {p p' : Option Addr} {c c' : Nat} (hk : KwAt W) (hn : NetAt W N) (hm : NetAt W M) (hs : soundB N = true) (ht : soundB M = true) (h : PlanAt b N fr till P p c W) (k : PlanAt b' M fr till Q p' c' W) (hfp : M.fp = N.fp) (ho : M.offs = N.offs) :
  CaP W N M P Q (nextF' N fr till) (nextF' M fr till) := ⟨hk, hn, hm, hs, ht, h.next, k.next, next_formed, next_formed, h.nn, k.nn, hfp, ho⟩
set_option maxRecDepth 100000 in
set_option maxHeartbeats 2000000 in
theorem planned_c (w : World) (R) (hk : KwAt w) (hR : ∀ w', Below w.heap.size w w' → R (.returned (.bool true)) w') : Calls Tryz.prog 6 #[] w R := by
 have HR := hide hR; have HK := hide hk
 clear hR hk
 go_enter Tryz.func6, Tryz.ntmps6
 go_wp2_with (go_at_call 32; refine Stop.out ?_)
 refine Stop.go (net9_c w _ ?_)
 intro w1 wk ca na op of li cl hb1 hN1
 have hS := sound9 (wk := wk) (ca := ca) (na := na) (op := op) (of := of) (li := li) (cl := cl)
 have hC := comp9 (wk := wk) (ca := ca) (na := na) (op := op) (of := of) (li := li) (cl := cl)
 have hA := carry9 (wk := wk) (ca := ca) (na := na) (op := op) (of := of) (li := li) (cl := cl)
 have hL := lead9 (wk := wk) (ca := ca) (na := na) (op := op) (of := of) (li := li) (cl := cl)
 have hn2 : (net9 wk ca na op of li cl).offs.length = 2 := rfl
 generalize net9 wk ca na op of li cl = N at *
 obtain ⟨w2, hw2⟩ : ∃ w2, w1.alloc (.cells N.cells 29) = w2 := ⟨_, rfl⟩
 have hb2 : Below w.heap.size w w2 := hw2 ▸ balloc hb1 _
 have k2 : Blk w2 w1.heap.size N.cells 29 := hw2 ▸ Blk.new _ _ _
 have HB2 := hide hb2; have HK2 := hide k2; have HN2 := hide (hN1.next (hw2 ▸ balloc (Below.refl _ _) _))
 have HS := hide hS; have HC := hide hC; have HA := hide hA; have HL := hide hL; have Hn2 := hide hn2
 unfold Net.cells at hw2 ⊢
 obtain ⟨y0, y1, y2, y3, y4, y5⟩ := k2.net6
 clear hb1 hN1 hS hC hA hL hb2 k2 hn2
 go_wp2_with (go_at_call 9; refine Stop.out ?_)
 clear hw2
 refine Stop.go (compile_c N 0 5 w2 _ (HK.out.next HB2.out) HN2.out ?_ (fun w' h _ => absurd HC.out h))
 intro w3 P p cap _ hb hPl
 have hg1 : w1.heap.size < w2.heap.size := HK2.out.lt
 have HB3 := hide (bseq HB2.out hb); have HK3 := hide (HK2.out.next hb); have HN3 := hide (HN2.out.next hb); have HPl := hide hPl
 clear hb hPl y0 y1 y2 y3 y4 y5 HB2 HK2 HN2
 generalize w2.heap.size = g2 at *
 generalize w1.heap.size = g1 at *
 generalize (certF N 0 5).length = cn at *
 generalize sealF (certF N 0 5) = cs at *
 unfold Pln.cells
 go_wp2_with (go_at_call 20; refine Stop.out ?_)
 obtain ⟨w4, hw4⟩ : ∃ w4, ((w3.alloc (.cells P.cells.toArray 39)).alloc (.cells #[.slice p cn cap, .int .i64 cs] 42)).alloc (.cells (bx9.flatMap Bx.cells).toArray 69) = w4 := ⟨_, rfl⟩
 have hb4 : Below w3.heap.size w3 w4 := hw4 ▸ balloc (balloc (balloc (Below.refl _ _) _) _) _
 have kP : Blk w4 w3.heap.size P.cells.toArray 39 := by rw [← hw4]; exact Blk.alloc (Blk.alloc (Blk.new _ _ _) _) _
 have kB : Blk w4 (w3.heap.size + 1 + 1) (bx9.flatMap Bx.cells).toArray 69 := by rw [← hw4]; exact Blk.new_at (by simp)
 have HBx := hide (EncAt.of_blk (enc := Bx.cells) (k := 5) (fun _ => rfl) kB rfl)
 have HB4 := hide (bseq HB3.out hb4); have HK4 := hide (HK3.out.next hb4); have HN4 := hide (HN3.out.next hb4); have HP4 := hide kP
 have HM4 := hide (HPl.out.next.next hb4)
 have Hnn := hide HPl.out.nn
 have hw4' := hw4
 simp only [Pln.cells, bx9, List.flatMap_cons, List.flatMap_nil, Bx.cells, List.append_nil, List.cons_append, List.nil_append, str1] at hw4'
 rw [hw4']
 clear hw4 hw4' hb4 kP kB HPl HB3 HK3 HN3
 generalize w3.heap.size = g3 at *
 refine Stop.go (nPut_c bx9 0 1 (some ⟨g3 + 1 + 1, 0, none⟩) 2 w4 _ HBx.out putP9 ?_)
 intro w5 g5 cap5 hb hown
 rw [show bx9.length = 2 from rfl]
 have HB5 := hide (bseq HB4.out hb); have HK5 := hide (HK4.out.next hb); have HN5 := hide (HN4.out.next hb); have HP5 := hide (HP4.out.next hb); have HM5 := hide (HM4.out.next hb)
 have HE5 : Hid (EncAt 5 Bx.cells w5 (some ⟨g5, 0, none⟩) (putF bx9 0 1)) := hide (EncAt.of_own bx_len (by decide) hown)
 have hcap : CaP w5 N N P P (nextF' N 0 5) (nextF' N 0 5) := ⟨HK.out.next HB5.out, HN5.out, HN5.out, HS.out, HS.out, HM5.out, HM5.out, next_formed, next_formed, Hnn.out, Hnn.out, rfl, rfl⟩
 have HCp := hide hcap
 clear hb hown hcap HBx HB4 HK4 HN4 HP4 HM4
 obtain ⟨y0, y1, y2, y3, y4, y5⟩ := HK5.out.net6
 have p0 := HP5.out.cell (k := 0) (v := .int .i64 P.fr) rfl; have p1 := HP5.out.cell (k := 1) (v := .int .i64 P.till) rfl; have p2 := HP5.out.cell (k := 2) (v := .slice P.np P.nn P.nc) rfl; have p3 := HP5.out.cell (k := 3) (v := .slice P.dp P.dn P.dc) rfl
 have Ho0 : Hid ((0 : Nat) < N.offs.length) := hide (by have := Hn2.out; omega)
 have Ho1 : Hid ((1 : Nat) < N.offs.length) := hide (by have := Hn2.out; omega)
 go_wp2_with (go_at_call 12; refine Stop.out ?_)
 have ha := tCarry_c N N P P (nextF' N 0 5) (nextF' N 0 5) ⟨#[]⟩ 0 1 0 100 500 w5
 unfold Net.cells Pln.cells postC at ha
 rw [show ((0 : Nat) : Int) = 0 from rfl, show ((1 : Nat) : Int) = 1 from rfl] at ha
 refine Stop.go (ha _ HCp.out Ho0.out Ho1.out (by decide) (by decide) (by decide) (by decide) ?_ (fun e w' h _ => by rw [HA.out] at h; cases h))
 intro l w6 g6 cap6 hl hb hown
 rw [HA.out] at hl; injection hl with hl; subst hl
 have HB6 := hide (bseq HB5.out hb); have HCp6 := hide (HCp.out.next hb); have HK6 := hide (HK5.out.next hb); have HP6 := hide (HP5.out.next hb)
 have HE6 := hide (HE5.out.keep (Keeps.of_below hb))
 have HW : Hid (EncAt 4 Stp.cells w6 (some ⟨g6, 0, none⟩) [⟨0, 100, 480, 0⟩, ⟨1, 600, -1, -1⟩]) := hide (EncAt.of_own stp_len (by decide) hown)
 clear hb hown ha y0 y1 y2 y3 y4 y5 p0 p1 p2 p3 HE5 HB5 HK5 HN5 HP5 HM5 HCp
 have hlen2 : ([⟨0, 100, 480, 0⟩, ⟨1, 600, -1, -1⟩] : List Stp).length = 2 := rfl
 rw [hlen2]
 clear hlen2
 go_wp2_with (go_at_call 33; refine Stop.out ?_)
 have hr := root_c (putF bx9 0 1) (some ⟨g5, 0, none⟩) cap5 0 w6
 rw [show ((0 : Nat) : Int) = 0 from rfl, show (putF bx9 0 1).length = 2 from rfl] at hr
 refine Stop.go (hr _ HE6.out (bxsP9 1 (.inr rfl)) (by decide) ?_)
 rw [root9]
 intro w7 hb
 have HB7 := hide (bseq HB6.out hb); have HCp7 := hide (HCp6.out.next hb); have HK7 := hide (HK6.out.next hb); have HP7 := hide (HP6.out.next hb)
 obtain ⟨b0, o0, s0, hp0, hs0, hc0⟩ := (HW.out.keep (Keeps.of_below hb)).at_ (i := 0) (by decide)
 injection hp0 with hp0; injection hp0 with e1 e2; subst e1; subst e2
 injection hs0 with hs0; subst hs0
 obtain ⟨b1, o1, s1, hp1, hs1, hc1⟩ := (HW.out.keep (Keeps.of_below hb)).at_ (i := 1) (by decide)
 injection hp1 with hp1; injection hp1 with e1 e2; subst e1; subst e2
 injection hs1 with hs1; subst hs1
 have d0 : w7.cell? ⟨g6, 2, none⟩ = some (.int .i64 480) := hc0 2 _ rfl
 have d1 : w7.cell? ⟨g6, 4, none⟩ = some (.int .i64 1) := hc1 0 _ rfl
 obtain ⟨y0, y1, y2, y3, y4, y5⟩ := HK7.out.net6
 have p0 := HP7.out.cell (k := 0) (v := .int .i64 P.fr) rfl; have p1 := HP7.out.cell (k := 1) (v := .int .i64 P.till) rfl; have p2 := HP7.out.cell (k := 2) (v := .slice P.np P.nn P.nc) rfl; have p3 := HP7.out.cell (k := 3) (v := .slice P.dp P.dn P.dc) rfl
 clear hb hc0 hc1 hr HE6 HB6 HCp6 HK6 HP6
 go_wp2_with (go_at_call 11; refine Stop.out ?_)
 have hs := safe_c N N P P (nextF' N 0 5) (nextF' N 0 5) 500 w7
 unfold Net.cells Pln.cells at hs
 refine Stop.go (hs _ HCp7.out (by decide) (by decide) (leads_all (snd_of HS.out) (by have := Hn2.out; omega) (by rw [Hn2.out]; exact HL.out)) ?_)
 intro w8 hb
 have HF := hide (HR.out w8 (bseq HB7.out hb))
 clear hb hs y0 y1 y2 y3 y4 y5 p0 p1 p2 p3 d0 d1
 go_wp2
 exact HF.out
end
end Go.Proofs.YtgfhcmidnbahjaaGreatDoor
