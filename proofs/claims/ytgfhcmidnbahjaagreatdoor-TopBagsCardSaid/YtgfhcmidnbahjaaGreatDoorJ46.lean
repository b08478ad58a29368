/- TopBags: a part of her walk (printed by genBP.py). TopBags: a part of her walk (printed by genBP.py). -/
import Derived.Test.YtgfhcmidnbahjaaGreatDoorJ44
import Derived.Test.YtgfhcmidnbahjaaGreatDoorJ45
set_option linter.unusedVariables false
set_option linter.unusedSimpArgs false
namespace Go.Proofs.YtgfhcmidnbahjaaGreatDoor
open Go
variable {u0 u1 u2 u3 u4 u5 u6 u7 u8 u9 u10 u11 u12 u13 u14 u15 u16 u17 u18 u19 u20 u21 u22 u23 u24 u25 u26 u27 u28 u29 u30 u31 u32 u33 u34 u35 u36 u37 u38 u39 u40 u41 u42 u43 u44 u45 u46 u47 u48 u49 u50 u51 u52 u53 u54 u55 u56 u57 u58 u59 u60 u61 u62 u63 u64 u65 u66 u67 u68 u69 u70 u71 u72 u73 u74 u75 u76 u77 u78 u79 u80 u81 u82 u83 u84 u85 u86 u87 u88 u89 u90 u91 u92 u93 u94 u95 u96 u97 u98 u99 u100 u101 u102 u103 u104 u105 u106 u107 u108 u109 u110 u111 u112 u113 u114 u115 u116 u117 u118 u119 u120 u121 u122 u123 u124 u125 u126 u127 u128 u129 u130 u131 u132 u133 u134 u135 u136 u137 u138 u139 u140 u141 u142 u143 u144 u145 u146 u147 u148 u149 u150 u151 u152 u153 u154 u155 u156 u157 u158 u159 u160 u161 u162 u163 u164 u165 u166 u167 u168 u169 u170 u171 u172 u173 u174 u175 u176 u177 u178 u179 u180 u181 u182 u183 u184 u185 u186 u187 u188 u189 u190 u191 u192 u193 u194 u195 u196 u197 u198 u199 u200 u201 u202 u203 u204 u205 u206 u207 u208 u209 u210 u211 u212 u213 u214 u215 u216 u217 u218 u219 u220 u221 u222 u223 u224 u225 u226 u227 u228 u229 u230 u231 u232 u233 u234 u235 u236 u237 u238 u239 u240 u241 u242 u243 u244 u245 u246 u247 u248 u249 u250 u251 u252 u253 u254 u255 u256 u257 u258 u259 u260 u261 u262 u263 u264 u265 u266 u267 u268 u269 u270 u271 u272 u273 u274 u275 u276 u277 u278 u279 u280 u281 u282 u283 u284 u285 u286 u287 u288 u289 u290 u291 u292 u293 u294 u295 u296 u297 u298 u299 u300 u301 u302 u303 u304 u305 u306 u307 u308 u309 u310 u311 u312 u313 u314 u315 u316 u317 u318 u319 u320 u321 u322 u323 u324 u325 u326 u327 u328 u329 u330 u331 u332 u333 u334 u335 u336 u337 u338 u339 u340 u341 u342 u343 u344 u345 u346 u347 u348 u349 u350 u351 u352 u353 u354 u355 u356 u357 u358 u359 u360 u361 u362 u363 u364 u365 u366 u367 u368 u369 u370 u371 u372 u373 u374 u375 u376 u377 u378 u379 u380 u381 u382 u383 u384 u385 u386 u387 u388 u389 u390 u391 u392 u393 u394 u395 u396 u397 u398 u399 u400 u401 u402 u403 u404 u405 u406 u407 u408 u409 u410 u411 u412 u413 u414 u415 u416 u417 u418 u419 u420 u421 u422 u423 u424 u425 u426 u427 u428 u429 u430 : Value}
section
open Go.RowKit Go.Shelf
attribute [local go_sem] Oper.semAt_some run_store_func
set_option maxRecDepth 100000 in
set_option maxHeartbeats 8000000 in
theorem bag_l2 {w : World} {Q : Exit → Act → World → Prop} (s0 : Bgd) (m g mg : Nat) (pD pO : Option Addr) (cD cO gb cb : Nat) (ord : List Nat)
  (hs : BgP s0) (hm : s0.m = m) (hg : s0.g = g) (hmg : m + g = mg) (hm20 : m ≤ 20) (hg20 : g ≤ 20) (hp0 : ∀ i, s0.put i = false) (hs0 : ∀ i, s0.shut i = false) (hl0 : ∀ i, s0.plc i = s0.at_) (hE : EncAt 5 Bx.cells w (some ⟨gb, 0, none⟩) s0.l) (hperm : ord.Perm (List.range m)) (hO : IntsAt .i64 w pO (intsN ord)) (hD : IntsAt .i64 w pD ((List.range m).map fun i => (s0.dest i : Int)))
  (hQ : ∀ (v10 v30 v31 v197 v198 v199 v200 v201 v202 v203 v204 v205 v206 v207 v208 v209 v210 v211 v212 v213 v214 v215 v216 v217 v218 v219 v220 v221 v222 v223 v224 v225 v226 v227 v228 v229 v230 v231 v232 v233 v234 v235 v236 v237 v238 : Value) (w' : World) (gb' cb' : Nat) (t : Bgd), Below w.heap.size w w' → BgQ s0 t → (∀ i, i < m → t.put i = true) → (∀ i, t.shut i = false) → (∀ i, t.plc i = s0.at_) → EncAt 5 Bx.cells w' (some ⟨gb', 0, none⟩) t.l → Q (.exit 4) { tmps := #[u0, u1, u2, u3, u4, u5, u6, u7, u8, u9, v10, u11, u12, u13, u14, u15, u16, u17, u18, u19, u20, u21, .slice pD m cD, .slice (some ⟨gb', 0, none⟩) mg cb', u24, u25, u26, .slice pO m cO, u28, .int .i64 (m : Int), v30, v31, u32, u33, u34, u35, u36, u37, u38, u39, u40, u41, u42, u43, u44, u45, u46, u47, u48, u49, u50, u51, u52, u53, u54, u55, u56, u57, u58, u59, u60, u61, u62, u63, u64, u65, u66, u67, u68, u69, u70, u71, u72, u73, u74, u75, u76, u77, u78, u79, u80, u81, u82, u83, u84, u85, u86, u87, u88, u89, u90, u91, u92, u93, u94, u95, u96, u97, u98, u99, u100, u101, u102, u103, u104, u105, u106, u107, u108, u109, u110, u111, u112, u113, u114, u115, u116, u117, u118, u119, u120, u121, u122, u123, u124, u125, u126, u127, u128, u129, u130, u131, u132, u133, u134, u135, u136, u137, u138, u139, u140, u141, u142, u143, u144, u145, u146, u147, u148, u149, u150, u151, u152, u153, u154, u155, u156, u157, u158, u159, u160, u161, u162, u163, u164, u165, u166, u167, u168, u169, u170, u171, u172, u173, u174, u175, u176, u177, u178, u179, u180, u181, u182, u183, u184, u185, u186, u187, u188, u189, u190, u191, u192, u193, u194, u195, u196, v197, v198, v199, v200, v201, v202, v203, v204, v205, v206, v207, v208, v209, v210, v211, v212, v213, v214, v215, v216, v217, v218, v219, v220, v221, v222, v223, v224, v225, v226, v227, v228, v229, v230, v231, v232, v233, v234, v235, v236, v237, v238, u239, u240, u241, u242, u243, u244, u245, u246, u247, u248, u249, u250, u251, u252, u253, u254, u255, u256, u257, u258, u259, u260, u261, u262, u263, u264, u265, u266, u267, u268, u269, u270, u271, u272, u273, u274, u275, u276, u277, u278, u279, u280, u281, u282, u283, u284, u285, u286, u287, u288, u289, u290, u291, u292, u293, u294, u295, u296, u297, u298, u299, u300, u301, u302, u303, u304, u305, u306, u307, u308, u309, u310, u311, u312, u313, u314, u315, u316, u317, u318, u319, u320, u321, u322, u323, u324, u325, u326, u327, u328, u329, u330, u331, u332, u333, u334, u335, u336, u337, u338, u339, u340, u341, u342, u343, u344, u345, u346, u347, u348, u349, u350, u351, u352, u353, u354, u355, u356, u357, u358, u359, u360, u361, u362, u363, u364, u365, u366, u367, u368, u369, u370, u371, u372, u373, u374, u375, u376, u377, u378, u379, u380, u381, u382, u383, u384, u385, u386, u387, u388, u389, u390, u391, u392, u393, u394, u395, u396, u397, u398, u399, u400, u401, u402, u403, u404, u405, u406, u407, u408, u409, u410, u411, u412, u413, u414, u415, u416, u417, u418, u419, u420, u421, u422, u423, u424, u425, u426, u427, u428, u429, u430], defers := [] } w') :
  ((loopsOf (Tryz.f4.body.getD .skip)).getD 2 .skip).wp Tryz.prog Q { tmps := #[u0, u1, u2, u3, u4, u5, u6, u7, u8, u9, u10, u11, u12, u13, u14, u15, u16, u17, u18, u19, u20, u21, .slice pD m cD, .slice (some ⟨gb, 0, none⟩) mg cb, u24, u25, u26, .slice pO m cO, u28, .int .i64 0, u30, u31, u32, u33, u34, u35, u36, u37, u38, u39, u40, u41, u42, u43, u44, u45, u46, u47, u48, u49, u50, u51, u52, u53, u54, u55, u56, u57, u58, u59, u60, u61, u62, u63, u64, u65, u66, u67, u68, u69, u70, u71, u72, u73, u74, u75, u76, u77, u78, u79, u80, u81, u82, u83, u84, u85, u86, u87, u88, u89, u90, u91, u92, u93, u94, u95, u96, u97, u98, u99, u100, u101, u102, u103, u104, u105, u106, u107, u108, u109, u110, u111, u112, u113, u114, u115, u116, u117, u118, u119, u120, u121, u122, u123, u124, u125, u126, u127, u128, u129, u130, u131, u132, u133, u134, u135, u136, u137, u138, u139, u140, u141, u142, u143, u144, u145, u146, u147, u148, u149, u150, u151, u152, u153, u154, u155, u156, u157, u158, u159, u160, u161, u162, u163, u164, u165, u166, u167, u168, u169, u170, u171, u172, u173, u174, u175, u176, u177, u178, u179, u180, u181, u182, u183, u184, u185, u186, u187, u188, u189, u190, u191, u192, u193, u194, u195, u196, u197, u198, u199, u200, u201, u202, u203, u204, u205, u206, u207, u208, u209, u210, u211, u212, u213, u214, u215, u216, u217, u218, u219, u220, u221, u222, u223, u224, u225, u226, u227, u228, u229, u230, u231, u232, u233, u234, u235, u236, u237, u238, u239, u240, u241, u242, u243, u244, u245, u246, u247, u248, u249, u250, u251, u252, u253, u254, u255, u256, u257, u258, u259, u260, u261, u262, u263, u264, u265, u266, u267, u268, u269, u270, u271, u272, u273, u274, u275, u276, u277, u278, u279, u280, u281, u282, u283, u284, u285, u286, u287, u288, u289, u290, u291, u292, u293, u294, u295, u296, u297, u298, u299, u300, u301, u302, u303, u304, u305, u306, u307, u308, u309, u310, u311, u312, u313, u314, u315, u316, u317, u318, u319, u320, u321, u322, u323, u324, u325, u326, u327, u328, u329, u330, u331, u332, u333, u334, u335, u336, u337, u338, u339, u340, u341, u342, u343, u344, u345, u346, u347, u348, u349, u350, u351, u352, u353, u354, u355, u356, u357, u358, u359, u360, u361, u362, u363, u364, u365, u366, u367, u368, u369, u370, u371, u372, u373, u374, u375, u376, u377, u378, u379, u380, u381, u382, u383, u384, u385, u386, u387, u388, u389, u390, u391, u392, u393, u394, u395, u396, u397, u398, u399, u400, u401, u402, u403, u404, u405, u406, u407, u408, u409, u410, u411, u412, u413, u414, u415, u416, u417, u418, u419, u420, u421, u422, u423, u424, u425, u426, u427, u428, u429, u430], defers := [] } w := by
 have HQ := hide hQ; have HS := hide hs; have HM := hide hm; have HG := hide hg; have HMg := hide hmg; have HP := hide hperm; have HO := hide hO; have HD := hide hD
 have hol : ord.length = m := by rw [hperm.length_eq, List.length_range]
 have HOl := hide hol
 have hst : Hid (∃ t : Bgd, BgQ s0 t ∧ (∀ i, t.put i = decide (i ∈ ord.take 0)) ∧ (∀ i, t.shut i = false) ∧ (∀ i, t.plc i = s0.at_) ∧ EncAt 5 Bx.cells w (some ⟨gb, 0, none⟩) t.l) := hide ⟨s0, ⟨hs, rfl, rfl, rfl, rfl⟩, fun i => by rw [hp0]; simp, hs0, hl0, hE⟩
 clear hQ hs hm hg hmg hp0 hs0 hl0 hE hperm hO hD hol
 simp only [Tryz.f4, Option.getD, loopsOf, List.append_eq, List.nil_append, List.append_nil, List.cons_append, List.getD, List.getElem?_cons_succ, List.getElem?_cons_zero]
 go_loopw [23, 29] (fun sb si wr => ∃ (k gk ck : Nat), k ≤ m ∧ si = .int .i64 k ∧ sb = .slice (some ⟨gk, 0, none⟩) mg ck ∧ Hid (∃ t : Bgd, BgQ s0 t ∧ (∀ i, t.put i = decide (i ∈ ord.take k)) ∧ (∀ i, t.shut i = false) ∧ (∀ i, t.plc i = s0.at_) ∧ EncAt 5 Bx.cells wr (some ⟨gk, 0, none⟩) t.l) ∧ Hid (Below w.heap.size w wr)) (fun _ si _ => m - (intOf si).toNat)
 case atStart => exact ⟨0, gb, cb, Nat.zero_le _, rfl, rfl, hst, hide (Below.refl _ _)⟩
 case round =>
  clear hst
  obtain ⟨k, gk, ck, hkl, rfl, rfl, HT, HB⟩ := hrel
  obtain ⟨t, hq, ht1, ht2, ht3, hte⟩ := HT.out
  by_cases hlt : k < m
  ·obtain ⟨x, hx⟩ : ∃ x, ord[k]? = some x := ⟨_, List.getElem?_eq_getElem (by rw [HOl.out]; exact hlt)⟩
   have hxm : x < m := List.mem_range.1 (HP.out.mem_iff.1 (List.mem_of_getElem? hx))
   obtain ⟨b1, o1, y1, hp1, hy1, c1w⟩ := HO.out.at_ (i := k) (by rw [intsN_len, HOl.out]; exact hlt)
   rw [intsN_at hx] at hy1; injection hy1 with hy1; subst hy1
   obtain ⟨b2, o2, y2, hp2, hy2, c2w⟩ := HD.out.at_ (i := x) (by simpa using hxm)
   rw [List.getElem?_map, List.getElem?_range hxm] at hy2; injection hy2 with hy2; subst hy2
   have htm : t.m = m := hq.m.trans HM.out
   have htg : t.g = g := hq.g.trans HG.out
   have hnot : x ∉ ord.take k := by
    have hnd : ord.Nodup := HP.out.nodup_iff.2 List.nodup_range
    intro hmem
    obtain ⟨j, hj⟩ := List.getElem?_of_mem hmem
    have hjk : j < k := by have := (List.getElem?_eq_some_iff.1 hj).1; rw [List.length_take] at this; omega
    rw [List.getElem?_take_of_lt hjk] at hj
    obtain ⟨h1, h2⟩ := List.getElem?_eq_some_iff.1 hj
    obtain ⟨h3, h4⟩ := List.getElem?_eq_some_iff.1 hx
    have := (List.pairwise_iff_getElem.1 hnd) j k h1 h3 hjk
    exact this (h2.trans h4.symm)
   have hput : t.put x = false := by rw [ht1]; exact decide_eq_false hnot
   have hdx : t.dest x = s0.dest x := by rw [hq.dest]
   have hPP : PutP t.l x (t.m + t.dest x) := Bgd.putP hq.ok (by omega) hput (by rw [ht3, hq.at_]) (ht2 _)
   have hPe : putF t.l x (t.m + t.dest x) = (t.putI x).l := Bgd.put_eq hq.ok (by omega) hput (by rw [ht3, hq.at_])
   have hlen : t.l.length = mg := by rw [Bgd.len, htm, htg, HMg.out]
   have hlen2 : (t.putI x).l.length = mg := by rw [Bgd.len]; show t.m + t.g = mg; rw [htm, htg, HMg.out]
   have hdg := hq.ok.dest x (by omega)
   rw [htm, hdx] at hPP hPe
   obtain ⟨z, hz⟩ : ∃ z, m + s0.dest x = z := ⟨_, rfl⟩
   have hzz : IntKind.i64.wrap ((m : Int) + (s0.dest x : Int)) = (z : Int) := by
    rw [hdx, htg] at hdg
    rw [IntWalk.i64_in _ (by omega)]; omega
   rw [hz] at hPP hPe
   have HT2 : Hid (BgQ s0 (t.putI x) ∧ (∀ i, (t.putI x).put i = decide (i ∈ ord.take (k + 1))) ∧ (∀ i, (t.putI x).shut i = false) ∧ (∀ i, (t.putI x).plc i = s0.at_)) := hide ⟨hq.putI x, fun i => by
    show updB t.put x true i = _
    have e : ord.take (k + 1) = ord.take k ++ [x] := by rw [List.take_add_one, hx]; rfl
    rw [e]
    by_cases hix : i = x
    ·subst hix; rw [updB_same]; exact (decide_eq_true (by simp)).symm
    ·rw [updB_ne hix, ht1]; exact decide_eq_decide.2 (by simp [hix]), ht2, ht3⟩
   have HPP := hide hPP; have HPe := hide hPe; have HLen := hide hlen; have HLen2 := hide hlen2; have HTe := hide hte
   have c1 := cell_later HB.out c1w; have c2 := cell_later HB.out c2w
   have KB : Hid (∀ W', Below wr.heap.size wr W' → W'.cell? ⟨b1, o1 + k, none⟩ = some (.int .i64 (x : Int)) ∧ W'.cell? ⟨b2, o2 + x, none⟩ = some (.int .i64 (s0.dest x : Int))) := hide (fun W' hb => ⟨cell_later hb c1, cell_later hb c2⟩)
   have q1 : (0 : Int) ≤ (k : Int) := by omega
   have q2 : (k : Int) < (m : Int) := by omega
   have q3 : (0 : Int) ≤ (x : Int) := by omega
   have q4 : (x : Int) < (m : Int) := by omega
   have t1 : ¬ ((x : Int) < 0) := by omega
   have t2 : ¬ ((m : Int) ≤ (x : Int)) := by omega
   subst hp1; subst hp2
   clear hx c1w c2w htm htg hnot hput hdx hPP hPe hlen hlen2 hdg hz hq ht1 ht2 ht3 hte HT c2
   go_wp2
   clear c1
   go_region_held3 (fun W' => W'.cell? ⟨b1, o1 + k, none⟩ = some (.int .i64 (x : Int)) ∧ W'.cell? ⟨b2, o2 + x, none⟩ = some (.int .i64 (s0.dest x : Int)))
    (first | exact KB.out _ (Below.refl _ _).drew | exact KB.out _ hb8)
    (first
    | (go_at_call 20
       have hcall := nPut_c t.l x z (some ⟨gk, 0, none⟩) ck wr.drew
       rw [HLen.out] at hcall
       refine hcall _ (HTe.out.keep (Keeps.of_below (Below.refl _ _).drew)) HPP.out ?_
       intro w8 g8 c8 hbb hown
       have hb8 : Below wr.heap.size wr w8 := bseq (Below.refl _ _).drew hbb))
   have hE8 : EncAt 5 Bx.cells w8 (some ⟨g8, 0, none⟩) (t.putI x).l := EncAt.of_own bx_len (by decide) (n := mg) (cap := c8) (by rw [HPe.out] at hown; exact hown)
   have HT8 : Hid (∃ t : Bgd, BgQ s0 t ∧ (∀ i, t.put i = decide (i ∈ ord.take (k + 1))) ∧ (∀ i, t.shut i = false) ∧ (∀ i, t.plc i = s0.at_) ∧ EncAt 5 Bx.cells w8 (some ⟨g8, 0, none⟩) t.l) := hide ⟨t.putI x, HT2.out.1, HT2.out.2.1, HT2.out.2.2.1, HT2.out.2.2.2, hE8⟩
   have HB8 := hide (bseq HB.out hb8)
   clear hE8 hown hb8 hbb KB HPP HPe HLen HLen2 HTe HT2
   go_wp2
   go_roundw
   case rel => exact ⟨k + 1, g8, c8, by omega, by go_num, rfl, HT8, HB8⟩
   case measure => simp [intOf]; omega
  ·obtain rfl : k = m := by omega
   have q2 : ¬ (k : Int) < (k : Int) := by omega
   have htk : ord.take k = ord := List.take_of_length_le (by rw [HOl.out]; omega)
   rw [htk] at ht1
   have Hq := hide hq; have Ht1 := hide (show ∀ i, i < k → t.put i = true from fun i hi => by rw [ht1]; exact decide_eq_true (HP.out.mem_iff.2 (List.mem_range.2 hi))); have Ht2 := hide ht2; have Ht3 := hide ht3; have Hte := hide hte
   clear ht1 ht2 ht3 hte hq htk HT
   go_wp2
   exact HQ.out _ _ _ _ _ _ _ _ _ _ _ _ _ _ _ _ _ _ _ _ _ _ _ _ _ _ _ _ _ _ _ _ _ _ _ _ _ _ _ _ _ _ _ _ _ wr gk ck t HB.out Hq.out Ht1.out Ht2.out Ht3.out Hte.out
end
section
open Go.RowKit Go.Shelf
attribute [local go_sem] Oper.semAt_some run_store_func
set_option maxRecDepth 100000 in
set_option maxHeartbeats 8000000 in
theorem bag_l3 {w : World} {Q : Exit → Act → World → Prop} (N : Net) (s0 : Bgd) (G : List Int) (m g mg gN : Nat) (pD qG : Option Addr) (cD cG gb cb : Nat)
  (hsn : Snd N) (hk : Blk w gN N.cells 29) (hN : NetAt w N) (hm : s0.m = m) (hg : s0.g = g) (hmg : m + g = mg) (hm20 : m ≤ 20) (hg20 : g ≤ 20) (hg1 : 1 ≤ g) (hGl : G.length = g) (hG : IntsAt .i64 w qG G) (hGx : ∀ (j : Nat) (x : Int), 0 < j → G[j]? = some x → 0 ≤ x ∧ x < N.lins.length) (ht0 : Hid (∃ t : Bgd, BgQ s0 t ∧ (∀ i, i < m → t.put i = true) ∧ (∀ i, t.shut i = false) ∧ (∀ i, t.plc i = s0.at_) ∧ EncAt 5 Bx.cells w (some ⟨gb, 0, none⟩) t.l))
  (hQ : ∀ (v10 v33 v34 v35 v36 v239 v240 v241 v242 v243 v244 v245 v246 v247 v248 v249 v250 v251 v252 v253 v254 v255 v256 v257 v258 v259 v260 v261 v262 v263 v264 v265 v266 v267 v268 v269 v270 v271 v272 v273 v274 v275 v276 v277 v278 v279 v280 v281 v282 v283 v284 v285 v286 v287 v288 v289 v290 v291 v292 v293 v294 v295 : Value) (w' : World) (gb' cb' : Nat) (t : Bgd), Below w.heap.size w w' → BgQ s0 t → (∀ i, i < m → t.put i = true) → (∀ j, 1 ≤ j → j < g → t.plc j = (linOf N (G.getD j 0)).dst) → t.plc 0 = s0.at_ → EncAt 5 Bx.cells w' (some ⟨gb', 0, none⟩) t.l → Q (.exit 6) { tmps := #[u0, u1, u2, u3, u4, .pointer (some ⟨gN, 0, none⟩), u6, u7, u8, u9, v10, u11, u12, u13, u14, u15, .slice qG g cG, u17, u18, u19, u20, u21, .slice pD m cD, .slice (some ⟨gb', 0, none⟩) mg cb', u24, u25, u26, u27, u28, u29, u30, u31, .int .i64 (g : Int), v33, v34, v35, v36, u37, u38, u39, u40, u41, u42, u43, u44, u45, u46, u47, u48, u49, u50, u51, u52, u53, u54, u55, u56, u57, u58, u59, u60, u61, u62, u63, u64, u65, u66, u67, u68, u69, u70, u71, u72, u73, u74, u75, u76, u77, u78, u79, u80, u81, u82, u83, u84, u85, u86, u87, u88, u89, u90, u91, u92, u93, u94, u95, u96, u97, u98, u99, u100, u101, u102, u103, u104, u105, u106, u107, u108, u109, u110, u111, u112, u113, u114, u115, u116, u117, u118, u119, u120, u121, u122, u123, u124, u125, u126, u127, u128, u129, u130, u131, u132, u133, u134, u135, u136, u137, u138, u139, u140, u141, u142, u143, u144, u145, u146, u147, u148, u149, u150, u151, u152, u153, u154, u155, u156, u157, u158, u159, u160, u161, u162, u163, u164, u165, u166, u167, u168, u169, u170, u171, u172, u173, u174, u175, u176, u177, u178, u179, u180, u181, u182, u183, u184, u185, u186, u187, u188, u189, u190, u191, u192, u193, u194, u195, u196, u197, u198, u199, u200, u201, u202, u203, u204, u205, u206, u207, u208, u209, u210, u211, u212, u213, u214, u215, u216, u217, u218, u219, u220, u221, u222, u223, u224, u225, u226, u227, u228, u229, u230, u231, u232, u233, u234, u235, u236, u237, u238, v239, v240, v241, v242, v243, v244, v245, v246, v247, v248, v249, v250, v251, v252, v253, v254, v255, v256, v257, v258, v259, v260, v261, v262, v263, v264, v265, v266, v267, v268, v269, v270, v271, v272, v273, v274, v275, v276, v277, v278, v279, v280, v281, v282, v283, v284, v285, v286, v287, v288, v289, v290, v291, v292, v293, v294, v295, u296, u297, u298, u299, u300, u301, u302, u303, u304, u305, u306, u307, u308, u309, u310, u311, u312, u313, u314, u315, u316, u317, u318, u319, u320, u321, u322, u323, u324, u325, u326, u327, u328, u329, u330, u331, u332, u333, u334, u335, u336, u337, u338, u339, u340, u341, u342, u343, u344, u345, u346, u347, u348, u349, u350, u351, u352, u353, u354, u355, u356, u357, u358, u359, u360, u361, u362, u363, u364, u365, u366, u367, u368, u369, u370, u371, u372, u373, u374, u375, u376, u377, u378, u379, u380, u381, u382, u383, u384, u385, u386, u387, u388, u389, u390, u391, u392, u393, u394, u395, u396, u397, u398, u399, u400, u401, u402, u403, u404, u405, u406, u407, u408, u409, u410, u411, u412, u413, u414, u415, u416, u417, u418, u419, u420, u421, u422, u423, u424, u425, u426, u427, u428, u429, u430], defers := [] } w') :
  ((loopsOf (Tryz.f4.body.getD .skip)).getD 3 .skip).wp Tryz.prog Q { tmps := #[u0, u1, u2, u3, u4, .pointer (some ⟨gN, 0, none⟩), u6, u7, u8, u9, u10, u11, u12, u13, u14, u15, .slice qG g cG, u17, u18, u19, u20, u21, .slice pD m cD, .slice (some ⟨gb, 0, none⟩) mg cb, u24, u25, u26, u27, u28, u29, u30, u31, .int .i64 1, u33, u34, u35, u36, u37, u38, u39, u40, u41, u42, u43, u44, u45, u46, u47, u48, u49, u50, u51, u52, u53, u54, u55, u56, u57, u58, u59, u60, u61, u62, u63, u64, u65, u66, u67, u68, u69, u70, u71, u72, u73, u74, u75, u76, u77, u78, u79, u80, u81, u82, u83, u84, u85, u86, u87, u88, u89, u90, u91, u92, u93, u94, u95, u96, u97, u98, u99, u100, u101, u102, u103, u104, u105, u106, u107, u108, u109, u110, u111, u112, u113, u114, u115, u116, u117, u118, u119, u120, u121, u122, u123, u124, u125, u126, u127, u128, u129, u130, u131, u132, u133, u134, u135, u136, u137, u138, u139, u140, u141, u142, u143, u144, u145, u146, u147, u148, u149, u150, u151, u152, u153, u154, u155, u156, u157, u158, u159, u160, u161, u162, u163, u164, u165, u166, u167, u168, u169, u170, u171, u172, u173, u174, u175, u176, u177, u178, u179, u180, u181, u182, u183, u184, u185, u186, u187, u188, u189, u190, u191, u192, u193, u194, u195, u196, u197, u198, u199, u200, u201, u202, u203, u204, u205, u206, u207, u208, u209, u210, u211, u212, u213, u214, u215, u216, u217, u218, u219, u220, u221, u222, u223, u224, u225, u226, u227, u228, u229, u230, u231, u232, u233, u234, u235, u236, u237, u238, u239, u240, u241, u242, u243, u244, u245, u246, u247, u248, u249, u250, u251, u252, u253, u254, u255, u256, u257, u258, u259, u260, u261, u262, u263, u264, u265, u266, u267, u268, u269, u270, u271, u272, u273, u274, u275, u276, u277, u278, u279, u280, u281, u282, u283, u284, u285, u286, u287, u288, u289, u290, u291, u292, u293, u294, u295, u296, u297, u298, u299, u300, u301, u302, u303, u304, u305, u306, u307, u308, u309, u310, u311, u312, u313, u314, u315, u316, u317, u318, u319, u320, u321, u322, u323, u324, u325, u326, u327, u328, u329, u330, u331, u332, u333, u334, u335, u336, u337, u338, u339, u340, u341, u342, u343, u344, u345, u346, u347, u348, u349, u350, u351, u352, u353, u354, u355, u356, u357, u358, u359, u360, u361, u362, u363, u364, u365, u366, u367, u368, u369, u370, u371, u372, u373, u374, u375, u376, u377, u378, u379, u380, u381, u382, u383, u384, u385, u386, u387, u388, u389, u390, u391, u392, u393, u394, u395, u396, u397, u398, u399, u400, u401, u402, u403, u404, u405, u406, u407, u408, u409, u410, u411, u412, u413, u414, u415, u416, u417, u418, u419, u420, u421, u422, u423, u424, u425, u426, u427, u428, u429, u430], defers := [] } w := by
 have HQ := hide hQ; have HSn := hide hsn; have HK := hide hk; have HN := hide hN; have HM := hide hm; have HG := hide hg; have HMg := hide hmg; have HGl := hide hGl; have HGi := hide hG; have HGx := hide hGx
 have hst : Hid (∃ t : Bgd, BgQ s0 t ∧ (∀ i, i < m → t.put i = true) ∧ (∀ j, 1 ≤ j → t.shut j = false) ∧ (∀ j, 1 ≤ j → j < 1 → t.plc j = (linOf N (G.getD j 0)).dst) ∧ (∀ j, (j = 0 ∨ 1 ≤ j) → t.plc j = s0.at_) ∧ EncAt 5 Bx.cells w (some ⟨gb, 0, none⟩) t.l) := hide (by
  obtain ⟨t, h1, h2, h3, h4, h5⟩ := ht0.out
  exact ⟨t, h1, h2, fun j _ => h3 j, fun j h h' => absurd h' (by omega), fun j _ => h4 j, h5⟩)
 clear hQ hsn hk hN hm hg hmg hGl hGx hG ht0
 simp only [Tryz.f4, Option.getD, loopsOf, List.append_eq, List.nil_append, List.append_nil, List.cons_append, List.getD, List.getElem?_cons_succ, List.getElem?_cons_zero]
 go_loopw [23, 32] (fun sb si wr => ∃ (k gk ck : Nat), 1 ≤ k ∧ k ≤ g ∧ si = .int .i64 k ∧ sb = .slice (some ⟨gk, 0, none⟩) mg ck ∧ Hid (∃ t : Bgd, BgQ s0 t ∧ (∀ i, i < m → t.put i = true) ∧ (∀ j, k ≤ j → t.shut j = false) ∧ (∀ j, 1 ≤ j → j < k → t.plc j = (linOf N (G.getD j 0)).dst) ∧ (∀ j, (j = 0 ∨ k ≤ j) → t.plc j = s0.at_) ∧ EncAt 5 Bx.cells wr (some ⟨gk, 0, none⟩) t.l) ∧ Hid (Below w.heap.size w wr)) (fun _ si _ => g - (intOf si).toNat)
 case atStart => exact ⟨1, gb, cb, Nat.le_refl _, hg1, rfl, rfl, hst, hide (Below.refl _ _)⟩
 case round =>
  clear hst
  obtain ⟨k, gk, ck, hk1, hkl, rfl, rfl, HT, HB⟩ := hrel
  obtain ⟨t, hq, ht1, ht2, ht3, ht4, hte⟩ := HT.out
  by_cases hlt : k < g
  ·obtain ⟨x0, hx⟩ : ∃ x, G[k]? = some x := ⟨_, List.getElem?_eq_getElem (by rw [HGl.out]; exact hlt)⟩
   obtain ⟨hx0, hx1⟩ := HGx.out k x0 (by omega) hx
   obtain ⟨x, rfl⟩ : ∃ x : Nat, x0 = (x : Int) := ⟨x0.toNat, by omega⟩
   obtain ⟨b1, o1, y1, hp1, hy1, c1w⟩ := HGi.out.at_ (i := k) (by rw [HGl.out]; exact hlt)
   rw [hx] at hy1; injection hy1 with hy1; subst hy1
   obtain ⟨b2, o2, ln, hp2, hln, hlr, l0, l1, l2, l3, l4, l5⟩ := HN.out.lin_ (i := x) (by omega)
   have hlo : linOf N (G.getD k 0) = ln := by rw [List.getD_eq_getElem?_getD, hx]; show linOf N (x : Int) = ln; unfold linOf; rw [show ((x : Int)).toNat = x by omega, getD_some hln]
   have hdst : 0 ≤ ln.dst ∧ ln.dst < 12 := by
    have h1 := HSn.out.linP (i := (x : Int)) (by omega) (by omega)
    have h2 : linOf N (x : Int) = ln := by unfold linOf; rw [show ((x : Int)).toNat = x by omega, getD_some hln]
    rw [h2] at h1
    have := h1.dst; have := HSn.out.noff; omega
   have htm : t.m = m := hq.m.trans HM.out
   have htg : t.g = g := hq.g.trans HG.out
   have hkg : k < t.g := by omega
   have hlen : t.l.length = mg := by rw [Bgd.len, htm, htg, HMg.out]
   have hBP : BagP t.l (t.m + k) := ⟨Bgd.ok hq.ok, by rw [Bgd.len]; omega, by rw [Bgd.getD (by omega), Bgd.bx_bag]; exact (by decide : (1 : Int) ≠ 0), Bgd.lock_bag hkg⟩
   have hop : (t.l.getD (t.m + k) default).closed = false := by rw [Bgd.getD (by omega), Bgd.bx_bag]; exact ht2 k (Nat.le_refl _)
   have hce : closeF t.l (t.m + k) = (t.shutI k).l := Bgd.shut_eq hkg
   obtain ⟨t2, ht2e⟩ : ∃ t2, t.shutI k = t2 := ⟨_, rfl⟩
   have hq2 : BgQ s0 t2 := ht2e ▸ hq.shutI k
   have htm2 : t2.m = t.m := by rw [← ht2e]; rfl
   have htg2 : t2.g = t.g := by rw [← ht2e]; rfl
   have hlen2 : t2.l.length = mg := by rw [Bgd.len, htm2, htg2, htm, htg, HMg.out]
   have hfr : (t2.l.getD (t2.m + k) default).parent = -1 := by rw [Bgd.getD (by omega), Bgd.bx_bag]
   have hlv := Bgd.leafs (s := t2) (j := k)
   have hme : mvF t2.l ln.dst ((t2.m + k) :: insF t2.l (t2.m + k)) = (t2.moveI k ln.dst).l := Bgd.move_eq hq2.ok (by omega)
   rw [ht2e] at hce
   have HT2 : Hid (BgQ s0 (t2.moveI k ln.dst) ∧ (∀ i, i < m → (t2.moveI k ln.dst).put i = true) ∧ (∀ j, k + 1 ≤ j → (t2.moveI k ln.dst).shut j = false) ∧ (∀ j, 1 ≤ j → j < k + 1 → (t2.moveI k ln.dst).plc j = (linOf N (G.getD j 0)).dst) ∧ (∀ j, (j = 0 ∨ k + 1 ≤ j) → (t2.moveI k ln.dst).plc j = s0.at_)) := hide (by
    refine ⟨hq2.moveI k hdst, ?_, ?_, ?_, ?_⟩
    ·intro i hi; rw [← ht2e]; exact ht1 i hi
    ·intro j hj; rw [← ht2e]; show updB t.shut k true j = false; rw [updB_ne (by omega)]; exact ht2 j (by omega)
    ·intro j h1 h2
     rw [← ht2e]
     show updI t.plc k ln.dst j = _
     by_cases e : j = k
     ·subst e; rw [updI_same, hlo]
     ·rw [updI_ne e]; exact ht3 j h1 (by omega)
    ·intro j hj
     rw [← ht2e]
     show updI t.plc k ln.dst j = _
     rw [updI_ne (by omega)]; exact ht4 j (by omega))
   rw [htm] at hBP hop hce
   rw [htm2, htm] at hfr hlv hme
   obtain ⟨z, hz⟩ : ∃ z, m + k = z := ⟨_, rfl⟩
   have hzz : IntKind.i64.wrap ((m : Int) + (k : Int)) = (z : Int) := by rw [IntWalk.i64_in _ (by omega)]; omega
   rw [hz] at hBP hop hce hfr hlv hme
   have hzl : z < t2.l.length := by rw [hlen2, ← HMg.out]; omega
   have HBP := hide hBP; have HOp := hide hop; have HCe := hide hce; have HLen := hide hlen; have HLen2 := hide hlen2; have HTe := hide hte; have HFr := hide hfr; have HLv := hide hlv; have HMe := hide hme; have HDst := hide hdst; have Hok2 := hide (Bgd.ok hq2.ok); have HZl := hide hzl
   have q1 : (0 : Int) ≤ (k : Int) := by omega
   have q2 : (k : Int) < (g : Int) := by omega
   have hpq := hp1
   have Hp2 := hide hp2
   have C1 := hide c1w; have L2 := hide l2; have Hx1 := hide hx1
   clear hx hx0 hx1 hln hlr l0 l1 l3 l4 l5 l2 hlo hdst htm htg hkg hlen hBP hop hce ht2e hq2 htm2 htg2 hlen2 hfr hlv hme hz hzl hq ht1 ht2 ht3 ht4 hte HT hp1 hp2 c1w
   have q3 : (0 : Int) ≤ (x : Int) := by omega
   have q4 : (x : Int) < (N.lins.length : Int) := Hx1.out
   have f1 : ¬ ((x : Int) < 0) := by omega
   have f2 : ¬ ((N.lins.length : Int) ≤ (x : Int)) := by omega
   subst hpq
   clear Hx1
   go_wp2_with (go_at_call 21; refine Stop.out ?_)
   have hcall := nClose_c t.l z (some ⟨gk, 0, none⟩) ck wr
   rw [HLen.out] at hcall
   refine Stop.go (hcall _ HTe.out HBP.out HOp.out ?_)
   intro w8 g8 c8 hbb hown
   have hE8 : EncAt 5 Bx.cells w8 (some ⟨g8, 0, none⟩) t2.l := EncAt.of_own bx_len (by decide) (n := mg) (cap := c8) (by rw [HCe.out] at hown; exact hown)
   have HE8 := hide hE8; have HB8 := hide (bseq HB.out hbb)
   clear hcall hbb hown hE8 HTe HBP HOp HCe HLen HB
   have c1 := cell_later HB8.out C1.out
   have y4 := (HK.out.next HB8.out).net6.2.2.2.2.1
   rw [Hp2.out] at y4
   go_wp2
   go_quiet (fail)
   have HB9 := hide (show Below w.heap.size w (w8.drewN nq) from below_drewN' HB8.out nq)
   have HE9 : Hid (EncAt 5 Bx.cells (w8.drewN nq) (some ⟨g8, 0, none⟩) t2.l) := hide (HE8.out.keep (Keeps.of_below (below_drewN' (Below.refl _ _) nq)))
   clear c1 y4 HB8 HE8
   generalize w8.drewN nq = w9 at *
   have KB : Hid (∀ W', Below w9.heap.size w9 W' → W'.cell? ⟨b1, o1 + k, none⟩ = some (.int .i64 (x : Int)) ∧ W'.cell? ⟨gN, 4, none⟩ = some (.slice (some ⟨b2, o2, none⟩) N.lins.length N.lc) ∧ W'.cell? ⟨b2, o2 + x * 6 + 2, none⟩ = some (.int .i64 ln.dst)) := hide (fun W' hb => by
    have h := (HK.out.next (bseq HB9.out hb)).net6.2.2.2.2.1
    rw [Hp2.out] at h
    exact ⟨cell_later (bseq HB9.out hb) C1.out, h, cell_later (bseq HB9.out hb) L2.out⟩)
   go_wp2
   go_region_held3 (fun W' => W'.cell? ⟨b1, o1 + k, none⟩ = some (.int .i64 (x : Int)) ∧ W'.cell? ⟨gN, 4, none⟩ = some (.slice (some ⟨b2, o2, none⟩) N.lins.length N.lc) ∧ W'.cell? ⟨b2, o2 + x * 6 + 2, none⟩ = some (.int .i64 ln.dst))
    (first | exact KB.out _ (Below.refl _ _).drew | exact KB.out _ hb10)
    (first
    | (go_at_call 22
       have hcall := nMove_c t2.l z ln.dst (some ⟨g8, 0, none⟩) c8 w9.drew
       rw [HLen2.out] at hcall
       refine hcall _ (HE9.out.keep (Keeps.of_below (Below.refl _ _).drew)) Hok2.out (by rw [← HLen2.out]; exact HZl.out) HFr.out HDst.out.1 HDst.out.2 (by have h := HLv.out; rw [HLen2.out] at h; exact h) ?_
       intro w10 g10 c10 hbb hown
       have hb10 : Below w9.heap.size w9 w10 := bseq (Below.refl _ _).drew hbb))
   have hEt : EncAt 5 Bx.cells w10 (some ⟨g10, 0, none⟩) (t2.moveI k ln.dst).l := EncAt.of_own bx_len (by decide) (n := mg) (cap := c10) (by rw [HMe.out] at hown; exact hown)
   have HT8 : Hid (∃ t : Bgd, BgQ s0 t ∧ (∀ i, i < m → t.put i = true) ∧ (∀ j, k + 1 ≤ j → t.shut j = false) ∧ (∀ j, 1 ≤ j → j < k + 1 → t.plc j = (linOf N (G.getD j 0)).dst) ∧ (∀ j, (j = 0 ∨ k + 1 ≤ j) → t.plc j = s0.at_) ∧ EncAt 5 Bx.cells w10 (some ⟨g10, 0, none⟩) t.l) := hide ⟨_, HT2.out.1, HT2.out.2.1, HT2.out.2.2.1, HT2.out.2.2.2.1, HT2.out.2.2.2.2, hEt⟩
   have HB10 := hide (bseq HB9.out hb10)
   clear hEt hown hb10 hbb KB HE9 HB9 HFr HLv HMe HDst Hok2 HZl HLen2 HT2
   go_wp2
   go_roundw
   case rel => exact ⟨k + 1, g10, c10, by omega, by omega, by go_num, rfl, HT8, HB10⟩
   case measure => simp [intOf]; omega
  ·obtain rfl : k = g := by omega
   have q2 : ¬ (k : Int) < (k : Int) := by omega
   have Hq := hide hq; have Ht1 := hide ht1; have Ht3 := hide ht3; have Ht4 := hide (ht4 0 (.inl rfl)); have Hte := hide hte
   clear ht1 ht2 ht3 ht4 hte hq HT
   go_wp2
   exact HQ.out _ _ _ _ _ _ _ _ _ _ _ _ _ _ _ _ _ _ _ _ _ _ _ _ _ _ _ _ _ _ _ _ _ _ _ _ _ _ _ _ _ _ _ _ _ _ _ _ _ _ _ _ _ _ _ _ _ _ _ _ _ _ wr gk ck t HB.out Hq.out Ht1.out Ht3.out Ht4.out Hte.out
end
end Go.Proofs.YtgfhcmidnbahjaaGreatDoor
