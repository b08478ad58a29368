/- TopBags: plain facts for her walk. The regions of a body, in their order. TopBags: a part of her walk (printed by genBP.py). TopBags: a part of her walk (printed by genBP.py). -/
import Derived.Test.YtgfhcmidnbahjaaGreatDoorJ44
import Derived.Test.YtgfhcmidnbahjaaGreatDoorJ1
set_option linter.unusedVariables false
set_option linter.unusedSimpArgs false
namespace Go.Proofs.YtgfhcmidnbahjaaGreatDoor
open Go
variable {u0 u1 u2 u3 u4 u5 u6 u7 u8 u9 u10 u11 u12 u13 u14 u15 u16 u17 u18 u19 u20 u21 u22 u23 u24 u25 u26 u27 u28 u29 u30 u31 u32 u33 u34 u35 u36 u37 u38 u39 u40 u41 u42 u43 u44 u45 u46 u47 u48 u49 u50 u51 u52 u53 u54 u55 u56 u57 u58 u59 u60 u61 u62 u63 u64 u65 u66 u67 u68 u69 u70 u71 u72 u73 u74 u75 u76 u77 u78 u79 u80 u81 u82 u83 u84 u85 u86 u87 u88 u89 u90 u91 u92 u93 u94 u95 u96 u97 u98 u99 u100 u101 u102 u103 u104 u105 u106 u107 u108 u109 u110 u111 u112 u113 u114 u115 u116 u117 u118 u119 u120 u121 u122 u123 u124 u125 u126 u127 u128 u129 u130 u131 u132 u133 u134 u135 u136 u137 u138 u139 u140 u141 u142 u143 u144 u145 u146 u147 u148 u149 u150 u151 u152 u153 u154 u155 u156 u157 u158 u159 u160 u161 u162 u163 u164 u165 u166 u167 u168 u169 u170 u171 u172 u173 u174 u175 u176 u177 u178 u179 u180 u181 u182 u183 u184 u185 u186 u187 u188 u189 u190 u191 u192 u193 u194 u195 u196 u197 u198 u199 u200 u201 u202 u203 u204 u205 u206 u207 u208 u209 u210 u211 u212 u213 u214 u215 u216 u217 u218 u219 u220 u221 u222 u223 u224 u225 u226 u227 u228 u229 u230 u231 u232 u233 u234 u235 u236 u237 u238 u239 u240 u241 u242 u243 u244 u245 u246 u247 u248 u249 u250 u251 u252 u253 u254 u255 u256 u257 u258 u259 u260 u261 u262 u263 u264 u265 u266 u267 u268 u269 u270 u271 u272 u273 u274 u275 u276 u277 u278 u279 u280 u281 u282 u283 u284 u285 u286 u287 u288 u289 u290 u291 u292 u293 u294 u295 u296 u297 u298 u299 u300 u301 u302 u303 u304 u305 u306 u307 u308 u309 u310 u311 u312 u313 u314 u315 u316 u317 u318 u319 u320 u321 u322 u323 u324 u325 u326 u327 u328 u329 u330 u331 u332 u333 u334 u335 u336 u337 u338 u339 u340 u341 u342 u343 u344 u345 u346 u347 u348 u349 u350 u351 u352 u353 u354 u355 u356 u357 u358 u359 u360 u361 u362 u363 u364 u365 u366 u367 u368 u369 u370 u371 u372 u373 u374 u375 u376 u377 u378 u379 u380 u381 u382 u383 u384 u385 u386 u387 u388 u389 u390 u391 u392 u393 u394 u395 u396 u397 u398 u399 u400 u401 u402 u403 u404 u405 u406 u407 u408 u409 u410 u411 u412 u413 u414 u415 u416 u417 u418 u419 u420 u421 u422 u423 u424 u425 u426 u427 u428 u429 u430 : Value}
section
open Go.RowKit Go.Shelf
theorem mapR (l : List Nat) (f : Nat → Int) : l.map f = (List.range l.length).map fun i => f (l.getD i 0) := by
 apply List.ext_getElem?
 intro k
 by_cases hk : k < l.length
 ·rw [List.getElem?_map, List.getElem?_map, List.getElem?_range hk, List.getElem?_eq_getElem hk]
  show some (f l[k]) = some (f (l.getD k 0))
  rw [List.getD_eq_getElem?_getD, List.getElem?_eq_getElem hk]; rfl
 ·rw [List.getElem?_eq_none (by simp; omega), List.getElem?_eq_none (by simp; omega)]
theorem getD_mem {l : List Nat} {i : Nat} (h : i < l.length) : l.getD i 0 ∈ l := by
 rw [List.getD_eq_getElem?_getD, List.getElem?_eq_getElem h]; exact List.getElem_mem h
def dstF (its : List Nat) (n : Nat) (of : Nat → Int) : Nat → Nat := fun i => (of (ddF its n i)).toNat
section
variable {its : List Nat} {n : Nat} {of : Nat → Int} {k : Nat}
theorem kp_ds : ((kpL its n of k).map fun i => of (ddF its n i)) = intsN ((kpL its n of k).map (dstF its n of)) := by
 unfold intsN
 rw [List.map_map]
 apply List.map_congr_left
 intro i hi
 have := (kpL_mem hi).2
 show of (ddF its n i) = ((of (ddF its n i)).toNat : Int)
 omega
theorem kp_dr (g o : Nat) : ((kpL its n of k).map fun i => of (ddF its n i)) = (List.range (kpL its n of k).length).map fun i => ((bg0 (kpL its n of k) g o (dstF its n of)).dest i : Int) := by
 rw [mapR]
 apply List.map_congr_left
 intro i hi
 have := (kpL_mem (getD_mem (List.mem_range.1 hi))).2
 show of (ddF its n _) = ((of (ddF its n _)).toNat : Int)
 omega
theorem kp_tr : ((kpL its n of k).map fun i => (ddF its n i : Int)) = (List.range (kpL its n of k).length).map fun i => ((ddF its n ((kpL its n of k).getD i 0) : Nat) : Int) := mapR _ _
end
theorem schR {P : Nat} (hP : 2 ≤ P) (k g : Nat) : 0 ≤ schemeF (P : Int) k g ∧ schemeF (P : Int) k g < P := by
 unfold schemeF
 exact ⟨Int.emod_nonneg _ (by omega), Int.emod_lt_of_pos _ (by omega)⟩
theorem schE {P : Nat} (hP : 2 ≤ P) : (fun k g => ((((schemeF (P : Int) k g).toNat : Nat)) : Int)) = schemeF (P : Int) := by
 funext k g
 have := schR hP k g
 omega
def plF (N : Net) (G : List Int) (o : Nat) : Nat → Nat := fun j => if j = 0 then o else (linOf N (G.getD j 0)).dst.toNat
section
variable {N : Net} {fr till : Int} {o : Nat} {G : List Int} {its : List Nat} {k : Nat}
theorem grp_lin (ho : o < N.offs.length) (h : GrpP (nextF' N fr till o) o N.offs.length G) {j : Nat} {x : Int} (hj : 0 < j) (hx : G[j]? = some x) : 0 ≤ x ∧ x < N.lins.length := by
 obtain ⟨d, hd, _, e, hne⟩ := grp_line h hj hx
 rcases (next_formed (N := N) (cost := costsF N fr till) (bound := boundF N fr till)) o d ho hd with h1 | ⟨h1, h2, _⟩
 ·exact absurd (e ▸ h1) hne
 ·rw [← e]; exact ⟨h1, h2⟩
theorem pl_rg (hs : Snd N) (ho : o < N.offs.length) (h : GrpP (nextF' N fr till o) o N.offs.length G) {j : Nat} (hj : j < G.length) : plF N G o j < N.offs.length ∧ (0 < j → ((plF N G o j : Nat) : Int) = (linOf N (G.getD j 0)).dst) := by
 unfold plF
 by_cases h0 : j = 0
 ·rw [if_pos h0]; exact ⟨ho, fun h => by omega⟩
 ·rw [if_neg h0]
  have hx : G[j]? = some (G.getD j 0) := by rw [List.getD_eq_getElem?_getD, List.getElem?_eq_getElem hj]; rfl
  obtain ⟨h1, h2⟩ := grp_lin ho h (by omega) hx
  have h3 := (hs.linP h1 h2).dst
  omega
theorem bag_z0 (h : GrpP (nextF' N fr till o) o N.offs.length G) {i : Nat} (hi : i < (kpL its N.offs.length (ofF (nextF' N fr till o) o G) k).length)
  (h0 : dstF its N.offs.length (ofF (nextF' N fr till o) o G) ((kpL its N.offs.length (ofF (nextF' N fr till o) o G) k).getD i 0) = 0) : ddF its N.offs.length ((kpL its N.offs.length (ofF (nextF' N fr till o) o G) k).getD i 0) = o := by
 have h1 := (kpL_mem (getD_mem hi)).2
 unfold dstF at h0
 exact of_zero h (by omega)
theorem bag_z1 (hs : Snd N) (ho : o < N.offs.length) (h : GrpP (nextF' N fr till o) o N.offs.length G) {i : Nat} (hi : i < (kpL its N.offs.length (ofF (nextF' N fr till o) o G) k).length)
  (h0 : 0 < dstF its N.offs.length (ofF (nextF' N fr till o) o G) ((kpL its N.offs.length (ofF (nextF' N fr till o) o G) k).getD i 0)) :
  0 ≤ boundF N fr till (plF N G o (dstF its N.offs.length (ofF (nextF' N fr till o) o G) ((kpL its N.offs.length (ofF (nextF' N fr till o) o G) k).getD i 0))) (ddF its N.offs.length ((kpL its N.offs.length (ofF (nextF' N fr till o) o G) k).getD i 0)) ∧
  boundF N fr till (plF N G o (dstF its N.offs.length (ofF (nextF' N fr till o) o G) ((kpL its N.offs.length (ofF (nextF' N fr till o) o G) k).getD i 0))) (ddF its N.offs.length ((kpL its N.offs.length (ofF (nextF' N fr till o) o G) k).getD i 0)) < boundF N fr till o (ddF its N.offs.length ((kpL its N.offs.length (ofF (nextF' N fr till o) o G) k).getD i 0)) := by
 have h1 := (kpL_mem (getD_mem hi)).2
 have hn : 0 < N.offs.length := by omega
 generalize (kpL its N.offs.length (ofF (nextF' N fr till o) o G) k).getD i 0 = x at *
 have hd : ddF its N.offs.length x < N.offs.length := Nat.mod_lt _ hn
 have hj : dstF its N.offs.length (ofF (nextF' N fr till o) o G) x = (ofF (nextF' N fr till o) o G (ddF its N.offs.length x)).toNat := rfl
 generalize dstF its N.offs.length (ofF (nextF' N fr till o) o G) x = j at *
 generalize ddF its N.offs.length x = d at *
 obtain ⟨h2, h3, h4⟩ := of_pos h (j := j) h0 (d := d) (by omega)
 have hp : plF N G o j = (linOf N (nextF' N fr till o d)).dst.toNat := by
  unfold plF
  rw [if_neg (by omega), List.getD_eq_getElem?_getD, h4]; rfl
 rw [hp]
 exact bound_next hs ho hd (Ne.symm h2) h3
theorem bag_ok (ho : o < N.offs.length) (hn : N.offs.length ≤ 12) (h : GrpP (nextF' N fr till o) o N.offs.length G) {g : Nat} (hg : G.length = g) (hg20 : g ≤ 20) (hk : k ≤ 20) :
  BgP (bg0 (kpL its N.offs.length (ofF (nextF' N fr till o) o G) k) g o (dstF its N.offs.length (ofF (nextF' N fr till o) o G))) := by
 refine bg0_ok (kpL_incr k) (fun i hi => by have := (kpL_mem hi).1; omega) (Nat.le_trans (kpL_len k) hk) hg20 (by omega) (fun i hi => ?_)
 have h1 := (of_rg h (ddF its N.offs.length i)).2
 have h2 := (kpL_mem hi).2
 unfold dstF
 omega
end
end
section
open Go.RowKit
def regionsOf : Code → List Code
 | .seq a b => regionsOf a ++ regionsOf b
 | .block _ c => regionsOf c
 | .cond _ a b => regionsOf a ++ regionsOf b
 | .scope c => regionsOf c
 | .loop c => regionsOf c
 | .rangeFunc _ _ a b => regionsOf a ++ regionsOf b
 | .region i o d => [.region i o d]
 | _ => []
end
section
open Go.RowKit Go.Shelf
attribute [local go_sem] Oper.semAt_some run_store_func
set_option maxRecDepth 100000 in
set_option maxHeartbeats 8000000 in
theorem bag_l0 {w : World} {Q : Exit → Act → World → Prop} (N : Net) (pi : Option Addr) (nI ci gN o gF n : Nat) (its : List Nat) (of : Nat → Int)
  (hn : N.offs.length = n) (hn1 : 1 ≤ n) (hl : its.length = nI) (h20 : nI ≤ 20) (hk : Blk w gN N.cells 29) (hi : IntsAt .u8 w pi (intsN its)) (hi8 : ∀ x ∈ its, x ≤ 255) (hf : IntsAt .i64 w (some ⟨gF, 0, none⟩) ((List.range n).map of)) (hof : ∀ d, d < n → -1 ≤ of d ∧ of d ≤ 100)
  (hQ : ∀ (v25 v125 v126 v127 v128 v129 v130 v131 v132 v133 v134 v135 v136 v137 v138 v139 v140 v141 v142 v143 v144 v145 v146 v147 v148 v149 v150 v151 v152 v153 v154 v155 v156 v157 v158 v159 v160 v161 v162 : Value) (w' : World) (vt vd vb : Value), L1I w ((kpL its n of nI).map fun i => (ddF its n i : Int)) ((kpL its n of nI).map fun i => of (ddF its n i)) ((kpL its n of nI).map (itB o)) vt vd vb w' → Q (.exit 0) { tmps := #[u0, u1, u2, u3, .slice pi nI ci, .pointer (some ⟨gN, 0, none⟩), u6, u7, u8, u9, u10, u11, u12, u13, u14, .int .i64 (o : Int), u16, .slice (some ⟨gF, 0, none⟩) n n, u18, u19, u20, vt, vd, vb, .int .i64 (nI : Int), v25, u26, u27, u28, u29, u30, u31, u32, u33, u34, u35, u36, u37, u38, u39, u40, u41, u42, u43, u44, u45, u46, u47, u48, u49, u50, u51, u52, u53, u54, u55, u56, u57, u58, u59, u60, u61, u62, u63, u64, u65, u66, u67, u68, u69, u70, u71, u72, u73, u74, u75, u76, u77, u78, u79, u80, u81, u82, u83, u84, u85, u86, u87, u88, u89, u90, u91, u92, u93, u94, u95, u96, u97, u98, u99, u100, u101, u102, u103, u104, u105, u106, u107, u108, u109, u110, u111, u112, u113, u114, u115, u116, u117, u118, u119, u120, u121, u122, u123, u124, v125, v126, v127, v128, v129, v130, v131, v132, v133, v134, v135, v136, v137, v138, v139, v140, v141, v142, v143, v144, v145, v146, v147, v148, v149, v150, v151, v152, v153, v154, v155, v156, v157, v158, v159, v160, v161, v162, u163, u164, u165, u166, u167, u168, u169, u170, u171, u172, u173, u174, u175, u176, u177, u178, u179, u180, u181, u182, u183, u184, u185, u186, u187, u188, u189, u190, u191, u192, u193, u194, u195, u196, u197, u198, u199, u200, u201, u202, u203, u204, u205, u206, u207, u208, u209, u210, u211, u212, u213, u214, u215, u216, u217, u218, u219, u220, u221, u222, u223, u224, u225, u226, u227, u228, u229, u230, u231, u232, u233, u234, u235, u236, u237, u238, u239, u240, u241, u242, u243, u244, u245, u246, u247, u248, u249, u250, u251, u252, u253, u254, u255, u256, u257, u258, u259, u260, u261, u262, u263, u264, u265, u266, u267, u268, u269, u270, u271, u272, u273, u274, u275, u276, u277, u278, u279, u280, u281, u282, u283, u284, u285, u286, u287, u288, u289, u290, u291, u292, u293, u294, u295, u296, u297, u298, u299, u300, u301, u302, u303, u304, u305, u306, u307, u308, u309, u310, u311, u312, u313, u314, u315, u316, u317, u318, u319, u320, u321, u322, u323, u324, u325, u326, u327, u328, u329, u330, u331, u332, u333, u334, u335, u336, u337, u338, u339, u340, u341, u342, u343, u344, u345, u346, u347, u348, u349, u350, u351, u352, u353, u354, u355, u356, u357, u358, u359, u360, u361, u362, u363, u364, u365, u366, u367, u368, u369, u370, u371, u372, u373, u374, u375, u376, u377, u378, u379, u380, u381, u382, u383, u384, u385, u386, u387, u388, u389, u390, u391, u392, u393, u394, u395, u396, u397, u398, u399, u400, u401, u402, u403, u404, u405, u406, u407, u408, u409, u410, u411, u412, u413, u414, u415, u416, u417, u418, u419, u420, u421, u422, u423, u424, u425, u426, u427, u428, u429, u430], defers := [] } w') :
  ((loopsOf (Tryz.f4.body.getD .skip)).getD 0 .skip).wp Tryz.prog Q { tmps := #[u0, u1, u2, u3, .slice pi nI ci, .pointer (some ⟨gN, 0, none⟩), u6, u7, u8, u9, u10, u11, u12, u13, u14, .int .i64 (o : Int), u16, .slice (some ⟨gF, 0, none⟩) n n, u18, u19, u20, .slice none 0 0, .slice none 0 0, .slice none 0 0, .int .i64 0, u25, u26, u27, u28, u29, u30, u31, u32, u33, u34, u35, u36, u37, u38, u39, u40, u41, u42, u43, u44, u45, u46, u47, u48, u49, u50, u51, u52, u53, u54, u55, u56, u57, u58, u59, u60, u61, u62, u63, u64, u65, u66, u67, u68, u69, u70, u71, u72, u73, u74, u75, u76, u77, u78, u79, u80, u81, u82, u83, u84, u85, u86, u87, u88, u89, u90, u91, u92, u93, u94, u95, u96, u97, u98, u99, u100, u101, u102, u103, u104, u105, u106, u107, u108, u109, u110, u111, u112, u113, u114, u115, u116, u117, u118, u119, u120, u121, u122, u123, u124, u125, u126, u127, u128, u129, u130, u131, u132, u133, u134, u135, u136, u137, u138, u139, u140, u141, u142, u143, u144, u145, u146, u147, u148, u149, u150, u151, u152, u153, u154, u155, u156, u157, u158, u159, u160, u161, u162, u163, u164, u165, u166, u167, u168, u169, u170, u171, u172, u173, u174, u175, u176, u177, u178, u179, u180, u181, u182, u183, u184, u185, u186, u187, u188, u189, u190, u191, u192, u193, u194, u195, u196, u197, u198, u199, u200, u201, u202, u203, u204, u205, u206, u207, u208, u209, u210, u211, u212, u213, u214, u215, u216, u217, u218, u219, u220, u221, u222, u223, u224, u225, u226, u227, u228, u229, u230, u231, u232, u233, u234, u235, u236, u237, u238, u239, u240, u241, u242, u243, u244, u245, u246, u247, u248, u249, u250, u251, u252, u253, u254, u255, u256, u257, u258, u259, u260, u261, u262, u263, u264, u265, u266, u267, u268, u269, u270, u271, u272, u273, u274, u275, u276, u277, u278, u279, u280, u281, u282, u283, u284, u285, u286, u287, u288, u289, u290, u291, u292, u293, u294, u295, u296, u297, u298, u299, u300, u301, u302, u303, u304, u305, u306, u307, u308, u309, u310, u311, u312, u313, u314, u315, u316, u317, u318, u319, u320, u321, u322, u323, u324, u325, u326, u327, u328, u329, u330, u331, u332, u333, u334, u335, u336, u337, u338, u339, u340, u341, u342, u343, u344, u345, u346, u347, u348, u349, u350, u351, u352, u353, u354, u355, u356, u357, u358, u359, u360, u361, u362, u363, u364, u365, u366, u367, u368, u369, u370, u371, u372, u373, u374, u375, u376, u377, u378, u379, u380, u381, u382, u383, u384, u385, u386, u387, u388, u389, u390, u391, u392, u393, u394, u395, u396, u397, u398, u399, u400, u401, u402, u403, u404, u405, u406, u407, u408, u409, u410, u411, u412, u413, u414, u415, u416, u417, u418, u419, u420, u421, u422, u423, u424, u425, u426, u427, u428, u429, u430], defers := [] } w := by
 have HQ := hide hQ; have HK := hide hk; have HIt := hide hi; have HI8 := hide hi8; have HF := hide hf; have HOf := hide hof; have HL := hide hl; have HN := hide hn
 clear hQ hk hi hi8 hf hof hl hn
 simp only [Tryz.f4, Option.getD, loopsOf, List.append_eq, List.nil_append, List.append_nil, List.cons_append, List.getD, List.getElem?_cons_succ, List.getElem?_cons_zero]
 go_loopw [21, 22, 23, 24] (fun st sd sb si wr => ∃ k : Nat, k ≤ nI ∧ si = .int .i64 k ∧ Hid (L1I w ((kpL its n of k).map fun i => (ddF its n i : Int)) ((kpL its n of k).map fun i => of (ddF its n i)) ((kpL its n of k).map (itB o)) st sd sb wr)) (fun _ _ _ si _ => nI - (intOf si).toNat)
 case atStart => exact ⟨0, Nat.zero_le _, rfl, hide (L1I.start w)⟩
 case round =>
  obtain ⟨k, hkl, rfl, HI⟩ := hrel
  have y3 := (HK.out.next HI.out.below).net6.2.2.2.1
  by_cases hlt : k < nI
  ·obtain ⟨b, bo, y0, hp, hy, c0⟩ := (HIt.out.keep (Keeps.of_below HI.out.below)).at_ (i := k) (by rw [intsN_len, HL.out]; exact hlt)
   obtain ⟨y, hyk⟩ : ∃ y, its[k]? = some y := ⟨_, List.getElem?_eq_getElem (by rw [HL.out]; exact hlt)⟩
   rw [intsN_at hyk] at hy; injection hy with hy; subst hy
   have hy255 := HI8.out y (List.mem_of_getElem? hyk)
   have hdd : ddF its n k = y % n := by unfold ddF; rw [List.getD_eq_getElem?_getD, hyk]; rfl
   have hdn : y % n < n := Nat.mod_lt _ (by omega)
   obtain ⟨b2, bo2, z, hp2, hz, c2w⟩ := HF.out.at_ (i := y % n) (by simpa using hdn)
   rw [List.getElem?_map, List.getElem?_range hdn] at hz
   injection hz with hz
   injection hp2 with hp2; injection hp2 with e1 e2; subst e1; subst e2
   rw [Nat.zero_add] at c2w
   have hofd := HOf.out _ hdn
   obtain ⟨d, hd⟩ : ∃ d, y % n = d := ⟨_, rfl⟩
   have e3 : (y : Int) % (n : Int) = (d : Int) := by rw [← hd]; simp
   rw [hd] at hdd hdn hz c2w hofd
   have hyes := fun (h : 0 ≤ of d) => kpL_yes (its := its) (n := n) (of := of) (k := k) (by rw [hdd]; exact h)
   have hno := fun (h : ¬ 0 ≤ of d) => kpL_no (its := its) (n := n) (of := of) (k := k) (by rw [hdd]; exact h)
   have hkln := kpL_len (its := its) (n := n) (of := of) k
   rw [HN.out] at y3
   have HDd := hide hdd; have HYes := hide hyes; have HNo := hide hno
   obtain ⟨v, hv⟩ : ∃ v, of d = v := ⟨_, rfl⟩
   have HV := hide hv
   rw [← hz, hv] at c2w
   have C2 := hide c2w
   have c2 := cell_later HI.out.below c2w
   rw [hv] at hofd HYes HNo
   have q1 : (0 : Int) ≤ (k : Int) := by omega
   have q2 : (k : Int) < (nI : Int) := by omega
   have q3 : (0 : Int) ≤ (d : Int) := by omega
   have q4 : (d : Int) < (n : Int) := by omega
   have r2 : (n : Int) ≠ 0 := by omega
   have r3 : ¬ ((n : Int) = 0) := by omega
   have hp' := hp
   clear hyk hz hd hdd hyes hno hv c2w
   rw [hp]
   clear hp hp'
   go_wp2
   go_quiet (fail)
   have HI1 := hide (HI.out.next (below_drewN' (Below.refl _ _) nq))
   clear c0 y3 c2 HI
   generalize wr.drewN nq = w1 at *
   have c2 := cell_later HI1.out.below C2.out
   have hv0 : of d = v := HV.out
   obtain ⟨i0, hi0, hz0, hz1, hz2⟩ := info_parts infoI2
   obtain ⟨j0, hj0, hjz0, hjz1, hjz2⟩ := info_parts infoBox
   by_cases h0 : 0 ≤ v
   ·have hke := HYes.out (by omega)
    have HKe := hide hke
    obtain ⟨w2, hw2⟩ : ∃ w2, w1.alloc (.cells #[.int .i64 (d : Int)] 3) = w2 := ⟨_, rfl⟩
    have HI2 := hide (HI1.out.next (hw2 ▸ balloc (Below.refl _ _) _))
    have HNw := hide (show ∀ j u, ([.int .i64 (d : Int)] : List Value)[j]? = some u → w2.cell? ((⟨w1.heap.size, 0, none⟩ : Addr).add j) = some u from lit_news hw2)
    have hs2 := HI2.out.below.size
    clear hke hv0
    go_wp2_with (at_builtin; refine Stop.out ?_)
    try rw [hw2]
    clear hw2
    refine Stop.go ?_
    refine wpList_append_where rfl (.tmp 145) (.tmp 147) 40 rfl w.heap.size 3 i0 _ 1 8 Tryz.underlying40 hi0 hz0 hz1 hz2 rfl (by omega) u21 _ _ rfl HI2.out.t ⟨w1.heap.size, 0, none⟩ 1 1 [.int .i64 (d : Int)] rfl rfl HNw.out (by simp [Value.oneCell']) (by rw [List.length_map]; unfold maxLen; omega) (by rw [List.length_map]; omega) hs2 ?_
    intro v3 w3 ho3 hg3 hw3
    have HI3 := hide (HI2.out.appT ho3 hg3 hw3)
    have c3 := cell_later HI3.out.below C2.out
    clear ho3 hg3 hw3 HI2 HI1 c2 HNw hs2
    obtain ⟨w4, hw4⟩ : ∃ w4, w3.alloc (.cells #[.int .i64 v] 3) = w4 := ⟨_, rfl⟩
    have HI4 := hide (HI3.out.next (hw4 ▸ balloc (Below.refl _ _) _))
    have HNw := hide (show ∀ j u, ([.int .i64 v] : List Value)[j]? = some u → w4.cell? ((⟨w3.heap.size, 0, none⟩ : Addr).add j) = some u from lit_news hw4)
    have hs4 := HI4.out.below.size
    go_wp2_with (at_builtin; refine Stop.out ?_)
    try rw [hw4]
    clear hw4
    refine Stop.go ?_
    refine wpList_append_where rfl (.tmp 149) (.tmp 154) 40 rfl w.heap.size 3 i0 _ 1 8 Tryz.underlying40 hi0 hz0 hz1 hz2 rfl (by omega) u22 _ _ rfl HI4.out.d ⟨w3.heap.size, 0, none⟩ 1 1 [.int .i64 v] rfl rfl HNw.out (by simp [Value.oneCell']) (by rw [List.length_map]; unfold maxLen; omega) (by rw [List.length_map]; omega) hs4 ?_
    intro v5 w5 ho5 hg5 hw5
    have HI5 := hide (HI4.out.appD ho5 hg5 hw5)
    clear ho5 hg5 hw5 HI4 HI3 c3 HNw hs4
    go_wp2_with (go_at_call 18; refine Stop.out ?_)
    refine Stop.go (digits_c 73 k (by omega) w5 _ ?_)
    obtain ⟨w6, hw6⟩ : ∃ w6, w5.alloc (.cells #[.string (lab3 73 k), .int .i64 0, .int .i64 (-1), .int .i64 (o : Int), .bool false] 69) = w6 := ⟨_, rfl⟩
    have HI6 := hide (HI5.out.next (hw6 ▸ balloc (Below.refl _ _) _))
    have hsrc : Src w6 (some ⟨w5.heap.size, 0, none⟩) 1 5 (itB o k).cells := hw6 ▸ Src.lit rfl 5 rfl
    have HSr := hide hsrc
    have hs6 := HI6.out.below.size
    clear hsrc HI5
    go_wp2_with (at_builtin; refine Stop.out ?_)
    try rw [hw6]
    clear hw6
    refine Stop.go ?_
    refine wpList_app _ rfl (.tmp 156) (.tmp 161) 66 rfl w.heap.size 69 j0 _ 5 48 Tryz.underlying66 hj0 hjz0 hjz1 hjz2 rfl (by omega) u23 _ _ rfl HI6.out.b (some ⟨w5.heap.size, 0, none⟩) 1 1 (itB o k).cells rfl HSr.out (by intro u hu; simp only [itB, Bx.cells, List.mem_cons, List.not_mem_nil, or_false] at hu; rcases hu with rfl | rfl | rfl | rfl | rfl <;> rfl) (by rw [List.length_map]; unfold maxLen; omega) (by rw [List.length_map]; omega) hs6 ?_
    intro v7 w7 ho7 hg7
    have HI7 : Hid (L1I w ((kpL its n of (k + 1)).map fun i => (ddF its n i : Int)) ((kpL its n of (k + 1)).map fun i => of (ddF its n i)) ((kpL its n of (k + 1)).map (itB o)) v3 v5 v7 w7) := hide (by
     have h := HI6.out.appB ho7 hg7
     rw [HKe.out, List.map_append, List.map_append, List.map_append]
     simp only [List.map_cons, List.map_nil]
     rw [HDd.out, HV.out]
     exact h)
    clear ho7 hg7 HI6 HSr hs6 hi0 hz0 hz1 hz2 hj0 hjz0 hjz1 hjz2
    go_wp2
    go_roundw
    case rel => exact ⟨k + 1, by omega, by go_num, HI7⟩
    case measure => simp [intOf]; omega
   ·have hke := HNo.out (by omega)
    have HI2 : Hid (L1I w ((kpL its n of (k + 1)).map fun i => (ddF its n i : Int)) ((kpL its n of (k + 1)).map fun i => of (ddF its n i)) ((kpL its n of (k + 1)).map (itB o)) u21 u22 u23 w1) := hide (by rw [hke]; exact HI1.out)
    clear hke hv0 HI1
    go_wp2
    go_roundw
    case rel => exact ⟨k + 1, by omega, by go_num, HI2⟩
    case measure => simp [intOf]; omega
  ·obtain rfl : k = nI := by omega
   have q2 : ¬ (k : Int) < (k : Int) := by omega
   clear y3
   go_wp2
   exact HQ.out _ _ _ _ _ _ _ _ _ _ _ _ _ _ _ _ _ _ _ _ _ _ _ _ _ _ _ _ _ _ _ _ _ _ _ _ _ _ _ wr u21 u22 u23 HI.out
end
section
open Go.RowKit Go.Shelf
attribute [local go_sem] Oper.semAt_some run_store_func
set_option maxRecDepth 100000 in
set_option maxHeartbeats 8000000 in
theorem bag_l1 {w : World} {Q : Exit → Act → World → Prop} (wb : World) (o g : Nat) (qG : Option Addr) (cG : Nat) (ts ds : List Int) (bs : List Bx) (vt vd vb : Value)
  (hg : g ≤ 20) (hbl : bs.length ≤ 20) (hI : L1I wb ts ds bs vt vd vb w)
  (hQ : ∀ (v163 v164 v165 v166 v167 v168 v169 v170 v171 v172 v173 v174 v175 : Value) (w' : World) (vb' : Value), L1I wb ts ds (bs ++ (List.range g).map (bgB o)) vt vd vb' w' → Q (.exit 2) { tmps := #[u0, u1, u2, u3, u4, u5, u6, u7, u8, u9, u10, u11, u12, u13, u14, .int .i64 (o : Int), .slice qG g cG, u17, u18, u19, u20, u21, u22, vb', u24, u25, .int .i64 (g : Int), u27, u28, u29, u30, u31, u32, u33, u34, u35, u36, u37, u38, u39, u40, u41, u42, u43, u44, u45, u46, u47, u48, u49, u50, u51, u52, u53, u54, u55, u56, u57, u58, u59, u60, u61, u62, u63, u64, u65, u66, u67, u68, u69, u70, u71, u72, u73, u74, u75, u76, u77, u78, u79, u80, u81, u82, u83, u84, u85, u86, u87, u88, u89, u90, u91, u92, u93, u94, u95, u96, u97, u98, u99, u100, u101, u102, u103, u104, u105, u106, u107, u108, u109, u110, u111, u112, u113, u114, u115, u116, u117, u118, u119, u120, u121, u122, u123, u124, u125, u126, u127, u128, u129, u130, u131, u132, u133, u134, u135, u136, u137, u138, u139, u140, u141, u142, u143, u144, u145, u146, u147, u148, u149, u150, u151, u152, u153, u154, u155, u156, u157, u158, u159, u160, u161, u162, v163, v164, v165, v166, v167, v168, v169, v170, v171, v172, v173, v174, v175, u176, u177, u178, u179, u180, u181, u182, u183, u184, u185, u186, u187, u188, u189, u190, u191, u192, u193, u194, u195, u196, u197, u198, u199, u200, u201, u202, u203, u204, u205, u206, u207, u208, u209, u210, u211, u212, u213, u214, u215, u216, u217, u218, u219, u220, u221, u222, u223, u224, u225, u226, u227, u228, u229, u230, u231, u232, u233, u234, u235, u236, u237, u238, u239, u240, u241, u242, u243, u244, u245, u246, u247, u248, u249, u250, u251, u252, u253, u254, u255, u256, u257, u258, u259, u260, u261, u262, u263, u264, u265, u266, u267, u268, u269, u270, u271, u272, u273, u274, u275, u276, u277, u278, u279, u280, u281, u282, u283, u284, u285, u286, u287, u288, u289, u290, u291, u292, u293, u294, u295, u296, u297, u298, u299, u300, u301, u302, u303, u304, u305, u306, u307, u308, u309, u310, u311, u312, u313, u314, u315, u316, u317, u318, u319, u320, u321, u322, u323, u324, u325, u326, u327, u328, u329, u330, u331, u332, u333, u334, u335, u336, u337, u338, u339, u340, u341, u342, u343, u344, u345, u346, u347, u348, u349, u350, u351, u352, u353, u354, u355, u356, u357, u358, u359, u360, u361, u362, u363, u364, u365, u366, u367, u368, u369, u370, u371, u372, u373, u374, u375, u376, u377, u378, u379, u380, u381, u382, u383, u384, u385, u386, u387, u388, u389, u390, u391, u392, u393, u394, u395, u396, u397, u398, u399, u400, u401, u402, u403, u404, u405, u406, u407, u408, u409, u410, u411, u412, u413, u414, u415, u416, u417, u418, u419, u420, u421, u422, u423, u424, u425, u426, u427, u428, u429, u430], defers := [] } w') :
  ((loopsOf (Tryz.f4.body.getD .skip)).getD 1 .skip).wp Tryz.prog Q { tmps := #[u0, u1, u2, u3, u4, u5, u6, u7, u8, u9, u10, u11, u12, u13, u14, .int .i64 (o : Int), .slice qG g cG, u17, u18, u19, u20, u21, u22, vb, u24, u25, .int .i64 0, u27, u28, u29, u30, u31, u32, u33, u34, u35, u36, u37, u38, u39, u40, u41, u42, u43, u44, u45, u46, u47, u48, u49, u50, u51, u52, u53, u54, u55, u56, u57, u58, u59, u60, u61, u62, u63, u64, u65, u66, u67, u68, u69, u70, u71, u72, u73, u74, u75, u76, u77, u78, u79, u80, u81, u82, u83, u84, u85, u86, u87, u88, u89, u90, u91, u92, u93, u94, u95, u96, u97, u98, u99, u100, u101, u102, u103, u104, u105, u106, u107, u108, u109, u110, u111, u112, u113, u114, u115, u116, u117, u118, u119, u120, u121, u122, u123, u124, u125, u126, u127, u128, u129, u130, u131, u132, u133, u134, u135, u136, u137, u138, u139, u140, u141, u142, u143, u144, u145, u146, u147, u148, u149, u150, u151, u152, u153, u154, u155, u156, u157, u158, u159, u160, u161, u162, u163, u164, u165, u166, u167, u168, u169, u170, u171, u172, u173, u174, u175, u176, u177, u178, u179, u180, u181, u182, u183, u184, u185, u186, u187, u188, u189, u190, u191, u192, u193, u194, u195, u196, u197, u198, u199, u200, u201, u202, u203, u204, u205, u206, u207, u208, u209, u210, u211, u212, u213, u214, u215, u216, u217, u218, u219, u220, u221, u222, u223, u224, u225, u226, u227, u228, u229, u230, u231, u232, u233, u234, u235, u236, u237, u238, u239, u240, u241, u242, u243, u244, u245, u246, u247, u248, u249, u250, u251, u252, u253, u254, u255, u256, u257, u258, u259, u260, u261, u262, u263, u264, u265, u266, u267, u268, u269, u270, u271, u272, u273, u274, u275, u276, u277, u278, u279, u280, u281, u282, u283, u284, u285, u286, u287, u288, u289, u290, u291, u292, u293, u294, u295, u296, u297, u298, u299, u300, u301, u302, u303, u304, u305, u306, u307, u308, u309, u310, u311, u312, u313, u314, u315, u316, u317, u318, u319, u320, u321, u322, u323, u324, u325, u326, u327, u328, u329, u330, u331, u332, u333, u334, u335, u336, u337, u338, u339, u340, u341, u342, u343, u344, u345, u346, u347, u348, u349, u350, u351, u352, u353, u354, u355, u356, u357, u358, u359, u360, u361, u362, u363, u364, u365, u366, u367, u368, u369, u370, u371, u372, u373, u374, u375, u376, u377, u378, u379, u380, u381, u382, u383, u384, u385, u386, u387, u388, u389, u390, u391, u392, u393, u394, u395, u396, u397, u398, u399, u400, u401, u402, u403, u404, u405, u406, u407, u408, u409, u410, u411, u412, u413, u414, u415, u416, u417, u418, u419, u420, u421, u422, u423, u424, u425, u426, u427, u428, u429, u430], defers := [] } w := by
 have HQ := hide hQ; have HI0 := hide hI
 clear hQ hI
 simp only [Tryz.f4, Option.getD, loopsOf, List.append_eq, List.nil_append, List.append_nil, List.cons_append, List.getD, List.getElem?_cons_succ, List.getElem?_cons_zero]
 go_loopw [23, 26] (fun sb si wr => ∃ k : Nat, k ≤ g ∧ si = .int .i64 k ∧ Hid (L1I wb ts ds (bs ++ (List.range k).map (bgB o)) vt vd sb wr)) (fun _ si _ => g - (intOf si).toNat)
 case atStart => exact ⟨0, Nat.zero_le _, rfl, hide (by simpa using HI0.out)⟩
 case round =>
  clear HI0
  obtain ⟨k, hkl, rfl, HI⟩ := hrel
  by_cases hlt : k < g
  ·have q1 : (0 : Int) ≤ (k : Int) := by omega
   have q2 : (k : Int) < (g : Int) := by omega
   have hln : (bs ++ (List.range k).map (bgB o)).length ≤ 40 := by simp; omega
   have hsc : bs ++ (List.range (k + 1)).map (bgB o) = (bs ++ (List.range k).map (bgB o)) ++ [bgB o k] := by rw [List.range_succ, List.map_append, List.append_assoc]; rfl
   have HSc := hide hsc
   obtain ⟨j0, hj0, hjz0, hjz1, hjz2⟩ := info_parts infoBox
   clear hsc
   generalize bs ++ (List.range k).map (bgB o) = bk at *
   go_wp2_with (go_at_call 18; refine Stop.out ?_)
   refine Stop.go (digits_c 66 k (by omega) wr _ ?_)
   obtain ⟨w6, hw6⟩ : ∃ w6, wr.alloc (.cells #[.string (lab3 66 k), .int .i64 1, .int .i64 (-1), .int .i64 (o : Int), .bool false] 69) = w6 := ⟨_, rfl⟩
   have HI6 := hide (HI.out.next (hw6 ▸ balloc (Below.refl _ _) _))
   have hsrc : Src w6 (some ⟨wr.heap.size, 0, none⟩) 1 5 (bgB o k).cells := hw6 ▸ Src.lit rfl 5 rfl
   have HSr := hide hsrc
   have hs6 := HI6.out.below.size
   clear hsrc HI
   go_wp2_with (at_builtin; refine Stop.out ?_)
   try rw [hw6]
   clear hw6
   refine Stop.go ?_
   refine wpList_app _ rfl (.tmp 169) (.tmp 174) 66 rfl wb.heap.size 69 j0 _ 5 48 Tryz.underlying66 hj0 hjz0 hjz1 hjz2 rfl (by omega) u23 _ _ rfl HI6.out.b (some ⟨wr.heap.size, 0, none⟩) 1 1 (bgB o k).cells rfl HSr.out (by intro u hu; simp only [bgB, Bx.cells, List.mem_cons, List.not_mem_nil, or_false] at hu; rcases hu with rfl | rfl | rfl | rfl | rfl <;> rfl) (by unfold maxLen; omega) (by omega) hs6 ?_
   intro v7 w7 ho7 hg7
   have HI7 : Hid (L1I wb ts ds (bs ++ (List.range (k + 1)).map (bgB o)) vt vd v7 w7) := hide (by rw [HSc.out]; exact HI6.out.appB ho7 hg7)
   clear ho7 hg7 HI6 HSr hs6 hj0 hjz0 hjz1 hjz2
   go_wp2
   go_roundw
   case rel => exact ⟨k + 1, by omega, by go_num, HI7⟩
   case measure => simp [intOf]; omega
  ·obtain rfl : k = g := by omega
   have q2 : ¬ (k : Int) < (k : Int) := by omega
   go_wp2
   exact HQ.out _ _ _ _ _ _ _ _ _ _ _ _ _ wr u23 HI.out
end
end Go.Proofs.YtgfhcmidnbahjaaGreatDoor
