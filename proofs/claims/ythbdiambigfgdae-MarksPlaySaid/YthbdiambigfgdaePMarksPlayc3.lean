/- PRINTED by this session's mk.py (the kit's print, with some contracts by hand): the functions that the law MarksPlay reaches, as Lean functions, and that the machine's calls answer so. -/
import Derived.Test.YthbdiambigfgdaeSq
import Derived.Test.YthbdiambigfgdaePMarksPlayx0
import Derived.Test.YthbdiambigfgdaePMarksPlayx1
import Derived.Test.YthbdiambigfgdaePMarksPlayx2
import Derived.Test.YthbdiambigfgdaePMarksPlayx3
import Derived.Test.YthbdiambigfgdaePMarksPlayx4
import Derived.Test.YthbdiambigfgdaePMarksPlayc
namespace Go.Proofs.Ythbdiambigfgdae.PMarksPlay
open Go.Proofs.Ythbdiambigfgdae.Sq Go.Proofs.Ythbdiambigfgdae Go.Proofs.Ythbdiambigfgdae.PMarksRead Go.Proofs.Ythbdiambigfgdae.Hand Go.RowKit Go.Proofs.YthbdiambigfgdaeW.PrintWords Go.Proofs.YthbdiambigfgdaeW.PrintLast Go.Proofs.YthbdiambigfgdaeW.PrintMore
attribute [local go_sem] max2_int min2_int max_two min_two max_three min_three max_four min_four   -- for this text's walks alone
set_option linter.unusedVariables false
set_option linter.unusedSimpArgs false

attribute [local go_sem high] eqA30 eqA42
set_option maxHeartbeats 8000000 in
set_option maxRecDepth 100000 in
theorem lawP.sw3 {u0 u1 u2 u9 u10 u11 u12 u13 u14 u15 u16 u17 u18 u19 u20 u21 u22 u23 u24 u25 u26 u27 u28 u29 u30 u31 u32 u33 u34 u35 u36 u37 u38 u39 u40 u41 u42 u43 u44 u45 u46 u47 u48 u49 u50 u51 u52 u53 u54 u55 u56 u57 u58 u59 u60 u61 u63 u64 u65 u66 u67 u68 u69 u70 u71 u72 u73 u74 u75 u76 u77 u78 u79 u80 u81 u82 u83 u84 u85 u86 u87 u88 u89 u90 u91 u92 u93 u94 u95 u96 u97 u98 u99 u100 u101 u102 u103 u104 u105 u106 u107 u108 u109 u110 u111 u112 u113 u114 u115 u116 u117 u118 u119 u120 u121 u122 u123 u124 u125 u126 u127 u128 u129 u130 u131 u132 u133 u134 u135 u136 u137 u138 u139 u140 u141 u142 u143 u144 u145 u146 u147 u148 u149 u150 u151 u152 u153 u154 u155 u156 u157 u158 u159 u160 u161 u162 u163 u164 u165 u166 u167 u168 u169 u170 u171 u172 u173 u174 u175 u176 u177 u178 u179 u180 u181 u182 u183 u184 u185 u186 u187 u188 u189 u190 u191 u192 u193 u194 u195 u196 u197 u198 u199 u200 u201 u202 u203 u204 u205 u206 u207 u208 u209 u210 u211 u212 u213 u214 u215 u216 u217 u218 u219 u220 u221 u222 u223 u224 u225 u226 u227 u228 u229 u230 u231 u232 u233 u234 u235 u236 u237 u238 u239 u240 u241 u242 u243 u244 u245 u246 u247 u248 u249 u250 u251 u252 u253 u254 u255 u256 u257 u258 u259 u260 u261 u262 u263 u264 u265 u266 u267 u268 u269 u270 u271 u272 u273 u274 u275 u276 u277 u278 u279 u280 u281 u282 u283 u284 u285 u286 u287 u288 u289 u290 u291 u292 u293 u294 u295 u296 u297 u298 u299 u300 u301 u302 u303 u304 u305 u306 u307 u308 u309 u310 u311 u312 u313 u314 u315 u316 u317 u318 u319 u320 u321 u322 u323 u324 u325 u326 u327 u328 u329 u330 u331 u332 u333 u334 u335 u336 u337 u338 u339 u340 u341 u342 u343 u344 u345 u346 u347 u348 u349 u350 u351 u352 u353 u354 u355 u356 u357 u358 u359 u360 u361 u362 u363 u364 u365 u366 u367 u368 u369 u370 : Value} 
    {r : Bool} {w : World} {l0 : List (S35)} {g102 gb105 : Nat} {x4_1 : List (S42)} {x5_1 x6_1 t107 : Int} {x103000_1 : (List S94 × Int)} {k1 : Nat} {A104_8 : Option Addr} {c104_8 : Nat} {Ao21 : Option Addr} {co21 : Nat} {w18 : World} {J K' : Act → World → Prop} {Q' : Exit → Act → World → Prop}
    (HO_4 : Aside0 (Kd.R k42 42 w18 w.heap.size (fun _ => True) (.slice Ao21 x4_1.length co21) x4_1)) (HI102 : Aside0 (IsS90 w w18 g102 x103000_1)) (HB : Aside0 (Below w.heap.size w w18)) (BK105 : Aside0 (w18.heap[gb105]? = some (.cells #[.int .i64 ((rd_T35 l0 x6_1).f0), .int .i64 ((rd_T35 l0 x6_1).f1), .int .i64 ((rd_T35 l0 x6_1).f2.f0.f0), .int .i64 ((rd_T35 l0 x6_1).f2.f0.f1), .bool ((rd_T35 l0 x6_1).f2.f1), .bool ((rd_T35 l0 x6_1).f2.f2), .int .i64 ((rd_T35 l0 x6_1).f3.f0), .int .i64 ((rd_T35 l0 x6_1).f3.f1), (.slice A104_8 ((rd_T35 l0 x6_1).f3.f2).length c104_8)] 35 (0, 0)))) (GE105 : Aside0 (w.heap.size ≤ gb105)) (NB102_105 : Aside0 (g102 ≠ gb105)) (NB105_102 : Aside0 (gb105 ≠ g102)) (HR104_8 : Aside0 ((Kd.int .i32).C w A104_8 ((rd_T35 l0 x6_1).f3.f2).length ((rd_T35 l0 x6_1).f3.f2))) (HC104_8 : Aside0 (((rd_T35 l0 x6_1).f3.f2).length ≤ c104_8)) {k : Nat} (HK1 : Aside0 (k1 + 1 ≤ k))
    (c22 : ¬ ((rd_T35 l0 x6_1).f0) = 0) (c64 : ¬ ((rd_T35 l0 x6_1).f0) = 1) (c90 : ¬ ((rd_T35 l0 x6_1).f0) = 2) (c126 : ((rd_T35 l0 x6_1).f0) = 3)
    (H : ((marks_Marks_Get.f k1 x103000_1 ((rd_T35 l0 x6_1).f1)).bind fun bt164 => (if t107 < 0 then (if bt164.2.2.2.2.1 = 4 then (if ((!(bt164.1 == 0) || (!(bt164.2.1 == 0))) || (bt164.2.2.1 || (bt164.2.2.2.1))) = true then (lawP.j8 k1 l0 x4_1 x5_1 x6_1 t107 true bt164.2.2.2.2.2 ((rd_T35 l0 x6_1).f0) ((rd_T35 l0 x6_1).f1) ((rd_T35 l0 x6_1).f2.f0.f0) ((rd_T35 l0 x6_1).f2.f0.f1) ((rd_T35 l0 x6_1).f2.f1) ((rd_T35 l0 x6_1).f2.f2) ((rd_T35 l0 x6_1).f3.f0) ((rd_T35 l0 x6_1).f3.f1) ((rd_T35 l0 x6_1).f3.f2) bt164.1 bt164.2.1 bt164.2.2.1 bt164.2.2.2.1) else (if t107 ≥ 0 then (lawP.j8 k1 l0 x4_1 x5_1 x6_1 t107 (bt164.2.2.2.2.1 != 0) bt164.2.2.2.2.2 ((rd_T35 l0 x6_1).f0) ((rd_T35 l0 x6_1).f1) ((rd_T35 l0 x6_1).f2.f0.f0) ((rd_T35 l0 x6_1).f2.f0.f1) ((rd_T35 l0 x6_1).f2.f1) ((rd_T35 l0 x6_1).f2.f2) ((rd_T35 l0 x6_1).f3.f0) ((rd_T35 l0 x6_1).f3.f1) ((rd_T35 l0 x6_1).f3.f2) bt164.1 bt164.2.1 bt164.2.2.1 bt164.2.2.2.1) else (lawP.j8 k1 l0 x4_1 x5_1 x6_1 t107 false bt164.2.2.2.2.2 ((rd_T35 l0 x6_1).f0) ((rd_T35 l0 x6_1).f1) ((rd_T35 l0 x6_1).f2.f0.f0) ((rd_T35 l0 x6_1).f2.f0.f1) ((rd_T35 l0 x6_1).f2.f1) ((rd_T35 l0 x6_1).f2.f2) ((rd_T35 l0 x6_1).f3.f0) ((rd_T35 l0 x6_1).f3.f1) ((rd_T35 l0 x6_1).f3.f2) bt164.1 bt164.2.1 bt164.2.2.1 bt164.2.2.2.1))) else (lawP.j8 k1 l0 x4_1 x5_1 x6_1 t107 true bt164.2.2.2.2.2 ((rd_T35 l0 x6_1).f0) ((rd_T35 l0 x6_1).f1) ((rd_T35 l0 x6_1).f2.f0.f0) ((rd_T35 l0 x6_1).f2.f0.f1) ((rd_T35 l0 x6_1).f2.f1) ((rd_T35 l0 x6_1).f2.f2) ((rd_T35 l0 x6_1).f3.f0) ((rd_T35 l0 x6_1).f3.f1) ((rd_T35 l0 x6_1).f3.f2) bt164.1 bt164.2.1 bt164.2.2.1 bt164.2.2.2.1)) else (if t107 ≥ 0 then (lawP.j8 k1 l0 x4_1 x5_1 x6_1 t107 (bt164.2.2.2.2.1 != 0) bt164.2.2.2.2.2 ((rd_T35 l0 x6_1).f0) ((rd_T35 l0 x6_1).f1) ((rd_T35 l0 x6_1).f2.f0.f0) ((rd_T35 l0 x6_1).f2.f0.f1) ((rd_T35 l0 x6_1).f2.f1) ((rd_T35 l0 x6_1).f2.f2) ((rd_T35 l0 x6_1).f3.f0) ((rd_T35 l0 x6_1).f3.f1) ((rd_T35 l0 x6_1).f3.f2) bt164.1 bt164.2.1 bt164.2.2.1 bt164.2.2.2.1) else (lawP.j8 k1 l0 x4_1 x5_1 x6_1 t107 false bt164.2.2.2.2.2 ((rd_T35 l0 x6_1).f0) ((rd_T35 l0 x6_1).f1) ((rd_T35 l0 x6_1).f2.f0.f0) ((rd_T35 l0 x6_1).f2.f0.f1) ((rd_T35 l0 x6_1).f2.f1) ((rd_T35 l0 x6_1).f2.f2) ((rd_T35 l0 x6_1).f3.f0) ((rd_T35 l0 x6_1).f3.f1) ((rd_T35 l0 x6_1).f3.f2) bt164.1 bt164.2.1 bt164.2.2.1 bt164.2.2.2.1)))) = some r)
    (hJ : ∀ a' w', swR l0 g102 gb105 r w x6_1 t107 k1 A104_8 c104_8 u0 u1 u26 u27 u28 u29 u30 u31 u32 u33 u34 u35 u36 u37 u38 u39 u40 u370 a' w' → J a' w') (hK : ∀ a' w', Met J a' w' → K' a' w') (hQp : ∀ N v c a w', Q' (.panic c) (Act.put a N v) w' → Q' (.panic c) a w') :
    Code.wp Try.prog (.block 2 swBody) (Exit.then K' Q') ⟨#[u0, u1, u2, .pointer (some ⟨g102, 0, none⟩), .slice Ao21 x4_1.length co21, .int .i64 x5_1, .int .i64 x6_1, .pointer (some ⟨gb105, 0, none⟩), .int .i64 t107, u9, u10, u11, u12, u13, u14, u15, u16, u17, u18, u19, u20, u21, u22, u23, u24, u25, u26, u27, u28, u29, u30, u31, u32, u33, u34, u35, u36, u37, u38, u39, u40, u41, u42, u43, u44, u45, u46, u47, u48, u49, u50, u51, u52, u53, u54, u55, u56, u57, u58, u59, u60, u61, .int .i64 ((rd_T35 l0 x6_1).f0), u63, u64, u65, u66, u67, u68, u69, u70, u71, u72, u73, u74, u75, u76, u77, u78, u79, u80, u81, u82, u83, u84, u85, u86, u87, u88, u89, u90, u91, u92, u93, u94, u95, u96, u97, u98, u99, u100, u101, u102, u103, u104, u105, u106, u107, u108, u109, u110, u111, u112, u113, u114, u115, u116, u117, u118, u119, u120, u121, u122, u123, u124, u125, u126, u127, u128, u129, u130, u131, u132, u133, u134, u135, u136, u137, u138, u139, u140, u141, u142, u143, u144, u145, u146, u147, u148, u149, u150, u151, u152, u153, u154, u155, u156, u157, u158, u159, u160, u161, u162, u163, u164, u165, u166, u167, u168, u169, u170, u171, u172, u173, u174, u175, u176, u177, u178, u179, u180, u181, u182, u183, u184, u185, u186, u187, u188, u189, u190, u191, u192, u193, u194, u195, u196, u197, u198, u199, u200, u201, u202, u203, u204, u205, u206, u207, u208, u209, u210, u211, u212, u213, u214, u215, u216, u217, u218, u219, u220, u221, u222, u223, u224, u225, u226, u227, u228, u229, u230, u231, u232, u233, u234, u235, u236, u237, u238, u239, u240, u241, u242, u243, u244, u245, u246, u247, u248, u249, u250, u251, u252, u253, u254, u255, u256, u257, u258, u259, u260, u261, u262, u263, u264, u265, u266, u267, u268, u269, u270, u271, u272, u273, u274, u275, u276, u277, u278, u279, u280, u281, u282, u283, u284, u285, u286, u287, u288, u289, u290, u291, u292, u293, u294, u295, u296, u297, u298, u299, u300, u301, u302, u303, u304, u305, u306, u307, u308, u309, u310, u311, u312, u313, u314, u315, u316, u317, u318, u319, u320, u321, u322, u323, u324, u325, u326, u327, u328, u329, u330, u331, u332, u333, u334, u335, u336, u337, u338, u339, u340, u341, u342, u343, u344, u345, u346, u347, u348, u349, u350, u351, u352, u353, u354, u355, u356, u357, u358, u359, u360, u361, u362, u363, u364, u365, u366, u367, u368, u369, u370], []⟩ w18 := by
  let bp_ := bodyPost Try.prog Try.f3
  unfold swR at hJ
  dsimp only at hJ ⊢
  unfold swBody
  conv => { arg 2; arg 2; whnf }
  have hu35 := Try.underlying35
  have hu30 := Try.underlying30
  have hu33 := Try.underlying33
  have hu42 := Try.underlying42
  have hu28 := Try.underlying28
  have hnb0 := NB105_102.out
  have hnc0 := NB102_105.out
  have hcz0_0 : w18.cell? ⟨gb105, 0, none⟩ = some (.int .i64 ((rd_T35 l0 x6_1).f0)) := (blk_cell BK105.out 0).trans rfl
  have hcz0_1 : w18.cell? ⟨gb105, 1, none⟩ = some (.int .i64 ((rd_T35 l0 x6_1).f1)) := (blk_cell BK105.out 1).trans rfl
  have hcz0_2 : w18.cell? ⟨gb105, 2, none⟩ = some (.int .i64 ((rd_T35 l0 x6_1).f2.f0.f0)) := (blk_cell BK105.out 2).trans rfl
  have hcz0_3 : w18.cell? ⟨gb105, 3, none⟩ = some (.int .i64 ((rd_T35 l0 x6_1).f2.f0.f1)) := (blk_cell BK105.out 3).trans rfl
  have hcz0_4 : w18.cell? ⟨gb105, 4, none⟩ = some (.bool ((rd_T35 l0 x6_1).f2.f1)) := (blk_cell BK105.out 4).trans rfl
  have hcz0_5 : w18.cell? ⟨gb105, 5, none⟩ = some (.bool ((rd_T35 l0 x6_1).f2.f2)) := (blk_cell BK105.out 5).trans rfl
  have hcz0_6 : w18.cell? ⟨gb105, 6, none⟩ = some (.int .i64 ((rd_T35 l0 x6_1).f3.f0)) := (blk_cell BK105.out 6).trans rfl
  have hcz0_7 : w18.cell? ⟨gb105, 7, none⟩ = some (.int .i64 ((rd_T35 l0 x6_1).f3.f1)) := (blk_cell BK105.out 7).trans rfl
  have hcz0_8 : w18.cell? ⟨gb105, 8, none⟩ = some (.slice A104_8 ((rd_T35 l0 x6_1).f3.f2).length c104_8) := (blk_cell BK105.out 8).trans rfl
  have hfz0_0 := blk_frozen BK105.out 0
  have hfz0_1 := blk_frozen BK105.out 1
  have hfz0_2 := blk_frozen BK105.out 2
  have hfz0_3 := blk_frozen BK105.out 3
  have hfz0_4 := blk_frozen BK105.out 4
  have hfz0_5 := blk_frozen BK105.out 5
  have hfz0_6 := blk_frozen BK105.out 6
  have hfz0_7 := blk_frozen BK105.out 7
  have hfz0_8 := blk_frozen BK105.out 8
  have c22b0 : (((rd_T35 l0 x6_1).f0) == 0) = false := beq_eq_false_iff_ne.mpr c22
  have c22b1 : (((rd_T35 l0 x6_1).f0) != 0) = true := bne_iff_ne.mpr c22
  have c64b0 : (((rd_T35 l0 x6_1).f0) == 1) = false := beq_eq_false_iff_ne.mpr c64
  have c64b1 : (((rd_T35 l0 x6_1).f0) != 1) = true := bne_iff_ne.mpr c64
  have c90b0 : (((rd_T35 l0 x6_1).f0) == 2) = false := beq_eq_false_iff_ne.mpr c90
  have c90b1 : (((rd_T35 l0 x6_1).f0) != 2) = true := bne_iff_ne.mpr c90
  have c126b0 : (((rd_T35 l0 x6_1).f0) == 3) = true := beq_iff_eq.mpr c126
  have c126b1 : (((rd_T35 l0 x6_1).f0) != 3) = false := bne_eq_false_iff_eq.mpr c126
  clear c126
  replace H := Option.bind_eq_some_iff.mp H
  obtain ⟨⟨t164, t165, t166, t167, t168, t169⟩, A1270, H⟩ := H
  replace H : (if t107 < 0 then (if t168 = 4 then (if ((!(t164 == 0) || (!(t165 == 0))) || (t166 || (t167))) = true then (lawP.j8 k1 l0 x4_1 x5_1 x6_1 t107 true t169 ((rd_T35 l0 x6_1).f0) ((rd_T35 l0 x6_1).f1) ((rd_T35 l0 x6_1).f2.f0.f0) ((rd_T35 l0 x6_1).f2.f0.f1) ((rd_T35 l0 x6_1).f2.f1) ((rd_T35 l0 x6_1).f2.f2) ((rd_T35 l0 x6_1).f3.f0) ((rd_T35 l0 x6_1).f3.f1) ((rd_T35 l0 x6_1).f3.f2) t164 t165 t166 t167) else (if t107 ≥ 0 then (lawP.j8 k1 l0 x4_1 x5_1 x6_1 t107 (t168 != 0) t169 ((rd_T35 l0 x6_1).f0) ((rd_T35 l0 x6_1).f1) ((rd_T35 l0 x6_1).f2.f0.f0) ((rd_T35 l0 x6_1).f2.f0.f1) ((rd_T35 l0 x6_1).f2.f1) ((rd_T35 l0 x6_1).f2.f2) ((rd_T35 l0 x6_1).f3.f0) ((rd_T35 l0 x6_1).f3.f1) ((rd_T35 l0 x6_1).f3.f2) t164 t165 t166 t167) else (lawP.j8 k1 l0 x4_1 x5_1 x6_1 t107 false t169 ((rd_T35 l0 x6_1).f0) ((rd_T35 l0 x6_1).f1) ((rd_T35 l0 x6_1).f2.f0.f0) ((rd_T35 l0 x6_1).f2.f0.f1) ((rd_T35 l0 x6_1).f2.f1) ((rd_T35 l0 x6_1).f2.f2) ((rd_T35 l0 x6_1).f3.f0) ((rd_T35 l0 x6_1).f3.f1) ((rd_T35 l0 x6_1).f3.f2) t164 t165 t166 t167))) else (lawP.j8 k1 l0 x4_1 x5_1 x6_1 t107 true t169 ((rd_T35 l0 x6_1).f0) ((rd_T35 l0 x6_1).f1) ((rd_T35 l0 x6_1).f2.f0.f0) ((rd_T35 l0 x6_1).f2.f0.f1) ((rd_T35 l0 x6_1).f2.f1) ((rd_T35 l0 x6_1).f2.f2) ((rd_T35 l0 x6_1).f3.f0) ((rd_T35 l0 x6_1).f3.f1) ((rd_T35 l0 x6_1).f3.f2) t164 t165 t166 t167)) else (if t107 ≥ 0 then (lawP.j8 k1 l0 x4_1 x5_1 x6_1 t107 (t168 != 0) t169 ((rd_T35 l0 x6_1).f0) ((rd_T35 l0 x6_1).f1) ((rd_T35 l0 x6_1).f2.f0.f0) ((rd_T35 l0 x6_1).f2.f0.f1) ((rd_T35 l0 x6_1).f2.f1) ((rd_T35 l0 x6_1).f2.f2) ((rd_T35 l0 x6_1).f3.f0) ((rd_T35 l0 x6_1).f3.f1) ((rd_T35 l0 x6_1).f3.f2) t164 t165 t166 t167) else (lawP.j8 k1 l0 x4_1 x5_1 x6_1 t107 false t169 ((rd_T35 l0 x6_1).f0) ((rd_T35 l0 x6_1).f1) ((rd_T35 l0 x6_1).f2.f0.f0) ((rd_T35 l0 x6_1).f2.f0.f1) ((rd_T35 l0 x6_1).f2.f1) ((rd_T35 l0 x6_1).f2.f2) ((rd_T35 l0 x6_1).f3.f0) ((rd_T35 l0 x6_1).f3.f1) ((rd_T35 l0 x6_1).f3.f2) t164 t165 t166 t167))) = some r := H
  have A127 := Aside0.mk A1270; clear A1270; have HC128 := Aside0.mk H; clear H
  have hnb129 := NB105_102.out
  have hnc129 := NB102_105.out
  go_upto_region 48 with (first | ((with_reducible refine gate_callee (f := 16) rfl ?_); refine goesL_ (some 194) rfl rfl Try.func16 (by kernel_rfl) rfl #[.pointer (some ⟨g102, 0, none⟩), .int .i64 ((rd_T35 l0 x6_1).f1)] rfl (by (try simp only [List.map_toArray, List.map_cons, List.map_nil]); first | done | rfl | (simp only [List.length_drop, List.length_take]; rfl)) ?_; (with_reducible refine (marks_Marks_Get.calls k1 g102 x103000_1 ((rd_T35 l0 x6_1).f1) t164 t165 t166 t167 t168 t169 w _ ?side1 ?side2 A127.out).mono ?_); (case side1 => repeat (first | (with_reducible first | exact HI102.out | apply IsS90.alloc | apply IsS90.drewN | apply IsS90.drew | apply IsS90.set_0 | refine IsS90.far ?_ NB102_105.out (by repeat (first | exact Ty.mk BK105.out (by decide) | apply Ty.set)) _) | exact HI102.out)); (case side2 => repeat (first | (with_reducible first | exact HB.out | apply below_alloc | apply pw_below_drewN | apply below_drew1 | refine below_set ?_ (IsS90.ge HI102.out) | refine below_set ?_ GE105.out) | exact HB.out)); rintro e w131 ⟨rfl, hi, hb, hk⟩; refine ⟨_, rfl, ?_⟩; have n0_ := Aside0.mk (Kd.R_mono (R_keepM (IsS90.apart (show IsS90 w _ g102 x103000_1 from by repeat (first | (with_reducible first | exact HI102.out | apply IsS90.alloc | apply IsS90.drewN | apply IsS90.drew | apply IsS90.set_0 | refine IsS90.far ?_ NB102_105.out (by repeat (first | exact Ty.mk BK105.out (by decide) | apply Ty.set)) _) | exact HI102.out)) (rr_ (HO_4.out)) (by decide)) hk (fun _ h => h.2)) (fun _ h => h.1)); have n1_ := Aside0.mk (KeepM.blk hk (g' := gb105) (o := .cells #[.int .i64 ((rd_T35 l0 x6_1).f0), .int .i64 ((rd_T35 l0 x6_1).f1), .int .i64 ((rd_T35 l0 x6_1).f2.f0.f0), .int .i64 ((rd_T35 l0 x6_1).f2.f0.f1), .bool ((rd_T35 l0 x6_1).f2.f1), .bool ((rd_T35 l0 x6_1).f2.f2), .int .i64 ((rd_T35 l0 x6_1).f3.f0), .int .i64 ((rd_T35 l0 x6_1).f3.f1), .slice A104_8 ((rd_T35 l0 x6_1).f3.f2).length c104_8] 35 (0, 0)) (kb_ BK105.out) NB105_102.out (by simp)); have n2_ := Aside0.mk (hb); have n3_ := Aside0.mk (hi); clear HO_4; clear BK105; clear HB; clear HI102; have HO_4 := n0_; have BK105 := n1_; have HB := n2_; have HI102 := n3_; clear n0_ n1_ n2_ n3_; ) | ((with_reducible refine gate_dst (N := 17) rfl ?_); (try (refine gate_guard (by rfl) ?_; dsimp only)); refine box_event ?hg (N := 17) ?hd (cs := #[.int .i64 0, .int .i64 0, .bool false, .bool false]) (t := 30) ?hr ?_; (case hd => rfl); (case hg => rfl); (case hr => first | (go_simp; done) | (go_simp; rfl)); intro gb170 hg w132 hbox hb; have n0_ := Aside0.mk (Kd.R_below (rr_ HO_4.out) hb); have n1_ := Aside0.mk (IsS90.below (by repeat (first | (with_reducible first | exact HI102.out | apply IsS90.alloc | apply IsS90.drewN | apply IsS90.drew | apply IsS90.set_0 | refine IsS90.far ?_ NB102_105.out (by repeat (first | exact Ty.mk BK105.out (by decide) | apply Ty.set)) _) | exact HI102.out)) hb); have n2_ := Aside0.mk (blk_below (g := gb105) (o := .cells #[.int .i64 ((rd_T35 l0 x6_1).f0), .int .i64 ((rd_T35 l0 x6_1).f1), .int .i64 ((rd_T35 l0 x6_1).f2.f0.f0), .int .i64 ((rd_T35 l0 x6_1).f2.f0.f1), .bool ((rd_T35 l0 x6_1).f2.f1), .bool ((rd_T35 l0 x6_1).f2.f2), .int .i64 ((rd_T35 l0 x6_1).f3.f0), .int .i64 ((rd_T35 l0 x6_1).f3.f1), .slice A104_8 ((rd_T35 l0 x6_1).f3.f2).length c104_8] 35 (0, 0)) (kb_ BK105.out) hb); have n3_ := Aside0.mk (below_step (by repeat (first | (with_reducible first | exact HB.out | apply below_alloc | apply pw_below_drewN | apply below_drew1 | refine below_set ?_ (IsS90.ge HI102.out) | refine below_set ?_ GE105.out) | exact HB.out)) hb); have n4_ := Aside0.mk (hbox); have n5_ := Aside0.mk ((by rw [hg]; exact (below_size (by repeat (first | (with_reducible first | exact HB.out | apply below_alloc | apply pw_below_drewN | apply below_drew1 | refine below_set ?_ (IsS90.ge HI102.out) | refine below_set ?_ GE105.out) | exact HB.out))) : w.heap.size ≤ gb170)); have n6_ := Aside0.mk ((by rw [hg]; exact (below_size (by repeat (first | (with_reducible first | exact HB.out | apply below_alloc | apply pw_below_drewN | apply below_drew1 | refine below_set ?_ (IsS90.ge HI102.out) | refine below_set ?_ GE105.out) | exact HB.out))) : w.heap.size ≤ gb170)); have n7_ := Aside0.mk ((by rw [hg]; exact Nat.ne_of_lt (blk_lt (g := gb105) (o := .cells #[.int .i64 ((rd_T35 l0 x6_1).f0), .int .i64 ((rd_T35 l0 x6_1).f1), .int .i64 ((rd_T35 l0 x6_1).f2.f0.f0), .int .i64 ((rd_T35 l0 x6_1).f2.f0.f1), .bool ((rd_T35 l0 x6_1).f2.f1), .bool ((rd_T35 l0 x6_1).f2.f2), .int .i64 ((rd_T35 l0 x6_1).f3.f0), .int .i64 ((rd_T35 l0 x6_1).f3.f1), .slice A104_8 ((rd_T35 l0 x6_1).f3.f2).length c104_8] 35 (0, 0)) (kb_ BK105.out)) : gb105 ≠ gb170)); have n8_ := Aside0.mk ((by rw [hg]; exact Nat.ne_of_gt (blk_lt (g := gb105) (o := .cells #[.int .i64 ((rd_T35 l0 x6_1).f0), .int .i64 ((rd_T35 l0 x6_1).f1), .int .i64 ((rd_T35 l0 x6_1).f2.f0.f0), .int .i64 ((rd_T35 l0 x6_1).f2.f0.f1), .bool ((rd_T35 l0 x6_1).f2.f1), .bool ((rd_T35 l0 x6_1).f2.f2), .int .i64 ((rd_T35 l0 x6_1).f3.f0), .int .i64 ((rd_T35 l0 x6_1).f3.f1), .slice A104_8 ((rd_T35 l0 x6_1).f3.f2).length c104_8] 35 (0, 0)) (kb_ BK105.out)) : gb170 ≠ gb105)); have n9_ := Aside0.mk ((by rw [hg]; exact Nat.ne_of_lt (IsS90.lt (show IsS90 w _ g102 t169 from by repeat (first | (with_reducible first | exact HI102.out | apply IsS90.alloc | apply IsS90.drewN | apply IsS90.drew | apply IsS90.set_0 | refine IsS90.far ?_ NB102_105.out (by repeat (first | exact Ty.mk BK105.out (by decide) | apply Ty.set)) _) | exact HI102.out))) : g102 ≠ gb170)); have n10_ := Aside0.mk ((by rw [hg]; exact Nat.ne_of_gt (IsS90.lt (show IsS90 w _ g102 t169 from by repeat (first | (with_reducible first | exact HI102.out | apply IsS90.alloc | apply IsS90.drewN | apply IsS90.drew | apply IsS90.set_0 | refine IsS90.far ?_ NB102_105.out (by repeat (first | exact Ty.mk BK105.out (by decide) | apply Ty.set)) _) | exact HI102.out))) : gb170 ≠ g102)); clear HO_4; clear HI102; clear BK105; clear HB; have HO_4 := n0_; have HI102 := n1_; have BK105 := n2_; have HB := n3_; have BK170 := n4_; have GW170 := n5_; have GE170 := n6_; have NB105_170 := n7_; have NB170_105 := n8_; have NB102_170 := n9_; have NB170_102 := n10_; clear n0_ n1_ n2_ n3_ n4_ n5_ n6_ n7_ n8_ n9_ n10_; clear hb hbox hg; have hnb133 := NB170_105.out; have hnc133 := NB105_170.out; have hnb134 := NB170_102.out; have hnc134 := NB102_170.out; have hcz135_0 : w132.cell? ⟨gb170, 0, none⟩ = some (.int .i64 0) := (blk_cell BK170.out 0).trans rfl; have hcz135_1 : w132.cell? ⟨gb170, 1, none⟩ = some (.int .i64 0) := (blk_cell BK170.out 1).trans rfl; have hcz135_2 : w132.cell? ⟨gb170, 2, none⟩ = some (.bool false) := (blk_cell BK170.out 2).trans rfl; have hcz135_3 : w132.cell? ⟨gb170, 3, none⟩ = some (.bool false) := (blk_cell BK170.out 3).trans rfl; have hfz135_0 := blk_frozen BK170.out 0; have hfz135_1 := blk_frozen BK170.out 1; have hfz135_2 := blk_frozen BK170.out 2; have hfz135_3 := blk_frozen BK170.out 3))
  (try simp only [Act.put, List.setIfInBounds_toArray, List.set_cons_zero, List.set_cons_succ])
  go_cut [215] (fun v215 wc => ∃ (kq : Nat) (x215_127 : Bool), v215 = .bool x215_127 ∧ Aside0 (lawP.j8 kq l0 x4_1 x5_1 x6_1 t107 x215_127 t169 ((rd_T35 l0 x6_1).f0) ((rd_T35 l0 x6_1).f1) ((rd_T35 l0 x6_1).f2.f0.f0) ((rd_T35 l0 x6_1).f2.f0.f1) ((rd_T35 l0 x6_1).f2.f1) ((rd_T35 l0 x6_1).f2.f2) ((rd_T35 l0 x6_1).f3.f0) ((rd_T35 l0 x6_1).f3.f1) ((rd_T35 l0 x6_1).f3.f2) t164 t165 t166 t167 = some r) ∧ Aside0 (kq ≤ k1) ∧ Aside0 (Kd.R k42 42 wc w.heap.size (fun _ => True) (.slice Ao21 x4_1.length co21) x4_1) ∧ Aside0 (wc.heap[gb105]? = some (.cells #[.int .i64 ((rd_T35 l0 x6_1).f0), .int .i64 ((rd_T35 l0 x6_1).f1), .int .i64 ((rd_T35 l0 x6_1).f2.f0.f0), .int .i64 ((rd_T35 l0 x6_1).f2.f0.f1), .bool ((rd_T35 l0 x6_1).f2.f1), .bool ((rd_T35 l0 x6_1).f2.f2), .int .i64 ((rd_T35 l0 x6_1).f3.f0), .int .i64 ((rd_T35 l0 x6_1).f3.f1), (.slice A104_8 ((rd_T35 l0 x6_1).f3.f2).length c104_8)] 35 (0, 0))) ∧ Aside0 (wc.heap[gb170]? = some (.cells #[.int .i64 t164, .int .i64 t165, .bool t166, .bool t167] 30 (0, 0))) ∧ Aside0 (IsS90 w wc g102 t169) ∧ Aside0 (Below w.heap.size w wc))
  case first =>
   as_aux_lemma =>
   have H := HC128.out
   clear HC128
   by_cases c136 : t107 < 0
   rotate_left
   · rw [if_neg c136] at H
     have c136b0 : decide (t107 < 0) = false := decide_eq_false c136
     clear c136; (first | rw [c136b0] | (simp only [i64_w, i32_w]; rw [c136b0]) | skip)
     by_cases c149 : t107 ≥ 0
     · rw [if_pos c149] at H
       have c149b0 : decide (0 ≤ t107) = true := decide_eq_true c149
       clear c149; have H' := Aside0.mk H; clear H
       go_wp2
       go_meet
       case rel => exact ⟨_, ((t168 != 0)), (by first | rfl | (simp; done) | (simp [*]; done)), H', ⟨by have := HK1.out; first | omega | exact Nat.le_refl _⟩, ⟨rr_ (Kd.R_mono (Kd.R_far (p := ⟨gb170, 3, none⟩) (Kd.R_far (p := ⟨gb170, 2, none⟩) (Kd.R_far (p := ⟨gb170, 1, none⟩) (Kd.R_far (p := ⟨gb170, 0, none⟩) (Kd.R_types HO_4.out BK170.out (by decide)) (fun _ hk => hk.2) (.int .i64 t164)) (fun _ hk => hk.2) (.int .i64 t165)) (fun _ hk => hk.2) (.bool t166)) (fun _ hk => hk.2) (.bool t167)) (fun _ hk => trivial))⟩, ⟨by (with_reducible repeat (first | refine blk_drewN ?_ _ | refine blk_drew ?_ | refine blk_alloc ?_ _)); refine blk_far ?_ NB105_170.out _; (with_reducible repeat (first | refine blk_drewN ?_ _ | refine blk_drew ?_ | refine blk_alloc ?_ _)); refine blk_far ?_ NB105_170.out _; (with_reducible repeat (first | refine blk_drewN ?_ _ | refine blk_drew ?_ | refine blk_alloc ?_ _)); refine blk_far ?_ NB105_170.out _; (with_reducible repeat (first | refine blk_drewN ?_ _ | refine blk_drew ?_ | refine blk_alloc ?_ _)); refine blk_far ?_ NB105_170.out _; (with_reducible repeat (first | refine blk_drewN ?_ _ | refine blk_drew ?_ | refine blk_alloc ?_ _)); exact BK105.out⟩, ⟨by (with_reducible repeat (first | refine blk_drewN ?_ _ | refine blk_drew ?_ | refine blk_alloc ?_ _)); refine blk_put (cs := #[.int .i64 t164, .int .i64 t165, .bool t166, .bool false]) ?_ 3 _ rfl; (with_reducible repeat (first | refine blk_drewN ?_ _ | refine blk_drew ?_ | refine blk_alloc ?_ _)); refine blk_put (cs := #[.int .i64 t164, .int .i64 t165, .bool false, .bool false]) ?_ 2 _ rfl; (with_reducible repeat (first | refine blk_drewN ?_ _ | refine blk_drew ?_ | refine blk_alloc ?_ _)); refine blk_put (cs := #[.int .i64 t164, .int .i64 0, .bool false, .bool false]) ?_ 1 _ rfl; (with_reducible repeat (first | refine blk_drewN ?_ _ | refine blk_drew ?_ | refine blk_alloc ?_ _)); refine blk_put (cs := #[.int .i64 0, .int .i64 0, .bool false, .bool false]) ?_ 0 _ rfl; (with_reducible repeat (first | refine blk_drewN ?_ _ | refine blk_drew ?_ | refine blk_alloc ?_ _)); exact BK170.out⟩, ⟨by repeat (first | (with_reducible first | exact HI102.out | apply IsS90.alloc | apply IsS90.drewN | apply IsS90.drew | apply IsS90.set_0 | refine IsS90.far ?_ NB102_105.out (by repeat (first | exact Ty.mk BK105.out (by decide) | apply Ty.set)) _ | refine IsS90.far ?_ NB102_170.out (by repeat (first | exact Ty.mk BK170.out (by decide) | apply Ty.set)) _) | exact HI102.out)⟩, ⟨by repeat (first | (with_reducible first | exact HB.out | apply below_alloc | apply pw_below_drewN | apply below_drew1 | refine below_set ?_ (IsS90.ge HI102.out) | refine below_set ?_ GE105.out | refine below_set ?_ GE170.out) | exact HB.out)⟩⟩
     rw [if_neg c149] at H
     have c149b0 : decide (0 ≤ t107) = false := decide_eq_false c149
     clear c149; have H' := Aside0.mk H; clear H
     go_wp2
     go_meet
     case rel => exact ⟨_, (false), (by first | rfl | (simp; done) | (simp [*]; done)), H', ⟨by have := HK1.out; first | omega | exact Nat.le_refl _⟩, ⟨rr_ (Kd.R_mono (Kd.R_far (p := ⟨gb170, 3, none⟩) (Kd.R_far (p := ⟨gb170, 2, none⟩) (Kd.R_far (p := ⟨gb170, 1, none⟩) (Kd.R_far (p := ⟨gb170, 0, none⟩) (Kd.R_types HO_4.out BK170.out (by decide)) (fun _ hk => hk.2) (.int .i64 t164)) (fun _ hk => hk.2) (.int .i64 t165)) (fun _ hk => hk.2) (.bool t166)) (fun _ hk => hk.2) (.bool t167)) (fun _ hk => trivial))⟩, ⟨by (with_reducible repeat (first | refine blk_drewN ?_ _ | refine blk_drew ?_ | refine blk_alloc ?_ _)); refine blk_far ?_ NB105_170.out _; (with_reducible repeat (first | refine blk_drewN ?_ _ | refine blk_drew ?_ | refine blk_alloc ?_ _)); refine blk_far ?_ NB105_170.out _; (with_reducible repeat (first | refine blk_drewN ?_ _ | refine blk_drew ?_ | refine blk_alloc ?_ _)); refine blk_far ?_ NB105_170.out _; (with_reducible repeat (first | refine blk_drewN ?_ _ | refine blk_drew ?_ | refine blk_alloc ?_ _)); refine blk_far ?_ NB105_170.out _; (with_reducible repeat (first | refine blk_drewN ?_ _ | refine blk_drew ?_ | refine blk_alloc ?_ _)); exact BK105.out⟩, ⟨by (with_reducible repeat (first | refine blk_drewN ?_ _ | refine blk_drew ?_ | refine blk_alloc ?_ _)); refine blk_put (cs := #[.int .i64 t164, .int .i64 t165, .bool t166, .bool false]) ?_ 3 _ rfl; (with_reducible repeat (first | refine blk_drewN ?_ _ | refine blk_drew ?_ | refine blk_alloc ?_ _)); refine blk_put (cs := #[.int .i64 t164, .int .i64 t165, .bool false, .bool false]) ?_ 2 _ rfl; (with_reducible repeat (first | refine blk_drewN ?_ _ | refine blk_drew ?_ | refine blk_alloc ?_ _)); refine blk_put (cs := #[.int .i64 t164, .int .i64 0, .bool false, .bool false]) ?_ 1 _ rfl; (with_reducible repeat (first | refine blk_drewN ?_ _ | refine blk_drew ?_ | refine blk_alloc ?_ _)); refine blk_put (cs := #[.int .i64 0, .int .i64 0, .bool false, .bool false]) ?_ 0 _ rfl; (with_reducible repeat (first | refine blk_drewN ?_ _ | refine blk_drew ?_ | refine blk_alloc ?_ _)); exact BK170.out⟩, ⟨by repeat (first | (with_reducible first | exact HI102.out | apply IsS90.alloc | apply IsS90.drewN | apply IsS90.drew | apply IsS90.set_0 | refine IsS90.far ?_ NB102_105.out (by repeat (first | exact Ty.mk BK105.out (by decide) | apply Ty.set)) _ | refine IsS90.far ?_ NB102_170.out (by repeat (first | exact Ty.mk BK170.out (by decide) | apply Ty.set)) _) | exact HI102.out)⟩, ⟨by repeat (first | (with_reducible first | exact HB.out | apply below_alloc | apply pw_below_drewN | apply below_drew1 | refine below_set ?_ (IsS90.ge HI102.out) | refine below_set ?_ GE105.out | refine below_set ?_ GE170.out) | exact HB.out)⟩⟩
   as_aux_lemma =>
   rw [if_pos c136] at H
   have c136b0 : decide (t107 < 0) = true := decide_eq_true c136
   clear c136; (first | rw [c136b0] | (simp only [i64_w, i32_w]; rw [c136b0]) | skip)
   by_cases c137 : t168 = 4
   rotate_left
   · rw [if_neg c137] at H
     have c137b0 : (t168 == 4) = false := beq_eq_false_iff_ne.mpr c137
     have c137b1 : (t168 != 4) = true := bne_iff_ne.mpr c137
     have H' := Aside0.mk H; clear H
     go_wp2
     go_meet
     case rel => exact ⟨_, (true), (by first | rfl | (simp; done) | (simp [*]; done)), H', ⟨by have := HK1.out; first | omega | exact Nat.le_refl _⟩, ⟨rr_ (Kd.R_mono (Kd.R_far (p := ⟨gb170, 3, none⟩) (Kd.R_far (p := ⟨gb170, 2, none⟩) (Kd.R_far (p := ⟨gb170, 1, none⟩) (Kd.R_far (p := ⟨gb170, 0, none⟩) (Kd.R_types HO_4.out BK170.out (by decide)) (fun _ hk => hk.2) (.int .i64 t164)) (fun _ hk => hk.2) (.int .i64 t165)) (fun _ hk => hk.2) (.bool t166)) (fun _ hk => hk.2) (.bool t167)) (fun _ hk => trivial))⟩, ⟨by (with_reducible repeat (first | refine blk_drewN ?_ _ | refine blk_drew ?_ | refine blk_alloc ?_ _)); refine blk_far ?_ NB105_170.out _; (with_reducible repeat (first | refine blk_drewN ?_ _ | refine blk_drew ?_ | refine blk_alloc ?_ _)); refine blk_far ?_ NB105_170.out _; (with_reducible repeat (first | refine blk_drewN ?_ _ | refine blk_drew ?_ | refine blk_alloc ?_ _)); refine blk_far ?_ NB105_170.out _; (with_reducible repeat (first | refine blk_drewN ?_ _ | refine blk_drew ?_ | refine blk_alloc ?_ _)); refine blk_far ?_ NB105_170.out _; (with_reducible repeat (first | refine blk_drewN ?_ _ | refine blk_drew ?_ | refine blk_alloc ?_ _)); exact BK105.out⟩, ⟨by (with_reducible repeat (first | refine blk_drewN ?_ _ | refine blk_drew ?_ | refine blk_alloc ?_ _)); refine blk_put (cs := #[.int .i64 t164, .int .i64 t165, .bool t166, .bool false]) ?_ 3 _ rfl; (with_reducible repeat (first | refine blk_drewN ?_ _ | refine blk_drew ?_ | refine blk_alloc ?_ _)); refine blk_put (cs := #[.int .i64 t164, .int .i64 t165, .bool false, .bool false]) ?_ 2 _ rfl; (with_reducible repeat (first | refine blk_drewN ?_ _ | refine blk_drew ?_ | refine blk_alloc ?_ _)); refine blk_put (cs := #[.int .i64 t164, .int .i64 0, .bool false, .bool false]) ?_ 1 _ rfl; (with_reducible repeat (first | refine blk_drewN ?_ _ | refine blk_drew ?_ | refine blk_alloc ?_ _)); refine blk_put (cs := #[.int .i64 0, .int .i64 0, .bool false, .bool false]) ?_ 0 _ rfl; (with_reducible repeat (first | refine blk_drewN ?_ _ | refine blk_drew ?_ | refine blk_alloc ?_ _)); exact BK170.out⟩, ⟨by repeat (first | (with_reducible first | exact HI102.out | apply IsS90.alloc | apply IsS90.drewN | apply IsS90.drew | apply IsS90.set_0 | refine IsS90.far ?_ NB102_105.out (by repeat (first | exact Ty.mk BK105.out (by decide) | apply Ty.set)) _ | refine IsS90.far ?_ NB102_170.out (by repeat (first | exact Ty.mk BK170.out (by decide) | apply Ty.set)) _) | exact HI102.out)⟩, ⟨by repeat (first | (with_reducible first | exact HB.out | apply below_alloc | apply pw_below_drewN | apply below_drew1 | refine below_set ?_ (IsS90.ge HI102.out) | refine below_set ?_ GE105.out | refine below_set ?_ GE170.out) | exact HB.out)⟩⟩
   as_aux_lemma =>
   rw [if_pos c137] at H
   have c137b0 : (t168 == 4) = true := beq_iff_eq.mpr c137
   have c137b1 : (t168 != 4) = false := bne_eq_false_iff_eq.mpr c137
   clear c137
   by_cases c138 : ((!(t164 == 0) || (!(t165 == 0))) || (t166 || (t167))) = true
   · rw [if_pos c138] at H
     have c138b0 : ((!(t164 == 0) || (!(t165 == 0))) || (t166 || (t167))) = true := c138
     clear c138; have H' := Aside0.mk H; clear H
     have hnb139 := NB170_105.out
     have hnc139 := NB105_170.out
     have hnb140 := NB170_102.out
     have hnc140 := NB102_170.out
     have hcz141_0 : w132.cell? ⟨gb170, 0, none⟩ = some (.int .i64 0) := (blk_cell BK170.out 0).trans rfl
     have hcz141_1 : w132.cell? ⟨gb170, 1, none⟩ = some (.int .i64 0) := (blk_cell BK170.out 1).trans rfl
     have hcz141_2 : w132.cell? ⟨gb170, 2, none⟩ = some (.bool false) := (blk_cell BK170.out 2).trans rfl
     have hcz141_3 : w132.cell? ⟨gb170, 3, none⟩ = some (.bool false) := (blk_cell BK170.out 3).trans rfl
     have hfz141_0 := blk_frozen BK170.out 0
     have hfz141_1 := blk_frozen BK170.out 1
     have hfz141_2 := blk_frozen BK170.out 2
     have hfz141_3 := blk_frozen BK170.out 3
     go_wp2
     go_meet
     case rel => exact ⟨_, (true), (by first | rfl | (simp; done) | (simp [*]; done)), H', ⟨by have := HK1.out; first | omega | exact Nat.le_refl _⟩, ⟨rr_ (Kd.R_mono (Kd.R_far (p := ⟨gb170, 3, none⟩) (Kd.R_far (p := ⟨gb170, 2, none⟩) (Kd.R_far (p := ⟨gb170, 1, none⟩) (Kd.R_far (p := ⟨gb170, 0, none⟩) (Kd.R_types HO_4.out BK170.out (by decide)) (fun _ hk => hk.2) (.int .i64 t164)) (fun _ hk => hk.2) (.int .i64 t165)) (fun _ hk => hk.2) (.bool t166)) (fun _ hk => hk.2) (.bool t167)) (fun _ hk => trivial))⟩, ⟨by (with_reducible repeat (first | refine blk_drewN ?_ _ | refine blk_drew ?_ | refine blk_alloc ?_ _)); refine blk_far ?_ NB105_170.out _; (with_reducible repeat (first | refine blk_drewN ?_ _ | refine blk_drew ?_ | refine blk_alloc ?_ _)); refine blk_far ?_ NB105_170.out _; (with_reducible repeat (first | refine blk_drewN ?_ _ | refine blk_drew ?_ | refine blk_alloc ?_ _)); refine blk_far ?_ NB105_170.out _; (with_reducible repeat (first | refine blk_drewN ?_ _ | refine blk_drew ?_ | refine blk_alloc ?_ _)); refine blk_far ?_ NB105_170.out _; (with_reducible repeat (first | refine blk_drewN ?_ _ | refine blk_drew ?_ | refine blk_alloc ?_ _)); exact BK105.out⟩, ⟨by (with_reducible repeat (first | refine blk_drewN ?_ _ | refine blk_drew ?_ | refine blk_alloc ?_ _)); refine blk_put (cs := #[.int .i64 t164, .int .i64 t165, .bool t166, .bool false]) ?_ 3 _ rfl; (with_reducible repeat (first | refine blk_drewN ?_ _ | refine blk_drew ?_ | refine blk_alloc ?_ _)); refine blk_put (cs := #[.int .i64 t164, .int .i64 t165, .bool false, .bool false]) ?_ 2 _ rfl; (with_reducible repeat (first | refine blk_drewN ?_ _ | refine blk_drew ?_ | refine blk_alloc ?_ _)); refine blk_put (cs := #[.int .i64 t164, .int .i64 0, .bool false, .bool false]) ?_ 1 _ rfl; (with_reducible repeat (first | refine blk_drewN ?_ _ | refine blk_drew ?_ | refine blk_alloc ?_ _)); refine blk_put (cs := #[.int .i64 0, .int .i64 0, .bool false, .bool false]) ?_ 0 _ rfl; (with_reducible repeat (first | refine blk_drewN ?_ _ | refine blk_drew ?_ | refine blk_alloc ?_ _)); exact BK170.out⟩, ⟨by repeat (first | (with_reducible first | exact HI102.out | apply IsS90.alloc | apply IsS90.drewN | apply IsS90.drew | apply IsS90.set_0 | refine IsS90.far ?_ NB102_105.out (by repeat (first | exact Ty.mk BK105.out (by decide) | apply Ty.set)) _ | refine IsS90.far ?_ NB102_170.out (by repeat (first | exact Ty.mk BK170.out (by decide) | apply Ty.set)) _) | exact HI102.out)⟩, ⟨by repeat (first | (with_reducible first | exact HB.out | apply below_alloc | apply pw_below_drewN | apply below_drew1 | refine below_set ?_ (IsS90.ge HI102.out) | refine below_set ?_ GE105.out | refine below_set ?_ GE170.out) | exact HB.out)⟩⟩
   rw [if_neg c138] at H
   have c138b0 : ((!(t164 == 0) || (!(t165 == 0))) || (t166 || (t167))) = false := by simpa using c138
   clear c138
   by_cases c142 : t107 ≥ 0
   · rw [if_pos c142] at H
     have c142b0 : decide (0 ≤ t107) = true := decide_eq_true c142
     clear c142; have H' := Aside0.mk H; clear H
     have hnb143 := NB170_105.out
     have hnc143 := NB105_170.out
     have hnb144 := NB170_102.out
     have hnc144 := NB102_170.out
     have hcz145_0 : w132.cell? ⟨gb170, 0, none⟩ = some (.int .i64 0) := (blk_cell BK170.out 0).trans rfl
     have hcz145_1 : w132.cell? ⟨gb170, 1, none⟩ = some (.int .i64 0) := (blk_cell BK170.out 1).trans rfl
     have hcz145_2 : w132.cell? ⟨gb170, 2, none⟩ = some (.bool false) := (blk_cell BK170.out 2).trans rfl
     have hcz145_3 : w132.cell? ⟨gb170, 3, none⟩ = some (.bool false) := (blk_cell BK170.out 3).trans rfl
     have hfz145_0 := blk_frozen BK170.out 0
     have hfz145_1 := blk_frozen BK170.out 1
     have hfz145_2 := blk_frozen BK170.out 2
     have hfz145_3 := blk_frozen BK170.out 3
     go_wp2
     go_meet
     case rel => exact ⟨_, ((t168 != 0)), (by first | rfl | (simp; done) | (simp [*]; done)), H', ⟨by have := HK1.out; first | omega | exact Nat.le_refl _⟩, ⟨rr_ (Kd.R_mono (Kd.R_far (p := ⟨gb170, 3, none⟩) (Kd.R_far (p := ⟨gb170, 2, none⟩) (Kd.R_far (p := ⟨gb170, 1, none⟩) (Kd.R_far (p := ⟨gb170, 0, none⟩) (Kd.R_types HO_4.out BK170.out (by decide)) (fun _ hk => hk.2) (.int .i64 t164)) (fun _ hk => hk.2) (.int .i64 t165)) (fun _ hk => hk.2) (.bool t166)) (fun _ hk => hk.2) (.bool t167)) (fun _ hk => trivial))⟩, ⟨by (with_reducible repeat (first | refine blk_drewN ?_ _ | refine blk_drew ?_ | refine blk_alloc ?_ _)); refine blk_far ?_ NB105_170.out _; (with_reducible repeat (first | refine blk_drewN ?_ _ | refine blk_drew ?_ | refine blk_alloc ?_ _)); refine blk_far ?_ NB105_170.out _; (with_reducible repeat (first | refine blk_drewN ?_ _ | refine blk_drew ?_ | refine blk_alloc ?_ _)); refine blk_far ?_ NB105_170.out _; (with_reducible repeat (first | refine blk_drewN ?_ _ | refine blk_drew ?_ | refine blk_alloc ?_ _)); refine blk_far ?_ NB105_170.out _; (with_reducible repeat (first | refine blk_drewN ?_ _ | refine blk_drew ?_ | refine blk_alloc ?_ _)); exact BK105.out⟩, ⟨by (with_reducible repeat (first | refine blk_drewN ?_ _ | refine blk_drew ?_ | refine blk_alloc ?_ _)); refine blk_put (cs := #[.int .i64 t164, .int .i64 t165, .bool t166, .bool false]) ?_ 3 _ rfl; (with_reducible repeat (first | refine blk_drewN ?_ _ | refine blk_drew ?_ | refine blk_alloc ?_ _)); refine blk_put (cs := #[.int .i64 t164, .int .i64 t165, .bool false, .bool false]) ?_ 2 _ rfl; (with_reducible repeat (first | refine blk_drewN ?_ _ | refine blk_drew ?_ | refine blk_alloc ?_ _)); refine blk_put (cs := #[.int .i64 t164, .int .i64 0, .bool false, .bool false]) ?_ 1 _ rfl; (with_reducible repeat (first | refine blk_drewN ?_ _ | refine blk_drew ?_ | refine blk_alloc ?_ _)); refine blk_put (cs := #[.int .i64 0, .int .i64 0, .bool false, .bool false]) ?_ 0 _ rfl; (with_reducible repeat (first | refine blk_drewN ?_ _ | refine blk_drew ?_ | refine blk_alloc ?_ _)); exact BK170.out⟩, ⟨by repeat (first | (with_reducible first | exact HI102.out | apply IsS90.alloc | apply IsS90.drewN | apply IsS90.drew | apply IsS90.set_0 | refine IsS90.far ?_ NB102_105.out (by repeat (first | exact Ty.mk BK105.out (by decide) | apply Ty.set)) _ | refine IsS90.far ?_ NB102_170.out (by repeat (first | exact Ty.mk BK170.out (by decide) | apply Ty.set)) _) | exact HI102.out)⟩, ⟨by repeat (first | (with_reducible first | exact HB.out | apply below_alloc | apply pw_below_drewN | apply below_drew1 | refine below_set ?_ (IsS90.ge HI102.out) | refine below_set ?_ GE105.out | refine below_set ?_ GE170.out) | exact HB.out)⟩⟩
   rw [if_neg c142] at H
   have c142b0 : decide (0 ≤ t107) = false := decide_eq_false c142
   clear c142; have H' := Aside0.mk H; clear H
   have hnb146 := NB170_105.out
   have hnc146 := NB105_170.out
   have hnb147 := NB170_102.out
   have hnc147 := NB102_170.out
   have hcz148_0 : w132.cell? ⟨gb170, 0, none⟩ = some (.int .i64 0) := (blk_cell BK170.out 0).trans rfl
   have hcz148_1 : w132.cell? ⟨gb170, 1, none⟩ = some (.int .i64 0) := (blk_cell BK170.out 1).trans rfl
   have hcz148_2 : w132.cell? ⟨gb170, 2, none⟩ = some (.bool false) := (blk_cell BK170.out 2).trans rfl
   have hcz148_3 : w132.cell? ⟨gb170, 3, none⟩ = some (.bool false) := (blk_cell BK170.out 3).trans rfl
   have hfz148_0 := blk_frozen BK170.out 0
   have hfz148_1 := blk_frozen BK170.out 1
   have hfz148_2 := blk_frozen BK170.out 2
   have hfz148_3 := blk_frozen BK170.out 3
   go_wp2
   go_meet
   case rel => exact ⟨_, (false), (by first | rfl | (simp; done) | (simp [*]; done)), H', ⟨by have := HK1.out; first | omega | exact Nat.le_refl _⟩, ⟨rr_ (Kd.R_mono (Kd.R_far (p := ⟨gb170, 3, none⟩) (Kd.R_far (p := ⟨gb170, 2, none⟩) (Kd.R_far (p := ⟨gb170, 1, none⟩) (Kd.R_far (p := ⟨gb170, 0, none⟩) (Kd.R_types HO_4.out BK170.out (by decide)) (fun _ hk => hk.2) (.int .i64 t164)) (fun _ hk => hk.2) (.int .i64 t165)) (fun _ hk => hk.2) (.bool t166)) (fun _ hk => hk.2) (.bool t167)) (fun _ hk => trivial))⟩, ⟨by (with_reducible repeat (first | refine blk_drewN ?_ _ | refine blk_drew ?_ | refine blk_alloc ?_ _)); refine blk_far ?_ NB105_170.out _; (with_reducible repeat (first | refine blk_drewN ?_ _ | refine blk_drew ?_ | refine blk_alloc ?_ _)); refine blk_far ?_ NB105_170.out _; (with_reducible repeat (first | refine blk_drewN ?_ _ | refine blk_drew ?_ | refine blk_alloc ?_ _)); refine blk_far ?_ NB105_170.out _; (with_reducible repeat (first | refine blk_drewN ?_ _ | refine blk_drew ?_ | refine blk_alloc ?_ _)); refine blk_far ?_ NB105_170.out _; (with_reducible repeat (first | refine blk_drewN ?_ _ | refine blk_drew ?_ | refine blk_alloc ?_ _)); exact BK105.out⟩, ⟨by (with_reducible repeat (first | refine blk_drewN ?_ _ | refine blk_drew ?_ | refine blk_alloc ?_ _)); refine blk_put (cs := #[.int .i64 t164, .int .i64 t165, .bool t166, .bool false]) ?_ 3 _ rfl; (with_reducible repeat (first | refine blk_drewN ?_ _ | refine blk_drew ?_ | refine blk_alloc ?_ _)); refine blk_put (cs := #[.int .i64 t164, .int .i64 t165, .bool false, .bool false]) ?_ 2 _ rfl; (with_reducible repeat (first | refine blk_drewN ?_ _ | refine blk_drew ?_ | refine blk_alloc ?_ _)); refine blk_put (cs := #[.int .i64 t164, .int .i64 0, .bool false, .bool false]) ?_ 1 _ rfl; (with_reducible repeat (first | refine blk_drewN ?_ _ | refine blk_drew ?_ | refine blk_alloc ?_ _)); refine blk_put (cs := #[.int .i64 0, .int .i64 0, .bool false, .bool false]) ?_ 0 _ rfl; (with_reducible repeat (first | refine blk_drewN ?_ _ | refine blk_drew ?_ | refine blk_alloc ?_ _)); exact BK170.out⟩, ⟨by repeat (first | (with_reducible first | exact HI102.out | apply IsS90.alloc | apply IsS90.drewN | apply IsS90.drew | apply IsS90.set_0 | refine IsS90.far ?_ NB102_105.out (by repeat (first | exact Ty.mk BK105.out (by decide) | apply Ty.set)) _ | refine IsS90.far ?_ NB102_170.out (by repeat (first | exact Ty.mk BK170.out (by decide) | apply Ty.set)) _) | exact HI102.out)⟩, ⟨by repeat (first | (with_reducible first | exact HB.out | apply below_alloc | apply pw_below_drewN | apply below_drew1 | refine below_set ?_ (IsS90.ge HI102.out) | refine below_set ?_ GE105.out | refine below_set ?_ GE170.out) | exact HB.out)⟩⟩
  as_aux_lemma =>
  clear HC128; (try clear c90); (try clear c90b0); (try clear c90b1); (try clear c126b0); (try clear c126b1); (try clear c136); (try clear c136b0); (try clear c137); (try clear c137b0); (try clear c137b1); (try clear c138); (try clear c138b0); (try clear c142); (try clear c142b0); (try clear c149); (try clear c149b0); (try clear hcz135_0); (try clear hcz135_1); (try clear hcz135_2); (try clear hcz135_3); (try clear hcz141_0); (try clear hcz141_1); (try clear hcz141_2); (try clear hcz141_3); (try clear hcz145_0); (try clear hcz145_1); (try clear hcz145_2); (try clear hcz145_3); (try clear hcz148_0); (try clear hcz148_1); (try clear hcz148_2); (try clear hcz148_3); (try clear hfz135_0); (try clear hfz135_1); (try clear hfz135_2); (try clear hfz135_3); (try clear hfz141_0); (try clear hfz141_1); (try clear hfz141_2); (try clear hfz141_3); (try clear hfz145_0); (try clear hfz145_1); (try clear hfz145_2); (try clear hfz145_3); (try clear hfz148_0); (try clear hfz148_1); (try clear hfz148_2); (try clear hfz148_3)
  obtain ⟨kq, x215_127, rfl, HA, HJ127, HO_4, BK105, BK170, HI102, HB⟩ := hcut
  cases kq with
  | zero => exact absurd HA.out (by simp [lawP.j8])
  | succ kj127 =>
   have H := HA.out
   clear HA
   simp only [lawP.j8] at H
   by_cases c150 : x215_127 = true
   · subst c150
     have H1 : (none) = some r := by rw [if_pos rfl] at H; exact H
     clear H
     have H := H1
     clear H1; exact absurd H (by simp)
   as_aux_lemma =>
   replace c150 := Bool.eq_false_iff.mpr c150
   subst c150
   have H1 : (if t107 ≥ 0 then ((styluslaw04_as.f t164 t165 t166 t167 ((rd_T35 l0 x6_1).f1)).bind fun bt171 => (if 0 ≤ t107 then (if t107 < (x4_1.length : Int) then (if (!(bt171.1 == ((rd_T42 x4_1 t107).f0)) || (!(bt171.2.1 == ((rd_T42 x4_1 t107).f1)) || (!(bt171.2.2.1 == ((rd_T42 x4_1 t107).f2)) || (!(bt171.2.2.2.1 == ((rd_T42 x4_1 t107).f3)) || (!(bt171.2.2.2.2 == ((rd_T42 x4_1 t107).f4))))))) = true then (none) else (lawP.j16 kj127 l0 x4_1 x5_1 x6_1 t169)) else (none)) else (none))) else (lawP.j16 kj127 l0 x4_1 x5_1 x6_1 t169)) = some r := by rw [if_neg (show ¬ (false = true) by decide)] at H; exact H
   clear H
   have H := H1
   clear H1
   by_cases c151 : t107 ≥ 0
   rotate_left
   · rw [if_neg c151] at H
     have c151b0 : decide (0 ≤ t107) = false := decide_eq_false c151
     clear c151; have H' := Aside0.mk H; clear H
     go_wp2
     go_meet
     case rel => exact ⟨_, (x4_1), (x5_1), (t169), (by first | rfl | (simp; done) | (simp [*]; done)), H', ⟨by have := HK1.out; have := HJ127.out; first | omega | exact Nat.le_refl _⟩, ⟨rr_ HO_4.out⟩, ⟨kb_ BK105.out⟩, ⟨by repeat (first | (with_reducible first | exact HI102.out | apply IsS90.alloc | apply IsS90.drewN | apply IsS90.drew | apply IsS90.set_0 | refine IsS90.far ?_ NB102_105.out (by repeat (first | exact Ty.mk BK105.out (by decide) | apply Ty.set)) _ | refine IsS90.far ?_ NB102_170.out (by repeat (first | exact Ty.mk BK170.out (by decide) | apply Ty.set)) _) | exact HI102.out)⟩, ⟨by repeat (first | (with_reducible first | exact HB.out | apply below_alloc | apply pw_below_drewN | apply below_drew1 | refine below_set ?_ (IsS90.ge HI102.out) | refine below_set ?_ GE105.out | refine below_set ?_ GE170.out) | exact HB.out)⟩⟩
   as_aux_lemma =>
   rw [if_pos c151] at H
   have c151b0 : decide (0 ≤ t107) = true := decide_eq_true c151
   clear c151
   replace H := Option.bind_eq_some_iff.mp H
   obtain ⟨⟨t171, t172, t173, t174, t175⟩, A1520, H⟩ := H
   replace H : (if 0 ≤ t107 then (if t107 < (x4_1.length : Int) then (if (!(t171 == ((rd_T42 x4_1 t107).f0)) || (!(t172 == ((rd_T42 x4_1 t107).f1)) || (!(t173 == ((rd_T42 x4_1 t107).f2)) || (!(t174 == ((rd_T42 x4_1 t107).f3)) || (!(t175 == ((rd_T42 x4_1 t107).f4))))))) = true then (none) else (lawP.j16 kj127 l0 x4_1 x5_1 x6_1 t169)) else (none)) else (none)) = some r := H
   have A152 := Aside0.mk A1520; clear A1520
   by_cases c153 : 0 ≤ t107
   rotate_left
   · rw [if_neg c153] at H
     exact absurd H (by simp)
   as_aux_lemma =>
   rw [if_pos c153] at H
   have c153b0 : decide (0 ≤ t107) = true := decide_eq_true c153
   clear c153
   by_cases c154 : t107 < (x4_1.length : Int)
   rotate_left
   · rw [if_neg c154] at H
     exact absurd H (by simp)
   as_aux_lemma =>
   rw [if_pos c154] at H
   have c154b0 : decide (t107 < (x4_1.length : Int)) = true := decide_eq_true c154
   clear c154
   by_cases c155 : (!(t171 == ((rd_T42 x4_1 t107).f0)) || (!(t172 == ((rd_T42 x4_1 t107).f1)) || (!(t173 == ((rd_T42 x4_1 t107).f2)) || (!(t174 == ((rd_T42 x4_1 t107).f3)) || (!(t175 == ((rd_T42 x4_1 t107).f4))))))) = true
   · rw [if_pos c155] at H
     exact absurd H (by simp)
   as_aux_lemma =>
   rw [if_neg c155] at H
   have c155b0 : (!(t171 == ((rd_T42 x4_1 t107).f0)) || (!(t172 == ((rd_T42 x4_1 t107).f1)) || (!(t173 == ((rd_T42 x4_1 t107).f2)) || (!(t174 == ((rd_T42 x4_1 t107).f3)) || (!(t175 == ((rd_T42 x4_1 t107).f4))))))) = false := by simpa using c155
   clear c155; have H' := Aside0.mk H; clear H
   try go_wp2
   have n0_ := Aside0.mk (Kd.R_drew HO_4.out)
   have n1_ := Aside0.mk (blk_drew BK105.out)
   have n2_ := Aside0.mk (blk_drew BK170.out)
   have n3_ := Aside0.mk (IsS90.drew HI102.out)
   have n4_ := Aside0.mk (below_drew1 HB.out)
   clear HO_4 BK105 BK170 HI102 HB
   have HO_4 := n0_
   have BK105 := n1_
   have BK170 := n2_
   have HI102 := n3_
   have HB := n4_
   clear n0_ n1_ n2_ n3_ n4_
   have p176 : 0 ≤ (t107 : Int) := od_
   have q176 : t107 < (x4_1.length : Int) := od_
   obtain ⟨ad176, e176, hx176_0, hx176_1, hx176_2, hx176_3, hx176_4⟩ := at_T42 (Kd.R_reads' HO_4.out).2.2 t107 p176 q176
   cases e176
   replace p176 := eq_true p176; replace q176 := eq_true q176
   refine start_ (n := 9) (S := fun w' => w'.cell? ⟨gb170, 0, none⟩ = some (.int .i64 t164) ∧ w'.cell? ⟨gb170, 1, none⟩ = some (.int .i64 t165) ∧ w'.cell? ⟨gb170, 2, none⟩ = some (.bool t166) ∧ w'.cell? ⟨gb170, 3, none⟩ = some (.bool t167) ∧ w'.cell? ⟨gb105, 0, none⟩ = some (.int .i64 ((rd_T35 l0 x6_1).f0)) ∧ w'.cell? ⟨gb105, 1, none⟩ = some (.int .i64 ((rd_T35 l0 x6_1).f1)) ∧ w'.cell? ⟨gb105, 2, none⟩ = some (.int .i64 ((rd_T35 l0 x6_1).f2.f0.f0)) ∧ w'.cell? ⟨gb105, 3, none⟩ = some (.int .i64 ((rd_T35 l0 x6_1).f2.f0.f1)) ∧ w'.cell? ⟨gb105, 4, none⟩ = some (.bool ((rd_T35 l0 x6_1).f2.f1)) ∧ w'.cell? ⟨gb105, 5, none⟩ = some (.bool ((rd_T35 l0 x6_1).f2.f2)) ∧ w'.cell? ⟨gb105, 6, none⟩ = some (.int .i64 ((rd_T35 l0 x6_1).f3.f0)) ∧ w'.cell? ⟨gb105, 7, none⟩ = some (.int .i64 ((rd_T35 l0 x6_1).f3.f1)) ∧ w'.cell? ⟨gb105, 8, none⟩ = some (.slice A104_8 ((rd_T35 l0 x6_1).f3.f2).length c104_8) ∧ w'.cell? (ad176.add ((t107).toNat * 5)) = some (.int .i64 ((rd_T42 x4_1 t107).f0)) ∧ w'.cell? ⟨(ad176.add ((t107).toNat * 5)).block, (ad176.add ((t107).toNat * 5)).off + 1, none⟩ = some (.int .i64 ((rd_T42 x4_1 t107).f1)) ∧ w'.cell? ⟨(ad176.add ((t107).toNat * 5)).block, (ad176.add ((t107).toNat * 5)).off + 2, none⟩ = some (.bool ((rd_T42 x4_1 t107).f2)) ∧ w'.cell? ⟨(ad176.add ((t107).toNat * 5)).block, (ad176.add ((t107).toNat * 5)).off + 3, none⟩ = some (.bool ((rd_T42 x4_1 t107).f3)) ∧ w'.cell? ⟨(ad176.add ((t107).toNat * 5)).block, (ad176.add ((t107).toNat * 5)).off + 4, none⟩ = some (.int .i64 ((rd_T42 x4_1 t107).f4))) (ds := []) #[false, false, false, false, false, false, false, false, false] (by kernel_rfl) rfl rfl ⟨(blk_cell BK170.out 0).trans rfl, (blk_cell BK170.out 1).trans rfl, (blk_cell BK170.out 2).trans rfl, (blk_cell BK170.out 3).trans rfl, (blk_cell BK105.out 0).trans rfl, (blk_cell BK105.out 1).trans rfl, (blk_cell BK105.out 2).trans rfl, (blk_cell BK105.out 3).trans rfl, (blk_cell BK105.out 4).trans rfl, (blk_cell BK105.out 5).trans rfl, (blk_cell BK105.out 6).trans rfl, (blk_cell BK105.out 7).trans rfl, (blk_cell BK105.out 8).trans rfl, hx176_0, hx176_1, hx176_2, hx176_3, hx176_4⟩ (fun hHeld => ?_); refine with_tabW lawP.tab51 lawP.bits51 (fun HT_ HW_ => ?_)
   generalize wc.drew = w156 at HO_4 BK105 BK170 HI102 HB hx176_0 hx176_1 hx176_2 hx176_3 hx176_4 hHeld ⊢
   refine q_ 1 (some 219) HT_.out ?_ (hQ := fun _ _ _ h_ => hQp _ _ _ _ _ h_)
   refine q_ 4 (some 222) HT_.out ?_ (hQ := fun _ _ _ h_ => hQp _ _ _ _ _ h_)
   refine q_ 5 (some 223) HT_.out ?_ (hQ := fun _ _ _ h_ => hQp _ _ _ _ _ h_)
   refine q_ 6 (some 224) HT_.out ?_ (hQ := fun _ _ _ h_ => hQp _ _ _ _ _ h_)
   refine t_ 0 (some 218) HT_.out HW_.out hHeld ?_ (hQ := fun _ _ _ h_ => hQp _ _ _ _ _ h_)
   refine t_ 2 (some 220) HT_.out HW_.out hHeld ?_ (hQ := fun _ _ _ h_ => hQp _ _ _ _ _ h_)
   refine t_ 7 (some 225) HT_.out HW_.out hHeld ?_ (hQ := fun _ _ _ h_ => hQp _ _ _ _ _ h_)
   refine one_ (i := 3) (N := some 221) #[true, true, true, true, true, true, true, true, false] rfl rfl (one_of HT_.out (by kernel_rfl)) (by decide) (fun K hK => ?_)
   refine goes_ Try.func11 (by kernel_rfl) rfl #[.agg #[.int .i64 t164, .int .i64 t165, .bool t166, .bool t167], .int .i64 ((rd_T35 l0 x6_1).f1)] (by rfl) rfl rfl (by (try simp only [List.map_toArray, List.map_cons, List.map_nil]); first | done | rfl | (simp only [List.length_drop, List.length_take]; rfl)) ?_
   with_reducible refine (styluslaw04_as.calls t164 t165 t166 t167 ((rd_T35 l0 x6_1).f1) t171 t172 t173 t174 t175 _ A152.out).mono ?_
   rintro e w157 ⟨rfl, hb⟩
   have HS13_ := (hb.cell (World.block_lt_of_cell? _ _ (hHeld.2.2.2.2.2.2.2.2.2.2.2.2.2.1))).trans (hHeld.2.2.2.2.2.2.2.2.2.2.2.2.2.1)
   have HS14_ := (hb.cell (World.block_lt_of_cell? _ _ (hHeld.2.2.2.2.2.2.2.2.2.2.2.2.2.2.1))).trans (hHeld.2.2.2.2.2.2.2.2.2.2.2.2.2.2.1)
   have HS15_ := (hb.cell (World.block_lt_of_cell? _ _ (hHeld.2.2.2.2.2.2.2.2.2.2.2.2.2.2.2.1))).trans (hHeld.2.2.2.2.2.2.2.2.2.2.2.2.2.2.2.1)
   have HS16_ := (hb.cell (World.block_lt_of_cell? _ _ (hHeld.2.2.2.2.2.2.2.2.2.2.2.2.2.2.2.2.1))).trans (hHeld.2.2.2.2.2.2.2.2.2.2.2.2.2.2.2.2.1)
   have HS17_ := (hb.cell (World.block_lt_of_cell? _ _ (hHeld.2.2.2.2.2.2.2.2.2.2.2.2.2.2.2.2.2))).trans (hHeld.2.2.2.2.2.2.2.2.2.2.2.2.2.2.2.2.2)
   refine ⟨_, rfl, ?_⟩
   have n0_ := Aside0.mk (Kd.R_below (rr_ HO_4.out) hb)
   have n1_ := Aside0.mk (blk_below (g := gb105) (o := .cells #[.int .i64 ((rd_T35 l0 x6_1).f0), .int .i64 ((rd_T35 l0 x6_1).f1), .int .i64 ((rd_T35 l0 x6_1).f2.f0.f0), .int .i64 ((rd_T35 l0 x6_1).f2.f0.f1), .bool ((rd_T35 l0 x6_1).f2.f1), .bool ((rd_T35 l0 x6_1).f2.f2), .int .i64 ((rd_T35 l0 x6_1).f3.f0), .int .i64 ((rd_T35 l0 x6_1).f3.f1), .slice A104_8 ((rd_T35 l0 x6_1).f3.f2).length c104_8] 35 (0, 0)) (kb_ BK105.out) hb)
   have n2_ := Aside0.mk (blk_below (g := gb170) (o := .cells #[.int .i64 t164, .int .i64 t165, .bool t166, .bool t167] 30 (0, 0)) (kb_ BK170.out) hb)
   have n3_ := Aside0.mk (IsS90.below (by repeat (first | (with_reducible first | exact HI102.out | apply IsS90.alloc | apply IsS90.drewN | apply IsS90.drew | apply IsS90.set_0 | refine IsS90.far ?_ NB102_105.out (by repeat (first | exact Ty.mk BK105.out (by decide) | apply Ty.set)) _ | refine IsS90.far ?_ NB102_170.out (by repeat (first | exact Ty.mk BK170.out (by decide) | apply Ty.set)) _) | exact HI102.out)) hb)
   have n4_ := Aside0.mk (below_step (by repeat (first | (with_reducible first | exact HB.out | apply below_alloc | apply pw_below_drewN | apply below_drew1 | refine below_set ?_ (IsS90.ge HI102.out) | refine below_set ?_ GE105.out | refine below_set ?_ GE170.out) | exact HB.out)) hb)
   clear HO_4 BK105 BK170 HI102 HB
   have HO_4 := n0_
   have BK105 := n1_
   have BK170 := n2_
   have HI102 := n3_
   have HB := n4_
   clear n0_ n1_ n2_ n3_ n4_; (try clear hb); (try clear hk); (try clear hi)
   refine hK.out _ _ ⟨(blk_cell BK170.out 0).trans rfl, (blk_cell BK170.out 1).trans rfl, (blk_cell BK170.out 2).trans rfl, (blk_cell BK170.out 3).trans rfl, (blk_cell BK105.out 0).trans rfl, (blk_cell BK105.out 1).trans rfl, (blk_cell BK105.out 2).trans rfl, (blk_cell BK105.out 3).trans rfl, (blk_cell BK105.out 4).trans rfl, (blk_cell BK105.out 5).trans rfl, (blk_cell BK105.out 6).trans rfl, (blk_cell BK105.out 7).trans rfl, (blk_cell BK105.out 8).trans rfl, HS13_, HS14_, HS15_, HS16_, HS17_⟩ (fun hHeld => ?_)
   clear hK K; refine norm_ (a' := ?_) ?_ ?_; rotate_left
   · show Act.put _ (some 221) _ = _
     simp only [Act.put, List.setIfInBounds_toArray, List.set_cons_zero, List.set_cons_succ, i64_w, i32_w]
     rfl
   refine q_ 8 (some 226) HT_.out ?_ (hQ := fun _ _ _ h_ => hQp _ _ _ _ _ h_)
   refine done_ (done_of HT_.out (by kernel_rfl)) ?_
   try go_wp2
   go_meet
   case rel => exact ⟨_, (x4_1), (x5_1), (t169), (by first | rfl | (simp; done) | (simp [*]; done)), H', ⟨by have := HK1.out; have := HJ127.out; first | omega | exact Nat.le_refl _⟩, ⟨rr_ HO_4.out⟩, ⟨kb_ BK105.out⟩, ⟨by repeat (first | (with_reducible first | exact HI102.out | apply IsS90.alloc | apply IsS90.drewN | apply IsS90.drew | apply IsS90.set_0 | refine IsS90.far ?_ NB102_105.out (by repeat (first | exact Ty.mk BK105.out (by decide) | apply Ty.set)) _ | refine IsS90.far ?_ NB102_170.out (by repeat (first | exact Ty.mk BK170.out (by decide) | apply Ty.set)) _) | exact HI102.out)⟩, ⟨by repeat (first | (with_reducible first | exact HB.out | apply below_alloc | apply pw_below_drewN | apply below_drew1 | refine below_set ?_ (IsS90.ge HI102.out) | refine below_set ?_ GE105.out | refine below_set ?_ GE170.out) | exact HB.out)⟩⟩
end Go.Proofs.Ythbdiambigfgdae.PMarksPlay
