/- PRINTED by this session's mk.py (the kit's print, with some contracts by hand): the functions that the law MarksPlay reaches, as Lean functions, and that the machine's calls answer so. -/
import Derived.Test.YthbdiambigfgdaeSq
import Derived.Test.YthbdiambigfgdaePMarksPlayx0
import Derived.Test.YthbdiambigfgdaePMarksPlayx1
import Derived.Test.YthbdiambigfgdaePMarksPlayx2
import Derived.Test.YthbdiambigfgdaePMarksPlayx3
import Derived.Test.YthbdiambigfgdaePMarksPlayx4
import Derived.Test.YthbdiambigfgdaePMarksPlayc
import Derived.Test.YthbdiambigfgdaePMarksPlayc0a
namespace Go.Proofs.Ythbdiambigfgdae.PMarksPlay
open Go.Proofs.Ythbdiambigfgdae.Sq Go.Proofs.Ythbdiambigfgdae Go.Proofs.Ythbdiambigfgdae.PMarksRead Go.Proofs.Ythbdiambigfgdae.Hand Go.RowKit Go.Proofs.YthbdiambigfgdaeW.PrintWords Go.Proofs.YthbdiambigfgdaeW.PrintLast Go.Proofs.YthbdiambigfgdaeW.PrintMore
attribute [local go_sem] max2_int min2_int max_two min_two max_three min_three max_four min_four   -- for this text's walks alone
set_option linter.unusedVariables false
set_option linter.unusedSimpArgs false

attribute [local go_sem high] eqA30 eqA42
set_option maxHeartbeats 8000000 in
set_option maxRecDepth 100000 in
theorem lawP.sw0c {u0 u1 u2 u9 u10 u11 u12 u13 u14 u15 u16 u17 u18 u19 u20 u21 u22 u23 u24 u25 u26 u27 u28 u29 u30 u31 u32 u33 u34 u35 u36 u37 u38 u39 u40 u41 u42 u43 u44 u45 u46 u47 u48 u49 u50 u51 u52 u53 u54 u55 u56 u57 u58 u59 u60 u61 u63 u64 u65 u66 u67 u68 u69 u70 u71 u72 u73 u74 u75 u76 u77 u78 u79 u80 u81 u82 u83 u84 u85 u86 u87 u88 u89 u90 u91 u92 u93 u94 u95 u96 u97 u98 u99 u100 u101 u102 u103 u104 u105 u106 u107 u108 u109 u110 u111 u112 u113 u114 u115 u116 u117 u118 u119 u120 u121 u122 u123 u124 u125 u126 u127 u128 u129 u130 u131 u132 u133 u134 u135 u136 u137 u138 u139 u140 u141 u142 u143 u144 u145 u146 u147 u148 u149 u150 u151 u152 u153 u154 u155 u156 u157 u158 u159 u160 u161 u162 u163 u164 u165 u166 u167 u168 u169 u170 u171 u172 u173 u174 u175 u176 u177 u178 u179 u180 u181 u182 u183 u184 u185 u186 u187 u188 u189 u190 u191 u192 u193 u194 u195 u196 u197 u198 u199 u200 u201 u202 u203 u204 u205 u206 u207 u208 u209 u210 u211 u212 u213 u214 u215 u216 u217 u218 u219 u220 u221 u222 u223 u224 u225 u226 u227 u228 u229 u230 u231 u232 u233 u234 u235 u236 u237 u238 u239 u240 u241 u242 u243 u244 u245 u246 u247 u248 u249 u250 u251 u252 u253 u254 u255 u256 u257 u258 u259 u260 u261 u262 u263 u264 u265 u266 u267 u268 u269 u270 u271 u272 u273 u274 u275 u276 u277 u278 u279 u280 u281 u282 u283 u284 u285 u286 u287 u288 u289 u290 u291 u292 u293 u294 u295 u296 u297 u298 u299 u300 u301 u302 u303 u304 u305 u306 u307 u308 u309 u310 u311 u312 u313 u314 u315 u316 u317 u318 u319 u320 u321 u322 u323 u324 u325 u326 u327 u328 u329 u330 u331 u332 u333 u334 u335 u336 u337 u338 u339 u340 u341 u342 u343 u344 u345 u346 u347 u348 u349 u350 u351 u352 u353 u354 u355 u356 u357 u358 u359 u360 u361 u362 u363 u364 u365 u366 u367 u368 u369 u370 : Value} 
    {r : Bool} {w : World} {l0 : List (S35)} {g102 gb105 : Nat} {x4_1 : List (S42)} {x5_1 x6_1 t107 : Int} {x103000_1 : (List S94 × Int)} {k1 : Nat} {A104_8 : Option Addr} {c104_8 : Nat} {Ao21 : Option Addr} {co21 : Nat} {w18 : World} {J K' : Act → World → Prop} {Q' : Exit → Act → World → Prop}
    (HO_4 : Aside0 (Kd.R k42 42 w18 w.heap.size (fun _ => True) (.slice Ao21 x4_1.length co21) x4_1)) (HI102 : Aside0 (IsS90 w w18 g102 x103000_1)) (HB : Aside0 (Below w.heap.size w w18)) (BK105 : Aside0 (w18.heap[gb105]? = some (.cells #[.int .i64 ((rd_T35 l0 x6_1).f0), .int .i64 ((rd_T35 l0 x6_1).f1), .int .i64 ((rd_T35 l0 x6_1).f2.f0.f0), .int .i64 ((rd_T35 l0 x6_1).f2.f0.f1), .bool ((rd_T35 l0 x6_1).f2.f1), .bool ((rd_T35 l0 x6_1).f2.f2), .int .i64 ((rd_T35 l0 x6_1).f3.f0), .int .i64 ((rd_T35 l0 x6_1).f3.f1), (.slice A104_8 ((rd_T35 l0 x6_1).f3.f2).length c104_8)] 35 (0, 0)))) (GE105 : Aside0 (w.heap.size ≤ gb105)) (NB102_105 : Aside0 (g102 ≠ gb105)) (NB105_102 : Aside0 (gb105 ≠ g102)) (HR104_8 : Aside0 ((Kd.int .i32).C w A104_8 ((rd_T35 l0 x6_1).f3.f2).length ((rd_T35 l0 x6_1).f3.f2))) (HC104_8 : Aside0 (((rd_T35 l0 x6_1).f3.f2).length ≤ c104_8)) {k : Nat} (HK1 : Aside0 (k1 + 1 ≤ k))
     (c22 : ((rd_T35 l0 x6_1).f0) = 0)
    {t108 t109 : Int} {t110 : List S94 × Int} {t111 t112 : Int} {t113 t114 : Bool} {t115 : Int}
    (A23 : Aside0 (marks_Marks_Add.f x103000_1 ((rd_T35 l0 x6_1).f2.f0.f0) ((rd_T35 l0 x6_1).f2.f0.f1) ((rd_T35 l0 x6_1).f2.f1) ((rd_T35 l0 x6_1).f2.f2) = some (t108, t109, t110))) (A24 : Aside0 (styluslaw04_as.f ((rd_T35 l0 x6_1).f2.f0.f0) ((rd_T35 l0 x6_1).f2.f0.f1) ((rd_T35 l0 x6_1).f2.f1) ((rd_T35 l0 x6_1).f2.f2) 0 = some (t111, t112, t113, t114, t115))) (A25 : Aside0 (stylusref04_May.f t111 t112 t113 t114 t115 = some true)) (c27 : ¬ (x4_1.length : Int) ≥ 60)
    (H : (if t108 = (wrap64 (x5_1 + 1)) then (lawP.j2 k1 l0 x4_1 (wrap64 (x5_1 + 1)) x6_1 (t109 != 0) t110 ((rd_T35 l0 x6_1).f0) ((rd_T35 l0 x6_1).f1) ((rd_T35 l0 x6_1).f2.f0.f0) ((rd_T35 l0 x6_1).f2.f0.f1) ((rd_T35 l0 x6_1).f2.f1) ((rd_T35 l0 x6_1).f2.f2) ((rd_T35 l0 x6_1).f3.f0) ((rd_T35 l0 x6_1).f3.f1) ((rd_T35 l0 x6_1).f3.f2)) else (lawP.j2 k1 l0 x4_1 (wrap64 (x5_1 + 1)) x6_1 true t110 ((rd_T35 l0 x6_1).f0) ((rd_T35 l0 x6_1).f1) ((rd_T35 l0 x6_1).f2.f0.f0) ((rd_T35 l0 x6_1).f2.f0.f1) ((rd_T35 l0 x6_1).f2.f1) ((rd_T35 l0 x6_1).f2.f2) ((rd_T35 l0 x6_1).f3.f0) ((rd_T35 l0 x6_1).f3.f1) ((rd_T35 l0 x6_1).f3.f2))) = some r)
    (hJ : ∀ a' w', swR l0 g102 gb105 r w x6_1 t107 k1 A104_8 c104_8 u0 u1 u26 u27 u28 u29 u30 u31 u32 u33 u34 u35 u36 u37 u38 u39 u40 u370 a' w' → J a' w') (hK : ∀ a' w', Met J a' w' → K' a' w') (hQp : ∀ N v c a w', Q' (.panic c) (Act.put a N v) w' → Q' (.panic c) a w') :
    Code.wp Try.prog (.block 2 swBody) (Exit.then K' Q') ⟨#[u0, u1, u2, .pointer (some ⟨g102, 0, none⟩), .slice Ao21 x4_1.length co21, .int .i64 x5_1, .int .i64 x6_1, .pointer (some ⟨gb105, 0, none⟩), .int .i64 t107, u9, u10, u11, u12, u13, u14, u15, u16, u17, u18, u19, u20, u21, u22, u23, u24, u25, u26, u27, u28, u29, u30, u31, u32, u33, u34, u35, u36, u37, u38, u39, u40, u41, u42, u43, u44, u45, u46, u47, u48, u49, u50, u51, u52, u53, u54, u55, u56, u57, u58, u59, u60, u61, .int .i64 ((rd_T35 l0 x6_1).f0), u63, u64, u65, u66, u67, u68, u69, u70, u71, u72, u73, u74, u75, u76, u77, u78, u79, u80, u81, u82, u83, u84, u85, u86, u87, u88, u89, u90, u91, u92, u93, u94, u95, u96, u97, u98, u99, u100, u101, u102, u103, u104, u105, u106, u107, u108, u109, u110, u111, u112, u113, u114, u115, u116, u117, u118, u119, u120, u121, u122, u123, u124, u125, u126, u127, u128, u129, u130, u131, u132, u133, u134, u135, u136, u137, u138, u139, u140, u141, u142, u143, u144, u145, u146, u147, u148, u149, u150, u151, u152, u153, u154, u155, u156, u157, u158, u159, u160, u161, u162, u163, u164, u165, u166, u167, u168, u169, u170, u171, u172, u173, u174, u175, u176, u177, u178, u179, u180, u181, u182, u183, u184, u185, u186, u187, u188, u189, u190, u191, u192, u193, u194, u195, u196, u197, u198, u199, u200, u201, u202, u203, u204, u205, u206, u207, u208, u209, u210, u211, u212, u213, u214, u215, u216, u217, u218, u219, u220, u221, u222, u223, u224, u225, u226, u227, u228, u229, u230, u231, u232, u233, u234, u235, u236, u237, u238, u239, u240, u241, u242, u243, u244, u245, u246, u247, u248, u249, u250, u251, u252, u253, u254, u255, u256, u257, u258, u259, u260, u261, u262, u263, u264, u265, u266, u267, u268, u269, u270, u271, u272, u273, u274, u275, u276, u277, u278, u279, u280, u281, u282, u283, u284, u285, u286, u287, u288, u289, u290, u291, u292, u293, u294, u295, u296, u297, u298, u299, u300, u301, u302, u303, u304, u305, u306, u307, u308, u309, u310, u311, u312, u313, u314, u315, u316, u317, u318, u319, u320, u321, u322, u323, u324, u325, u326, u327, u328, u329, u330, u331, u332, u333, u334, u335, u336, u337, u338, u339, u340, u341, u342, u343, u344, u345, u346, u347, u348, u349, u350, u351, u352, u353, u354, u355, u356, u357, u358, u359, u360, u361, u362, u363, u364, u365, u366, u367, u368, u369, u370], []⟩ w18 := by
  let bp_ := bodyPost Try.prog Try.f3
  unfold swR at hJ
  dsimp only at hJ ⊢
  unfold swBody
  conv => { arg 2; arg 2; whnf }
  have hu35 := Try.underlying35
  have hu30 := Try.underlying30
  have hu33 := Try.underlying33
  have hu42 := Try.underlying42
  have hu28 := Try.underlying28
  have hnb0 := NB105_102.out
  have hnc0 := NB102_105.out
  have hcz0_0 : w18.cell? ⟨gb105, 0, none⟩ = some (.int .i64 ((rd_T35 l0 x6_1).f0)) := (blk_cell BK105.out 0).trans rfl
  have hcz0_1 : w18.cell? ⟨gb105, 1, none⟩ = some (.int .i64 ((rd_T35 l0 x6_1).f1)) := (blk_cell BK105.out 1).trans rfl
  have hcz0_2 : w18.cell? ⟨gb105, 2, none⟩ = some (.int .i64 ((rd_T35 l0 x6_1).f2.f0.f0)) := (blk_cell BK105.out 2).trans rfl
  have hcz0_3 : w18.cell? ⟨gb105, 3, none⟩ = some (.int .i64 ((rd_T35 l0 x6_1).f2.f0.f1)) := (blk_cell BK105.out 3).trans rfl
  have hcz0_4 : w18.cell? ⟨gb105, 4, none⟩ = some (.bool ((rd_T35 l0 x6_1).f2.f1)) := (blk_cell BK105.out 4).trans rfl
  have hcz0_5 : w18.cell? ⟨gb105, 5, none⟩ = some (.bool ((rd_T35 l0 x6_1).f2.f2)) := (blk_cell BK105.out 5).trans rfl
  have hcz0_6 : w18.cell? ⟨gb105, 6, none⟩ = some (.int .i64 ((rd_T35 l0 x6_1).f3.f0)) := (blk_cell BK105.out 6).trans rfl
  have hcz0_7 : w18.cell? ⟨gb105, 7, none⟩ = some (.int .i64 ((rd_T35 l0 x6_1).f3.f1)) := (blk_cell BK105.out 7).trans rfl
  have hcz0_8 : w18.cell? ⟨gb105, 8, none⟩ = some (.slice A104_8 ((rd_T35 l0 x6_1).f3.f2).length c104_8) := (blk_cell BK105.out 8).trans rfl
  have hfz0_0 := blk_frozen BK105.out 0
  have hfz0_1 := blk_frozen BK105.out 1
  have hfz0_2 := blk_frozen BK105.out 2
  have hfz0_3 := blk_frozen BK105.out 3
  have hfz0_4 := blk_frozen BK105.out 4
  have hfz0_5 := blk_frozen BK105.out 5
  have hfz0_6 := blk_frozen BK105.out 6
  have hfz0_7 := blk_frozen BK105.out 7
  have hfz0_8 := blk_frozen BK105.out 8
  have c22b0 : (((rd_T35 l0 x6_1).f0) == 0) = true := beq_iff_eq.mpr c22
  have c22b1 : (((rd_T35 l0 x6_1).f0) != 0) = false := bne_eq_false_iff_eq.mpr c22
  clear c22; (first | rw [c22b0] | (simp only [i64_w, i32_w]; rw [c22b0]) | skip)
  have c27b0 : decide (60 ≤ (x4_1.length : Int)) = false := decide_eq_false c27
  have c27b1 : decide (60 ≤ x4_1.length) = false := decide_eq_false (by omega)
  clear c27; have HC37 := Aside0.mk H; clear H
  have hnb38 := NB105_102.out
  have hnc38 := NB102_105.out
  go_upto_region 23 with (first | ((with_reducible refine gate_callee (f := 9) rfl ?_); refine goesL_ (some 69) rfl rfl Try.func9 (by kernel_rfl) rfl #[.pointer (some ⟨g102, 0, none⟩), .agg #[.int .i64 ((rd_T35 l0 x6_1).f2.f0.f0), .int .i64 ((rd_T35 l0 x6_1).f2.f0.f1), .bool ((rd_T35 l0 x6_1).f2.f1), .bool ((rd_T35 l0 x6_1).f2.f2)]] rfl (by (try simp only [List.map_toArray, List.map_cons, List.map_nil]); first | done | rfl | (simp only [List.length_drop, List.length_take]; rfl)) ?_; (with_reducible refine (marks_Marks_Add.calls g102 x103000_1 ((rd_T35 l0 x6_1).f2.f0.f0) ((rd_T35 l0 x6_1).f2.f0.f1) ((rd_T35 l0 x6_1).f2.f1) ((rd_T35 l0 x6_1).f2.f2) t108 t109 t110 w _ ?side1 ?side2 A23.out).mono ?_); (case side1 => repeat (first | (with_reducible first | exact HI102.out | apply IsS90.alloc | apply IsS90.drewN | apply IsS90.drew | apply IsS90.set_0 | refine IsS90.far ?_ NB102_105.out (by repeat (first | exact Ty.mk BK105.out (by decide) | apply Ty.set)) _) | exact HI102.out)); (case side2 => repeat (first | (with_reducible first | exact HB.out | apply below_alloc | apply pw_below_drewN | apply below_drew1 | refine below_set ?_ (IsS90.ge HI102.out) | refine below_set ?_ GE105.out) | exact HB.out)); rintro e w40 ⟨rfl, hi, hb, hk⟩; refine ⟨_, rfl, ?_⟩; have n0_ := Aside0.mk (Kd.R_mono (R_keepM (IsS90.apart (show IsS90 w _ g102 x103000_1 from by repeat (first | (with_reducible first | exact HI102.out | apply IsS90.alloc | apply IsS90.drewN | apply IsS90.drew | apply IsS90.set_0 | refine IsS90.far ?_ NB102_105.out (by repeat (first | exact Ty.mk BK105.out (by decide) | apply Ty.set)) _) | exact HI102.out)) (rr_ (HO_4.out)) (by decide)) hk (fun _ h => h.2)) (fun _ h => h.1)); have n1_ := Aside0.mk (KeepM.blk hk (g' := gb105) (o := .cells #[.int .i64 ((rd_T35 l0 x6_1).f0), .int .i64 ((rd_T35 l0 x6_1).f1), .int .i64 ((rd_T35 l0 x6_1).f2.f0.f0), .int .i64 ((rd_T35 l0 x6_1).f2.f0.f1), .bool ((rd_T35 l0 x6_1).f2.f1), .bool ((rd_T35 l0 x6_1).f2.f2), .int .i64 ((rd_T35 l0 x6_1).f3.f0), .int .i64 ((rd_T35 l0 x6_1).f3.f1), .slice A104_8 ((rd_T35 l0 x6_1).f3.f2).length c104_8] 35 (0, 0)) (kb_ BK105.out) NB105_102.out (by simp)); have n2_ := Aside0.mk (hb); have n3_ := Aside0.mk (hi); clear HO_4; clear BK105; clear HB; clear HI102; have HO_4 := n0_; have BK105 := n1_; have HB := n2_; have HI102 := n3_; clear n0_ n1_ n2_ n3_; (try clear hb); (try clear hk); (try clear hi); have hcz41_0 : w40.cell? ⟨gb105, 0, none⟩ = some (.int .i64 ((rd_T35 l0 x6_1).f0)) := (blk_cell BK105.out 0).trans rfl; have hcz41_1 : w40.cell? ⟨gb105, 1, none⟩ = some (.int .i64 ((rd_T35 l0 x6_1).f1)) := (blk_cell BK105.out 1).trans rfl; have hcz41_2 : w40.cell? ⟨gb105, 2, none⟩ = some (.int .i64 ((rd_T35 l0 x6_1).f2.f0.f0)) := (blk_cell BK105.out 2).trans rfl; have hcz41_3 : w40.cell? ⟨gb105, 3, none⟩ = some (.int .i64 ((rd_T35 l0 x6_1).f2.f0.f1)) := (blk_cell BK105.out 3).trans rfl; have hcz41_4 : w40.cell? ⟨gb105, 4, none⟩ = some (.bool ((rd_T35 l0 x6_1).f2.f1)) := (blk_cell BK105.out 4).trans rfl; have hcz41_5 : w40.cell? ⟨gb105, 5, none⟩ = some (.bool ((rd_T35 l0 x6_1).f2.f2)) := (blk_cell BK105.out 5).trans rfl; have hcz41_6 : w40.cell? ⟨gb105, 6, none⟩ = some (.int .i64 ((rd_T35 l0 x6_1).f3.f0)) := (blk_cell BK105.out 6).trans rfl; have hcz41_7 : w40.cell? ⟨gb105, 7, none⟩ = some (.int .i64 ((rd_T35 l0 x6_1).f3.f1)) := (blk_cell BK105.out 7).trans rfl; have hcz41_8 : w40.cell? ⟨gb105, 8, none⟩ = some (.slice A104_8 ((rd_T35 l0 x6_1).f3.f2).length c104_8) := (blk_cell BK105.out 8).trans rfl; have hfz41_0 := blk_frozen BK105.out 0; have hfz41_1 := blk_frozen BK105.out 1; have hfz41_2 := blk_frozen BK105.out 2; have hfz41_3 := blk_frozen BK105.out 3; have hfz41_4 := blk_frozen BK105.out 4; have hfz41_5 := blk_frozen BK105.out 5; have hfz41_6 := blk_frozen BK105.out 6; have hfz41_7 := blk_frozen BK105.out 7; have hfz41_8 := blk_frozen BK105.out 8) | ((with_reducible refine gate_callee (f := 11) rfl ?_); refine goesL_ (some 74) rfl rfl Try.func11 (by kernel_rfl) rfl #[.agg #[.int .i64 ((rd_T35 l0 x6_1).f2.f0.f0), .int .i64 ((rd_T35 l0 x6_1).f2.f0.f1), .bool ((rd_T35 l0 x6_1).f2.f1), .bool ((rd_T35 l0 x6_1).f2.f2)], .int .i64 0] rfl (by (try simp only [List.map_toArray, List.map_cons, List.map_nil]); first | done | rfl | (simp only [List.length_drop, List.length_take]; rfl)) ?_; (with_reducible refine (styluslaw04_as.calls ((rd_T35 l0 x6_1).f2.f0.f0) ((rd_T35 l0 x6_1).f2.f0.f1) ((rd_T35 l0 x6_1).f2.f1) ((rd_T35 l0 x6_1).f2.f2) 0 t111 t112 t113 t114 t115 _ A24.out).mono ?_); rintro e w42 ⟨rfl, hb⟩; refine ⟨_, rfl, ?_⟩; have n0_ := Aside0.mk (Kd.R_below (rr_ HO_4.out) hb); have n1_ := Aside0.mk (IsS90.below (by repeat (first | (with_reducible first | exact HI102.out | apply IsS90.alloc | apply IsS90.drewN | apply IsS90.drew | apply IsS90.set_0 | refine IsS90.far ?_ NB102_105.out (by repeat (first | exact Ty.mk BK105.out (by decide) | apply Ty.set)) _) | exact HI102.out)) hb); have n2_ := Aside0.mk (blk_below (g := gb105) (o := .cells #[.int .i64 ((rd_T35 l0 x6_1).f0), .int .i64 ((rd_T35 l0 x6_1).f1), .int .i64 ((rd_T35 l0 x6_1).f2.f0.f0), .int .i64 ((rd_T35 l0 x6_1).f2.f0.f1), .bool ((rd_T35 l0 x6_1).f2.f1), .bool ((rd_T35 l0 x6_1).f2.f2), .int .i64 ((rd_T35 l0 x6_1).f3.f0), .int .i64 ((rd_T35 l0 x6_1).f3.f1), .slice A104_8 ((rd_T35 l0 x6_1).f3.f2).length c104_8] 35 (0, 0)) (kb_ BK105.out) hb); have n3_ := Aside0.mk (below_step (by repeat (first | (with_reducible first | exact HB.out | apply below_alloc | apply pw_below_drewN | apply below_drew1 | refine below_set ?_ (IsS90.ge HI102.out) | refine below_set ?_ GE105.out) | exact HB.out)) hb); clear HO_4; clear HI102; clear BK105; clear HB; have HO_4 := n0_; have HI102 := n1_; have BK105 := n2_; have HB := n3_; clear n0_ n1_ n2_ n3_; (try clear hb); (try clear hk); (try clear hi)) | ((with_reducible refine gate_callee (f := 10) rfl ?_); refine goesL_ (some 75) rfl rfl Try.func10 (by kernel_rfl) rfl #[.agg #[.int .i64 t111, .int .i64 t112, .bool t113, .bool t114, .int .i64 t115]] rfl (by (try simp only [List.map_toArray, List.map_cons, List.map_nil]); first | done | rfl | (simp only [List.length_drop, List.length_take]; rfl)) ?_; (with_reducible refine (stylusref04_May.calls t111 t112 t113 t114 t115 true _ A25.out).mono ?_); rintro e w43 ⟨rfl, hb⟩; refine ⟨_, rfl, ?_⟩; have n0_ := Aside0.mk (Kd.R_below (rr_ HO_4.out) hb); have n1_ := Aside0.mk (IsS90.below (by repeat (first | (with_reducible first | exact HI102.out | apply IsS90.alloc | apply IsS90.drewN | apply IsS90.drew | apply IsS90.set_0 | refine IsS90.far ?_ NB102_105.out (by repeat (first | exact Ty.mk BK105.out (by decide) | apply Ty.set)) _) | exact HI102.out)) hb); have n2_ := Aside0.mk (blk_below (g := gb105) (o := .cells #[.int .i64 ((rd_T35 l0 x6_1).f0), .int .i64 ((rd_T35 l0 x6_1).f1), .int .i64 ((rd_T35 l0 x6_1).f2.f0.f0), .int .i64 ((rd_T35 l0 x6_1).f2.f0.f1), .bool ((rd_T35 l0 x6_1).f2.f1), .bool ((rd_T35 l0 x6_1).f2.f2), .int .i64 ((rd_T35 l0 x6_1).f3.f0), .int .i64 ((rd_T35 l0 x6_1).f3.f1), .slice A104_8 ((rd_T35 l0 x6_1).f3.f2).length c104_8] 35 (0, 0)) (kb_ BK105.out) hb); have n3_ := Aside0.mk (below_step (by repeat (first | (with_reducible first | exact HB.out | apply below_alloc | apply pw_below_drewN | apply below_drew1 | refine below_set ?_ (IsS90.ge HI102.out) | refine below_set ?_ GE105.out) | exact HB.out)) hb); clear HO_4; clear HI102; clear BK105; clear HB; have HO_4 := n0_; have HI102 := n1_; have BK105 := n2_; have HB := n3_; clear n0_ n1_ n2_ n3_; (try clear hb); (try clear hk); (try clear hi)))
  (try simp only [Act.put, List.setIfInBounds_toArray, List.set_cons_zero, List.set_cons_succ])
  go_cut [100] (fun v100 wc => ∃ (kq : Nat) (x100_36 : Bool), v100 = .bool x100_36 ∧ Aside0 (lawP.j2 kq l0 x4_1 (wrap64 (x5_1 + 1)) x6_1 x100_36 t110 ((rd_T35 l0 x6_1).f0) ((rd_T35 l0 x6_1).f1) ((rd_T35 l0 x6_1).f2.f0.f0) ((rd_T35 l0 x6_1).f2.f0.f1) ((rd_T35 l0 x6_1).f2.f1) ((rd_T35 l0 x6_1).f2.f2) ((rd_T35 l0 x6_1).f3.f0) ((rd_T35 l0 x6_1).f3.f1) ((rd_T35 l0 x6_1).f3.f2) = some r) ∧ Aside0 (kq ≤ k1) ∧ Aside0 (Kd.R k42 42 wc w.heap.size (fun _ => True) (.slice Ao21 x4_1.length co21) x4_1) ∧ Aside0 (wc.heap[gb105]? = some (.cells #[.int .i64 ((rd_T35 l0 x6_1).f0), .int .i64 ((rd_T35 l0 x6_1).f1), .int .i64 ((rd_T35 l0 x6_1).f2.f0.f0), .int .i64 ((rd_T35 l0 x6_1).f2.f0.f1), .bool ((rd_T35 l0 x6_1).f2.f1), .bool ((rd_T35 l0 x6_1).f2.f2), .int .i64 ((rd_T35 l0 x6_1).f3.f0), .int .i64 ((rd_T35 l0 x6_1).f3.f1), (.slice A104_8 ((rd_T35 l0 x6_1).f3.f2).length c104_8)] 35 (0, 0))) ∧ Aside0 (IsS90 w wc g102 t110) ∧ Aside0 (Below w.heap.size w wc))
  case first =>
   have H := HC37.out
   clear HC37
   by_cases c44 : t108 = (wrap64 (x5_1 + 1))
   rotate_left
   · rw [if_neg c44] at H
     have c44b0 : (t108 == (wrap64 (x5_1 + 1))) = false := beq_eq_false_iff_ne.mpr c44
     have c44b1 : (t108 != (wrap64 (x5_1 + 1))) = true := bne_iff_ne.mpr c44
     (first | rw [c44b0] | (simp only [i64_w, i32_w]; rw [c44b0]) | skip); have H' := Aside0.mk H; clear H
     go_wp2
     go_meet
     case rel => exact ⟨_, (true), (by first | rfl | (simp; done) | (simp [*]; done)), H', ⟨by have := HK1.out; first | omega | exact Nat.le_refl _⟩, ⟨rr_ HO_4.out⟩, ⟨kb_ BK105.out⟩, ⟨by repeat (first | (with_reducible first | exact HI102.out | apply IsS90.alloc | apply IsS90.drewN | apply IsS90.drew | apply IsS90.set_0 | refine IsS90.far ?_ NB102_105.out (by repeat (first | exact Ty.mk BK105.out (by decide) | apply Ty.set)) _) | exact HI102.out)⟩, ⟨by repeat (first | (with_reducible first | exact HB.out | apply below_alloc | apply pw_below_drewN | apply below_drew1 | refine below_set ?_ (IsS90.ge HI102.out) | refine below_set ?_ GE105.out) | exact HB.out)⟩⟩
   rw [if_pos c44] at H
   have c44b0 : (t108 == (wrap64 (x5_1 + 1))) = true := beq_iff_eq.mpr c44
   have c44b1 : (t108 != (wrap64 (x5_1 + 1))) = false := bne_eq_false_iff_eq.mpr c44
   clear c44; (first | rw [c44b0] | (simp only [i64_w, i32_w]; rw [c44b0]) | skip); have H' := Aside0.mk H; clear H
   go_wp2
   go_meet
   case rel => exact ⟨_, ((t109 != 0)), (by first | rfl | (simp; done) | (simp [*]; done)), H', ⟨by have := HK1.out; first | omega | exact Nat.le_refl _⟩, ⟨rr_ HO_4.out⟩, ⟨kb_ BK105.out⟩, ⟨by repeat (first | (with_reducible first | exact HI102.out | apply IsS90.alloc | apply IsS90.drewN | apply IsS90.drew | apply IsS90.set_0 | refine IsS90.far ?_ NB102_105.out (by repeat (first | exact Ty.mk BK105.out (by decide) | apply Ty.set)) _) | exact HI102.out)⟩, ⟨by repeat (first | (with_reducible first | exact HB.out | apply below_alloc | apply pw_below_drewN | apply below_drew1 | refine below_set ?_ (IsS90.ge HI102.out) | refine below_set ?_ GE105.out) | exact HB.out)⟩⟩
  clear HC37; (try clear c22b0); (try clear c22b1); (try clear c26); (try clear c27b0); (try clear c27b1); (try clear c35); (try clear c35b0); (try clear c35b1); (try clear c36); (try clear c44); (try clear c44b0); (try clear c44b1); (try clear hcz32_0); (try clear hcz32_1); (try clear hcz32_2); (try clear hcz32_3); (try clear hcz32_4); (try clear hcz32_5); (try clear hcz32_6); (try clear hcz32_7); (try clear hcz32_8); (try clear hcz41_0); (try clear hcz41_1); (try clear hcz41_2); (try clear hcz41_3); (try clear hcz41_4); (try clear hcz41_5); (try clear hcz41_6); (try clear hcz41_7); (try clear hcz41_8); (try clear hfz32_0); (try clear hfz32_1); (try clear hfz32_2); (try clear hfz32_3); (try clear hfz32_4); (try clear hfz32_5); (try clear hfz32_6); (try clear hfz32_7); (try clear hfz32_8); (try clear hfz41_0); (try clear hfz41_1); (try clear hfz41_2); (try clear hfz41_3); (try clear hfz41_4); (try clear hfz41_5); (try clear hfz41_6); (try clear hfz41_7); (try clear hfz41_8); obtain ⟨kq, x100_36, rfl, HA, HJ36, HO_4, BK105, HI102, HB⟩ := hcut
  cases kq with
  | zero => exact absurd HA.out (by simp [lawP.j2])
  | succ kj36 =>
   have H := HA.out
   clear HA
   simp only [lawP.j2] at H
   by_cases c45 : x100_36 = true
   · subst c45
     have H1 : (none) = some r := by rw [if_pos rfl] at H; exact H
     clear H
     have H := H1
     clear H1; exact absurd H (by simp)
   replace c45 := Bool.eq_false_iff.mpr c45
   subst c45
   have H1 : ((some (([] : List (S42)) : List (S42))).bind fun y117 => (if y117.length + x4_1.length < 4398046511104 then ((some (y117 ++ x4_1 : List (S42))).bind fun y120 => ((styluslaw04_as.f ((rd_T35 l0 x6_1).f2.f0.f0) ((rd_T35 l0 x6_1).f2.f0.f1) ((rd_T35 l0 x6_1).f2.f1) ((rd_T35 l0 x6_1).f2.f2) (wrap64 (x5_1 + 1))).bind fun bt123 => (if y120.length < 4398046511104 then (lawP.j16 kj36 l0 (y120 ++ [(⟨bt123.1, bt123.2.1, bt123.2.2.1, bt123.2.2.2.1, bt123.2.2.2.2⟩ : S42)]) (wrap64 (x5_1 + 1)) x6_1 t110) else (none)))) else (none))) = some r := by rw [if_neg (show ¬ (false = true) by decide)] at H; exact H
   clear H
   have H := H1
   clear H1
   obtain ⟨y117, hy117⟩ : ∃ y_ : List (S42), y_ = (([] : List (S42))) := ⟨_, rfl⟩
   replace H : (if y117.length + x4_1.length < 4398046511104 then ((some (y117 ++ x4_1 : List (S42))).bind fun y120 => ((styluslaw04_as.f ((rd_T35 l0 x6_1).f2.f0.f0) ((rd_T35 l0 x6_1).f2.f0.f1) ((rd_T35 l0 x6_1).f2.f1) ((rd_T35 l0 x6_1).f2.f2) (wrap64 (x5_1 + 1))).bind fun bt123 => (if y120.length < 4398046511104 then (lawP.j16 kj36 l0 (y120 ++ [(⟨bt123.1, bt123.2.1, bt123.2.2.1, bt123.2.2.2.1, bt123.2.2.2.2⟩ : S42)]) (wrap64 (x5_1 + 1)) x6_1 t110) else (none)))) else (none)) = some r := by first | (rw [hy117]; with_reducible exact H) | (have H2_ := (Option.bind_some _ _).symm.trans H; rw [hy117]; with_reducible exact H2_) | (have H2_ := (Option.bind_some _ _).symm.trans H; with_reducible exact H2_) | with_reducible exact H | (rw [hy117]; exact H) | exact H
   have Ny117 := Aside0.mk hy117; clear hy117
   by_cases c46 : y117.length + x4_1.length < 4398046511104
   rotate_left
   · rw [if_neg c46] at H
     exact absurd H (by simp)
   rw [if_pos c46] at H; have LMc46 := Aside0.mk c46; clear c46
   obtain ⟨y120, hy120⟩ : ∃ y_ : List (S42), y_ = (y117 ++ x4_1) := ⟨_, rfl⟩
   replace H : ((styluslaw04_as.f ((rd_T35 l0 x6_1).f2.f0.f0) ((rd_T35 l0 x6_1).f2.f0.f1) ((rd_T35 l0 x6_1).f2.f1) ((rd_T35 l0 x6_1).f2.f2) (wrap64 (x5_1 + 1))).bind fun bt123 => (if y120.length < 4398046511104 then (lawP.j16 kj36 l0 (y120 ++ [(⟨bt123.1, bt123.2.1, bt123.2.2.1, bt123.2.2.2.1, bt123.2.2.2.2⟩ : S42)]) (wrap64 (x5_1 + 1)) x6_1 t110) else (none))) = some r := by first | (rw [hy120]; with_reducible exact H) | (have H2_ := (Option.bind_some _ _).symm.trans H; rw [hy120]; with_reducible exact H2_) | (have H2_ := (Option.bind_some _ _).symm.trans H; with_reducible exact H2_) | with_reducible exact H | (rw [hy120]; exact H) | exact H
   have Ny120 := Aside0.mk hy120; clear hy120
   replace H := Option.bind_eq_some_iff.mp H
   obtain ⟨⟨t123, t124, t125, t126, t127⟩, A470, H⟩ := H
   replace H : (if y120.length < 4398046511104 then (lawP.j16 kj36 l0 (y120 ++ [(⟨t123, t124, t125, t126, t127⟩ : S42)]) (wrap64 (x5_1 + 1)) x6_1 t110) else (none)) = some r := H
   have A47 := Aside0.mk A470; clear A470
   by_cases c48 : y120.length < 4398046511104
   rotate_left
   · rw [if_neg c48] at H
     exact absurd H (by simp)
   rw [if_pos c48] at H; have LMc48 := Aside0.mk c48; clear c48
   obtain ⟨y128, hy128⟩ : ∃ y_ : List (S42), y_ = (y120 ++ [(⟨t123, t124, t125, t126, t127⟩ : S42)]) := ⟨_, rfl⟩
   replace H : (lawP.j16 kj36 l0 y128 (wrap64 (x5_1 + 1)) x6_1 t110) = some r := by first | (rw [hy128]; with_reducible exact H) | (have H2_ := (Option.bind_some _ _).symm.trans H; rw [hy128]; with_reducible exact H2_) | (have H2_ := (Option.bind_some _ _).symm.trans H; with_reducible exact H2_) | with_reducible exact H | (rw [hy128]; exact H) | exact H
   have Ny128 := Aside0.mk hy128; clear hy128; have H' := Aside0.mk H; clear H
   try go_wp2
   have n0_ := Aside0.mk (Kd.R_drew HO_4.out)
   have n1_ := Aside0.mk (blk_drew BK105.out)
   have n2_ := Aside0.mk (IsS90.drew HI102.out)
   have n3_ := Aside0.mk (below_drew1 HB.out)
   clear HO_4 BK105 HI102 HB
   have HO_4 := n0_
   have BK105 := n1_
   have HI102 := n2_
   have HB := n3_
   clear n0_ n1_ n2_ n3_
   refine start_ (n := 10) (S := fun w' => w'.cell? ⟨gb105, 0, none⟩ = some (.int .i64 ((rd_T35 l0 x6_1).f0)) ∧ w'.cell? ⟨gb105, 1, none⟩ = some (.int .i64 ((rd_T35 l0 x6_1).f1)) ∧ w'.cell? ⟨gb105, 2, none⟩ = some (.int .i64 ((rd_T35 l0 x6_1).f2.f0.f0)) ∧ w'.cell? ⟨gb105, 3, none⟩ = some (.int .i64 ((rd_T35 l0 x6_1).f2.f0.f1)) ∧ w'.cell? ⟨gb105, 4, none⟩ = some (.bool ((rd_T35 l0 x6_1).f2.f1)) ∧ w'.cell? ⟨gb105, 5, none⟩ = some (.bool ((rd_T35 l0 x6_1).f2.f2)) ∧ w'.cell? ⟨gb105, 6, none⟩ = some (.int .i64 ((rd_T35 l0 x6_1).f3.f0)) ∧ w'.cell? ⟨gb105, 7, none⟩ = some (.int .i64 ((rd_T35 l0 x6_1).f3.f1)) ∧ w'.cell? ⟨gb105, 8, none⟩ = some (.slice A104_8 ((rd_T35 l0 x6_1).f3.f2).length c104_8)) (ds := []) #[false, false, false, false, false, false, false, false, false, false] (by kernel_rfl) rfl rfl ⟨(blk_cell BK105.out 0).trans rfl, (blk_cell BK105.out 1).trans rfl, (blk_cell BK105.out 2).trans rfl, (blk_cell BK105.out 3).trans rfl, (blk_cell BK105.out 4).trans rfl, (blk_cell BK105.out 5).trans rfl, (blk_cell BK105.out 6).trans rfl, (blk_cell BK105.out 7).trans rfl, (blk_cell BK105.out 8).trans rfl⟩ (fun hHeld => ?_); refine with_tabW lawP.tab25 lawP.bits25 (fun HT_ HW_ => ?_)
   generalize wc.drew = w49 at HO_4 BK105 HI102 HB hHeld ⊢
   refine q_ 1 (some 102) HT_.out ?_ (hQ := fun _ _ _ h_ => hQp _ _ _ _ _ h_)
   refine q_ 3 (some 104) HT_.out ?_ (hQ := fun _ _ _ h_ => hQp _ _ _ _ _ h_)
   refine q_ 5 (some 106) HT_.out ?_ (hQ := fun _ _ _ h_ => hQp _ _ _ _ _ h_)
   refine t_ 4 (some 105) HT_.out HW_.out hHeld ?_ (hQ := fun _ _ _ h_ => hQp _ _ _ _ _ h_)
   refine one_ (i := 0) (N := some 101) #[true, true, false, true, true, true, false, false, false, false] rfl rfl (one_of HT_.out (by kernel_rfl)) (by decide) (fun K hK => ?_)
   refine Kd.R_lit_step k42 _ 42 ?hg (N := 101) ?hd (xs := ([] : List (S42))) (inner := []) (ok := fun _ => True) (okp := fun _ => True) ?hr ?hp (fun _ hk => hk) trivial (Below.refl _ _) (Nat.le_refl _) (by simp) ?_; (case hd => rfl); (case hg => rfl); (case hr => first | (go_simp; done) | (go_simp; rfl)); (case hp => exact (Reps.none _ _))
   intro v118 w50 ho51 hb hg_ hnew_; clear hg_ hnew_; (first | rw [← Ny117.out] at ho51 | (simp only [Int.reduceToNat] at ho51; rw [← Ny117.out] at ho51))
   have n0_ := Aside0.mk (Kd.R_elder' (rr_ HO_4.out) (Kd.R_base ho51) hb)
   have n1_ := Aside0.mk (Kd.R_lower (Kd.R_new' ho51 (Kd.R_lt (rr_ HO_4.out))) (below_size (by repeat (first | (with_reducible first | exact HB.out | apply below_alloc | apply pw_below_drewN | apply below_drew1 | refine below_set ?_ (IsS90.ge HI102.out) | refine below_set ?_ GE105.out) | exact HB.out))))
   have n2_ := Aside0.mk (blk_below (g := gb105) (o := .cells #[.int .i64 ((rd_T35 l0 x6_1).f0), .int .i64 ((rd_T35 l0 x6_1).f1), .int .i64 ((rd_T35 l0 x6_1).f2.f0.f0), .int .i64 ((rd_T35 l0 x6_1).f2.f0.f1), .bool ((rd_T35 l0 x6_1).f2.f1), .bool ((rd_T35 l0 x6_1).f2.f2), .int .i64 ((rd_T35 l0 x6_1).f3.f0), .int .i64 ((rd_T35 l0 x6_1).f3.f1), .slice A104_8 ((rd_T35 l0 x6_1).f3.f2).length c104_8] 35 (0, 0)) (kb_ BK105.out) hb)
   have n3_ := Aside0.mk (IsS90.below (by repeat (first | (with_reducible first | exact HI102.out | apply IsS90.alloc | apply IsS90.drewN | apply IsS90.drew | apply IsS90.set_0 | refine IsS90.far ?_ NB102_105.out (by repeat (first | exact Ty.mk BK105.out (by decide) | apply Ty.set)) _) | exact HI102.out)) hb)
   have n4_ := Aside0.mk (below_step (by repeat (first | (with_reducible first | exact HB.out | apply below_alloc | apply pw_below_drewN | apply below_drew1 | refine below_set ?_ (IsS90.ge HI102.out) | refine below_set ?_ GE105.out) | exact HB.out)) hb)
   clear HO_4 BK105 HI102 HB
   have HO_4 := n0_
   have HO119 := n1_
   have BK105 := n2_
   have HI102 := n3_
   have HB := n4_
   clear n0_ n1_ n2_ n3_ n4_ hb ho51
   refine hK.out _ _ ⟨(blk_cell BK105.out 0).trans rfl, (blk_cell BK105.out 1).trans rfl, (blk_cell BK105.out 2).trans rfl, (blk_cell BK105.out 3).trans rfl, (blk_cell BK105.out 4).trans rfl, (blk_cell BK105.out 5).trans rfl, (blk_cell BK105.out 6).trans rfl, (blk_cell BK105.out 7).trans rfl, (blk_cell BK105.out 8).trans rfl⟩ (fun hHeld => ?_)
   clear hK K; refine norm_ (a' := ?_) ?_ ?_; rotate_left
   · show Act.put _ (some 101) _ = _
     simp only [Act.put, List.setIfInBounds_toArray, List.set_cons_zero, List.set_cons_succ, i64_w, i32_w]
     rfl
   refine one_ (i := 2) (N := some 103) #[true, true, true, true, true, true, false, false, false, false] rfl rfl (one_of HT_.out (by kernel_rfl)) (by decide) (fun K hK => ?_)
   refine Kd.R_append_rows_step k42 (w0 := w) w.heap.size (by rfl) (.tmp 101) (.tmp 102) 26 42 (.agg #[(.int .i64 0), (.int .i64 0), (.bool false), (.bool false), (.int .i64 0)]) 32 rfl Try.underlying26 info42 rfl (by decide) (by omega) v118 y117 x4_1 _ _ _ (fun k_ => some k_ ≠ (.slice Ao21 x4_1.length co21 : Value).ownBlock) (fun _ => False) rfl rfl ?aO ?aR (fun _ _ h => h) (fun _ h => h.elim) ?aF ?aB ?aS ?aL ?_
   (case aR => repeat (first | exact (Kd.R_reads' HO_4.out).2.2 | (with_reducible refine Kd.C_alloc ?_ _) | (with_reducible refine Kd.C_drewN ?_ _) | (with_reducible refine Kd.C_drew ?_))); (case aB => exact (by repeat (first | (with_reducible first | exact HB.out | apply below_alloc | apply pw_below_drewN | apply below_drew1 | refine below_set ?_ (IsS90.ge HI102.out) | refine below_set ?_ GE105.out) | exact HB.out))); (case aF => exact (fun k_ hk => Kd.fresh' (Kd.R_lt (rr_ HO_4.out)) k_ hk)); (case aO => exact (rr_ (Kd.R_mono HO119.out (fun _ hk => hk.2)))); (case aS => exact (below_size (by repeat (first | (with_reducible first | exact HB.out | apply below_alloc | apply pw_below_drewN | apply below_drew1 | refine below_set ?_ (IsS90.ge HI102.out) | refine below_set ?_ GE105.out) | exact HB.out)))); (case aL => have := LMc46.out; omega); intro v121 w52 ho hb hg hat; rw [← Ny120.out] at ho
   have n0_ := Aside0.mk (Kd.R_after (ok := (fun _ => True)) (rr_ HO_4.out) hg hat)
   have n1_ := Aside0.mk (blk_grown (g := gb105) (o := .cells #[.int .i64 ((rd_T35 l0 x6_1).f0), .int .i64 ((rd_T35 l0 x6_1).f1), .int .i64 ((rd_T35 l0 x6_1).f2.f0.f0), .int .i64 ((rd_T35 l0 x6_1).f2.f0.f1), .bool ((rd_T35 l0 x6_1).f2.f1), .bool ((rd_T35 l0 x6_1).f2.f2), .int .i64 ((rd_T35 l0 x6_1).f3.f0), .int .i64 ((rd_T35 l0 x6_1).f3.f1), .slice A104_8 ((rd_T35 l0 x6_1).f3.f2).length c104_8] 35 (0, 0)) (kb_ BK105.out) hg (Kd.R_ne HO119.out BK105.out (by decide)))
   have n2_ := Aside0.mk (IsS90.grown (by repeat (first | (with_reducible first | exact HI102.out | apply IsS90.alloc | apply IsS90.drewN | apply IsS90.drew | apply IsS90.set_0 | refine IsS90.far ?_ NB102_105.out (by repeat (first | exact Ty.mk BK105.out (by decide) | apply Ty.set)) _) | exact HI102.out)) hg (IsS90.own_ne HI102.out HO119.out (by decide)))
   have n3_ := Aside0.mk (hb)
   have n4_ := Aside0.mk (ho)
   clear HO_4 BK105 HI102 HB HO119
   have HO_4 := n0_
   have BK105 := n1_
   have HI102 := n2_
   have HB := n3_
   have HO122 := n4_
   clear n0_ n1_ n2_ n3_ n4_ ho hb hg hat
   refine hK.out _ _ ⟨(blk_cell BK105.out 0).trans rfl, (blk_cell BK105.out 1).trans rfl, (blk_cell BK105.out 2).trans rfl, (blk_cell BK105.out 3).trans rfl, (blk_cell BK105.out 4).trans rfl, (blk_cell BK105.out 5).trans rfl, (blk_cell BK105.out 6).trans rfl, (blk_cell BK105.out 7).trans rfl, (blk_cell BK105.out 8).trans rfl⟩ (fun hHeld => ?_)
   clear hK K; refine norm_ (a' := ?_) ?_ ?_; rotate_left
   · show Act.put _ (some 103) _ = _
     simp only [Act.put, List.setIfInBounds_toArray, List.set_cons_zero, List.set_cons_succ, i64_w, i32_w]
     rfl
   refine one_ (i := 6) (N := some 107) #[true, true, true, true, true, true, true, false, false, false] rfl rfl (one_of HT_.out (by kernel_rfl)) (by decide) (fun K hK => ?_)
   refine goes_ Try.func11 (by kernel_rfl) rfl #[.agg #[.int .i64 ((rd_T35 l0 x6_1).f2.f0.f0), .int .i64 ((rd_T35 l0 x6_1).f2.f0.f1), .bool ((rd_T35 l0 x6_1).f2.f1), .bool ((rd_T35 l0 x6_1).f2.f2)], .int .i64 (wrap64 (x5_1 + 1))] (by rfl) rfl rfl (by (try simp only [List.map_toArray, List.map_cons, List.map_nil]); first | done | rfl | (simp only [List.length_drop, List.length_take]; rfl)) ?_
   with_reducible refine (styluslaw04_as.calls ((rd_T35 l0 x6_1).f2.f0.f0) ((rd_T35 l0 x6_1).f2.f0.f1) ((rd_T35 l0 x6_1).f2.f1) ((rd_T35 l0 x6_1).f2.f2) (wrap64 (x5_1 + 1)) t123 t124 t125 t126 t127 _ A47.out).mono ?_
   rintro e w53 ⟨rfl, hb⟩
   refine ⟨_, rfl, ?_⟩
   have n0_ := Aside0.mk (Kd.R_below (rr_ HO_4.out) hb)
   have n1_ := Aside0.mk (Kd.R_below (rr_ HO122.out) hb)
   have n2_ := Aside0.mk (blk_below (g := gb105) (o := .cells #[.int .i64 ((rd_T35 l0 x6_1).f0), .int .i64 ((rd_T35 l0 x6_1).f1), .int .i64 ((rd_T35 l0 x6_1).f2.f0.f0), .int .i64 ((rd_T35 l0 x6_1).f2.f0.f1), .bool ((rd_T35 l0 x6_1).f2.f1), .bool ((rd_T35 l0 x6_1).f2.f2), .int .i64 ((rd_T35 l0 x6_1).f3.f0), .int .i64 ((rd_T35 l0 x6_1).f3.f1), .slice A104_8 ((rd_T35 l0 x6_1).f3.f2).length c104_8] 35 (0, 0)) (kb_ BK105.out) hb)
   have n3_ := Aside0.mk (IsS90.below (by repeat (first | (with_reducible first | exact HI102.out | apply IsS90.alloc | apply IsS90.drewN | apply IsS90.drew | apply IsS90.set_0 | refine IsS90.far ?_ NB102_105.out (by repeat (first | exact Ty.mk BK105.out (by decide) | apply Ty.set)) _) | exact HI102.out)) hb)
   have n4_ := Aside0.mk (below_step (by repeat (first | (with_reducible first | exact HB.out | apply below_alloc | apply pw_below_drewN | apply below_drew1 | refine below_set ?_ (IsS90.ge HI102.out) | refine below_set ?_ GE105.out) | exact HB.out)) hb)
   clear HO_4 HO122 BK105 HI102 HB
   have HO_4 := n0_
   have HO122 := n1_
   have BK105 := n2_
   have HI102 := n3_
   have HB := n4_
   clear n0_ n1_ n2_ n3_ n4_; (try clear hb); (try clear hk); (try clear hi)
   refine hK.out _ _ ⟨(blk_cell BK105.out 0).trans rfl, (blk_cell BK105.out 1).trans rfl, (blk_cell BK105.out 2).trans rfl, (blk_cell BK105.out 3).trans rfl, (blk_cell BK105.out 4).trans rfl, (blk_cell BK105.out 5).trans rfl, (blk_cell BK105.out 6).trans rfl, (blk_cell BK105.out 7).trans rfl, (blk_cell BK105.out 8).trans rfl⟩ (fun hHeld => ?_)
   clear hK K; refine norm_ (a' := ?_) ?_ ?_; rotate_left
   · show Act.put _ (some 107) _ = _
     simp only [Act.put, List.setIfInBounds_toArray, List.set_cons_zero, List.set_cons_succ, i64_w, i32_w]
     rfl
   refine one_ (i := 7) (N := some 108) #[true, true, true, true, true, true, true, true, false, false] rfl rfl (one_of HT_.out (by kernel_rfl)) (by decide) (fun K hK => ?_)
   refine value_ (w1 := ?_) (v := ?_) (by rfl) rfl ?_ ?_
   rotate_left 2
   · go_simp
     constructor
     · rfl
     rfl
   refine hK.out _ _ ⟨(blk_cell (blk_alloc BK105.out _) 0).trans rfl, (blk_cell (blk_alloc BK105.out _) 1).trans rfl, (blk_cell (blk_alloc BK105.out _) 2).trans rfl, (blk_cell (blk_alloc BK105.out _) 3).trans rfl, (blk_cell (blk_alloc BK105.out _) 4).trans rfl, (blk_cell (blk_alloc BK105.out _) 5).trans rfl, (blk_cell (blk_alloc BK105.out _) 6).trans rfl, (blk_cell (blk_alloc BK105.out _) 7).trans rfl, (blk_cell (blk_alloc BK105.out _) 8).trans rfl⟩ (fun hHeld => ?_)
   clear hK K; refine norm_ (a' := ?_) ?_ ?_; rotate_left
   · show Act.put _ (some 108) _ = _
     simp only [Act.put, List.setIfInBounds_toArray, List.set_cons_zero, List.set_cons_succ, i64_w, i32_w]
     rfl
   refine one_ (i := 8) (N := some 109) #[true, true, true, true, true, true, true, true, true, false] rfl rfl (one_of HT_.out (by kernel_rfl)) (by decide) (fun K hK => ?_)
   refine Kd.R_append_step k42 (w0 := w) w.heap.size (by rfl) (.tmp 103) (.tmp 108) 26 42 (.agg #[(.int .i64 0), (.int .i64 0), (.bool false), (.bool false), (.int .i64 0)]) 32 rfl Try.underlying26 info42 rfl (by decide) (by omega) v121 y120 (⟨t123, t124, t125, t126, t127⟩ : S42) [.int .i64 t123, .int .i64 t124, .bool t125, .bool t126, .int .i64 t127] (fun k_ => some k_ ≠ (.slice Ao21 x4_1.length co21 : Value).ownBlock) (fun _ => False) rfl rfl ?aP (fun _ hk => hk.elim) ?aF ?aO ?aB ?aS ?aL ?_
   (case aP => exact k42_mkM _ _ _ (⟨t123, t124, t125, t126, t127⟩ : S42)); (case aB => exact (by repeat (first | (with_reducible first | exact HB.out | apply below_alloc | apply pw_below_drewN | apply below_drew1 | refine below_set ?_ (IsS90.ge HI102.out) | refine below_set ?_ GE105.out) | exact HB.out))); (case aF => exact (fun k_ hk => Kd.fresh' (Kd.R_lt (rr_ HO_4.out)) k_ hk)); (case aO => exact (rr_ HO122.out)); (case aS => exact (below_size (by repeat (first | (with_reducible first | exact HB.out | apply below_alloc | apply pw_below_drewN | apply below_drew1 | refine below_set ?_ (IsS90.ge HI102.out) | refine below_set ?_ GE105.out) | exact HB.out)))); (case aL => have := LMc48.out; omega); intro v129 w54 ho hb hg hat; rw [← Ny128.out] at ho
   have n0_ := Aside0.mk (Kd.R_after (ok := (fun _ => True)) (rr_ HO_4.out) hg hat)
   have n1_ := Aside0.mk (blk_grown (g := gb105) (o := .cells #[.int .i64 ((rd_T35 l0 x6_1).f0), .int .i64 ((rd_T35 l0 x6_1).f1), .int .i64 ((rd_T35 l0 x6_1).f2.f0.f0), .int .i64 ((rd_T35 l0 x6_1).f2.f0.f1), .bool ((rd_T35 l0 x6_1).f2.f1), .bool ((rd_T35 l0 x6_1).f2.f2), .int .i64 ((rd_T35 l0 x6_1).f3.f0), .int .i64 ((rd_T35 l0 x6_1).f3.f1), .slice A104_8 ((rd_T35 l0 x6_1).f3.f2).length c104_8] 35 (0, 0)) (kb_ BK105.out) hg (Kd.R_ne HO122.out BK105.out (by decide)))
   have n2_ := Aside0.mk (IsS90.grown (by repeat (first | (with_reducible first | exact HI102.out | apply IsS90.alloc | apply IsS90.drewN | apply IsS90.drew | apply IsS90.set_0 | refine IsS90.far ?_ NB102_105.out (by repeat (first | exact Ty.mk BK105.out (by decide) | apply Ty.set)) _) | exact HI102.out)) hg (IsS90.own_ne HI102.out HO122.out (by decide)))
   have n3_ := Aside0.mk (hb)
   have n4_ := Aside0.mk (ho)
   clear HO_4 BK105 HI102 HB HO122
   have HO_4 := n0_
   have BK105 := n1_
   have HI102 := n2_
   have HB := n3_
   have HO130 := n4_
   clear n0_ n1_ n2_ n3_ n4_ ho hb hg hat
   refine hK.out _ _ ⟨(blk_cell BK105.out 0).trans rfl, (blk_cell BK105.out 1).trans rfl, (blk_cell BK105.out 2).trans rfl, (blk_cell BK105.out 3).trans rfl, (blk_cell BK105.out 4).trans rfl, (blk_cell BK105.out 5).trans rfl, (blk_cell BK105.out 6).trans rfl, (blk_cell BK105.out 7).trans rfl, (blk_cell BK105.out 8).trans rfl⟩ (fun hHeld => ?_)
   clear hK K; refine norm_ (a' := ?_) ?_ ?_; rotate_left
   · show Act.put _ (some 109) _ = _
     simp only [Act.put, List.setIfInBounds_toArray, List.set_cons_zero, List.set_cons_succ, i64_w, i32_w]
     rfl
   refine q_ 9 (some 4) HT_.out ?_ (hQ := fun _ _ _ h_ => hQp _ _ _ _ _ h_)
   refine done_ (done_of HT_.out (by kernel_rfl)) ?_
   try go_wp2
   go_meet
   case rel => exact ⟨_, (y128), ((wrap64 (x5_1 + 1))), (t110), (by first | rfl | (simp; done) | (simp [*]; done)), H', ⟨by have := HK1.out; have := HJ36.out; first | omega | exact Nat.le_refl _⟩, ⟨rr_ (Kd.R_mono HO130.out (fun _ hk => trivial))⟩, ⟨kb_ BK105.out⟩, ⟨by repeat (first | (with_reducible first | exact HI102.out | apply IsS90.alloc | apply IsS90.drewN | apply IsS90.drew | apply IsS90.set_0 | refine IsS90.far ?_ NB102_105.out (by repeat (first | exact Ty.mk BK105.out (by decide) | apply Ty.set)) _) | exact HI102.out)⟩, ⟨by repeat (first | (with_reducible first | exact HB.out | apply below_alloc | apply pw_below_drewN | apply below_drew1 | refine below_set ?_ (IsS90.ge HI102.out) | refine below_set ?_ GE105.out) | exact HB.out)⟩⟩
set_option maxRecDepth 100000 in
theorem lawP.sw0 {u0 u1 u2 u9 u10 u11 u12 u13 u14 u15 u16 u17 u18 u19 u20 u21 u22 u23 u24 u25 u26 u27 u28 u29 u30 u31 u32 u33 u34 u35 u36 u37 u38 u39 u40 u41 u42 u43 u44 u45 u46 u47 u48 u49 u50 u51 u52 u53 u54 u55 u56 u57 u58 u59 u60 u61 u63 u64 u65 u66 u67 u68 u69 u70 u71 u72 u73 u74 u75 u76 u77 u78 u79 u80 u81 u82 u83 u84 u85 u86 u87 u88 u89 u90 u91 u92 u93 u94 u95 u96 u97 u98 u99 u100 u101 u102 u103 u104 u105 u106 u107 u108 u109 u110 u111 u112 u113 u114 u115 u116 u117 u118 u119 u120 u121 u122 u123 u124 u125 u126 u127 u128 u129 u130 u131 u132 u133 u134 u135 u136 u137 u138 u139 u140 u141 u142 u143 u144 u145 u146 u147 u148 u149 u150 u151 u152 u153 u154 u155 u156 u157 u158 u159 u160 u161 u162 u163 u164 u165 u166 u167 u168 u169 u170 u171 u172 u173 u174 u175 u176 u177 u178 u179 u180 u181 u182 u183 u184 u185 u186 u187 u188 u189 u190 u191 u192 u193 u194 u195 u196 u197 u198 u199 u200 u201 u202 u203 u204 u205 u206 u207 u208 u209 u210 u211 u212 u213 u214 u215 u216 u217 u218 u219 u220 u221 u222 u223 u224 u225 u226 u227 u228 u229 u230 u231 u232 u233 u234 u235 u236 u237 u238 u239 u240 u241 u242 u243 u244 u245 u246 u247 u248 u249 u250 u251 u252 u253 u254 u255 u256 u257 u258 u259 u260 u261 u262 u263 u264 u265 u266 u267 u268 u269 u270 u271 u272 u273 u274 u275 u276 u277 u278 u279 u280 u281 u282 u283 u284 u285 u286 u287 u288 u289 u290 u291 u292 u293 u294 u295 u296 u297 u298 u299 u300 u301 u302 u303 u304 u305 u306 u307 u308 u309 u310 u311 u312 u313 u314 u315 u316 u317 u318 u319 u320 u321 u322 u323 u324 u325 u326 u327 u328 u329 u330 u331 u332 u333 u334 u335 u336 u337 u338 u339 u340 u341 u342 u343 u344 u345 u346 u347 u348 u349 u350 u351 u352 u353 u354 u355 u356 u357 u358 u359 u360 u361 u362 u363 u364 u365 u366 u367 u368 u369 u370 : Value} 
    {r : Bool} {w : World} {l0 : List (S35)} {g102 gb105 : Nat} {x4_1 : List (S42)} {x5_1 x6_1 t107 : Int} {x103000_1 : (List S94 × Int)} {k1 : Nat} {A104_8 : Option Addr} {c104_8 : Nat} {Ao21 : Option Addr} {co21 : Nat} {w18 : World} {J K' : Act → World → Prop} {Q' : Exit → Act → World → Prop}
    (HO_4 : Aside0 (Kd.R k42 42 w18 w.heap.size (fun _ => True) (.slice Ao21 x4_1.length co21) x4_1)) (HI102 : Aside0 (IsS90 w w18 g102 x103000_1)) (HB : Aside0 (Below w.heap.size w w18)) (BK105 : Aside0 (w18.heap[gb105]? = some (.cells #[.int .i64 ((rd_T35 l0 x6_1).f0), .int .i64 ((rd_T35 l0 x6_1).f1), .int .i64 ((rd_T35 l0 x6_1).f2.f0.f0), .int .i64 ((rd_T35 l0 x6_1).f2.f0.f1), .bool ((rd_T35 l0 x6_1).f2.f1), .bool ((rd_T35 l0 x6_1).f2.f2), .int .i64 ((rd_T35 l0 x6_1).f3.f0), .int .i64 ((rd_T35 l0 x6_1).f3.f1), (.slice A104_8 ((rd_T35 l0 x6_1).f3.f2).length c104_8)] 35 (0, 0)))) (GE105 : Aside0 (w.heap.size ≤ gb105)) (NB102_105 : Aside0 (g102 ≠ gb105)) (NB105_102 : Aside0 (gb105 ≠ g102)) (HR104_8 : Aside0 ((Kd.int .i32).C w A104_8 ((rd_T35 l0 x6_1).f3.f2).length ((rd_T35 l0 x6_1).f3.f2))) (HC104_8 : Aside0 (((rd_T35 l0 x6_1).f3.f2).length ≤ c104_8)) {k : Nat} (HK1 : Aside0 (k1 + 1 ≤ k))
     (c22 : ((rd_T35 l0 x6_1).f0) = 0)
    (H : ((marks_Marks_Add.f x103000_1 ((rd_T35 l0 x6_1).f2.f0.f0) ((rd_T35 l0 x6_1).f2.f0.f1) ((rd_T35 l0 x6_1).f2.f1) ((rd_T35 l0 x6_1).f2.f2)).bind fun bt108 => ((styluslaw04_as.f ((rd_T35 l0 x6_1).f2.f0.f0) ((rd_T35 l0 x6_1).f2.f0.f1) ((rd_T35 l0 x6_1).f2.f1) ((rd_T35 l0 x6_1).f2.f2) 0).bind fun bt111 => ((stylusref04_May.f bt111.1 bt111.2.1 bt111.2.2.1 bt111.2.2.2.1 bt111.2.2.2.2).bind fun t116 => (if t116 = true then (if (x4_1.length : Int) ≥ 60 then (if bt108.1 = 0 then (lawP.j1 k1 l0 x4_1 x5_1 x6_1 (bt108.2.1 != 3) bt108.2.2) else (lawP.j1 k1 l0 x4_1 x5_1 x6_1 true bt108.2.2)) else (if bt108.1 = (wrap64 (x5_1 + 1)) then (lawP.j2 k1 l0 x4_1 (wrap64 (x5_1 + 1)) x6_1 (bt108.2.1 != 0) bt108.2.2 ((rd_T35 l0 x6_1).f0) ((rd_T35 l0 x6_1).f1) ((rd_T35 l0 x6_1).f2.f0.f0) ((rd_T35 l0 x6_1).f2.f0.f1) ((rd_T35 l0 x6_1).f2.f1) ((rd_T35 l0 x6_1).f2.f2) ((rd_T35 l0 x6_1).f3.f0) ((rd_T35 l0 x6_1).f3.f1) ((rd_T35 l0 x6_1).f3.f2)) else (lawP.j2 k1 l0 x4_1 (wrap64 (x5_1 + 1)) x6_1 true bt108.2.2 ((rd_T35 l0 x6_1).f0) ((rd_T35 l0 x6_1).f1) ((rd_T35 l0 x6_1).f2.f0.f0) ((rd_T35 l0 x6_1).f2.f0.f1) ((rd_T35 l0 x6_1).f2.f1) ((rd_T35 l0 x6_1).f2.f2) ((rd_T35 l0 x6_1).f3.f0) ((rd_T35 l0 x6_1).f3.f1) ((rd_T35 l0 x6_1).f3.f2)))) else (if bt108.1 = 0 then (lawP.j3 k1 l0 x4_1 x5_1 x6_1 (bt108.2.1 != 1) bt108.2.2) else (lawP.j3 k1 l0 x4_1 x5_1 x6_1 true bt108.2.2)))))) = some r)
    (hJ : ∀ a' w', swR l0 g102 gb105 r w x6_1 t107 k1 A104_8 c104_8 u0 u1 u26 u27 u28 u29 u30 u31 u32 u33 u34 u35 u36 u37 u38 u39 u40 u370 a' w' → J a' w') (hK : ∀ a' w', Met J a' w' → K' a' w') (hQp : ∀ N v c a w', Q' (.panic c) (Act.put a N v) w' → Q' (.panic c) a w') :
    Code.wp Try.prog (.block 2 swBody) (Exit.then K' Q') ⟨#[u0, u1, u2, .pointer (some ⟨g102, 0, none⟩), .slice Ao21 x4_1.length co21, .int .i64 x5_1, .int .i64 x6_1, .pointer (some ⟨gb105, 0, none⟩), .int .i64 t107, u9, u10, u11, u12, u13, u14, u15, u16, u17, u18, u19, u20, u21, u22, u23, u24, u25, u26, u27, u28, u29, u30, u31, u32, u33, u34, u35, u36, u37, u38, u39, u40, u41, u42, u43, u44, u45, u46, u47, u48, u49, u50, u51, u52, u53, u54, u55, u56, u57, u58, u59, u60, u61, .int .i64 ((rd_T35 l0 x6_1).f0), u63, u64, u65, u66, u67, u68, u69, u70, u71, u72, u73, u74, u75, u76, u77, u78, u79, u80, u81, u82, u83, u84, u85, u86, u87, u88, u89, u90, u91, u92, u93, u94, u95, u96, u97, u98, u99, u100, u101, u102, u103, u104, u105, u106, u107, u108, u109, u110, u111, u112, u113, u114, u115, u116, u117, u118, u119, u120, u121, u122, u123, u124, u125, u126, u127, u128, u129, u130, u131, u132, u133, u134, u135, u136, u137, u138, u139, u140, u141, u142, u143, u144, u145, u146, u147, u148, u149, u150, u151, u152, u153, u154, u155, u156, u157, u158, u159, u160, u161, u162, u163, u164, u165, u166, u167, u168, u169, u170, u171, u172, u173, u174, u175, u176, u177, u178, u179, u180, u181, u182, u183, u184, u185, u186, u187, u188, u189, u190, u191, u192, u193, u194, u195, u196, u197, u198, u199, u200, u201, u202, u203, u204, u205, u206, u207, u208, u209, u210, u211, u212, u213, u214, u215, u216, u217, u218, u219, u220, u221, u222, u223, u224, u225, u226, u227, u228, u229, u230, u231, u232, u233, u234, u235, u236, u237, u238, u239, u240, u241, u242, u243, u244, u245, u246, u247, u248, u249, u250, u251, u252, u253, u254, u255, u256, u257, u258, u259, u260, u261, u262, u263, u264, u265, u266, u267, u268, u269, u270, u271, u272, u273, u274, u275, u276, u277, u278, u279, u280, u281, u282, u283, u284, u285, u286, u287, u288, u289, u290, u291, u292, u293, u294, u295, u296, u297, u298, u299, u300, u301, u302, u303, u304, u305, u306, u307, u308, u309, u310, u311, u312, u313, u314, u315, u316, u317, u318, u319, u320, u321, u322, u323, u324, u325, u326, u327, u328, u329, u330, u331, u332, u333, u334, u335, u336, u337, u338, u339, u340, u341, u342, u343, u344, u345, u346, u347, u348, u349, u350, u351, u352, u353, u354, u355, u356, u357, u358, u359, u360, u361, u362, u363, u364, u365, u366, u367, u368, u369, u370], []⟩ w18 := by
  replace H := Option.bind_eq_some_iff.mp H
  obtain ⟨⟨t108, t109, t110⟩, A230, H⟩ := H
  replace H : ((styluslaw04_as.f ((rd_T35 l0 x6_1).f2.f0.f0) ((rd_T35 l0 x6_1).f2.f0.f1) ((rd_T35 l0 x6_1).f2.f1) ((rd_T35 l0 x6_1).f2.f2) 0).bind fun bt111 => ((stylusref04_May.f bt111.1 bt111.2.1 bt111.2.2.1 bt111.2.2.2.1 bt111.2.2.2.2).bind fun t116 => (if t116 = true then (if (x4_1.length : Int) ≥ 60 then (if t108 = 0 then (lawP.j1 k1 l0 x4_1 x5_1 x6_1 (t109 != 3) t110) else (lawP.j1 k1 l0 x4_1 x5_1 x6_1 true t110)) else (if t108 = (wrap64 (x5_1 + 1)) then (lawP.j2 k1 l0 x4_1 (wrap64 (x5_1 + 1)) x6_1 (t109 != 0) t110 ((rd_T35 l0 x6_1).f0) ((rd_T35 l0 x6_1).f1) ((rd_T35 l0 x6_1).f2.f0.f0) ((rd_T35 l0 x6_1).f2.f0.f1) ((rd_T35 l0 x6_1).f2.f1) ((rd_T35 l0 x6_1).f2.f2) ((rd_T35 l0 x6_1).f3.f0) ((rd_T35 l0 x6_1).f3.f1) ((rd_T35 l0 x6_1).f3.f2)) else (lawP.j2 k1 l0 x4_1 (wrap64 (x5_1 + 1)) x6_1 true t110 ((rd_T35 l0 x6_1).f0) ((rd_T35 l0 x6_1).f1) ((rd_T35 l0 x6_1).f2.f0.f0) ((rd_T35 l0 x6_1).f2.f0.f1) ((rd_T35 l0 x6_1).f2.f1) ((rd_T35 l0 x6_1).f2.f2) ((rd_T35 l0 x6_1).f3.f0) ((rd_T35 l0 x6_1).f3.f1) ((rd_T35 l0 x6_1).f3.f2)))) else (if t108 = 0 then (lawP.j3 k1 l0 x4_1 x5_1 x6_1 (t109 != 1) t110) else (lawP.j3 k1 l0 x4_1 x5_1 x6_1 true t110))))) = some r := H
  have A23 := Aside0.mk A230; clear A230
  replace H := Option.bind_eq_some_iff.mp H
  obtain ⟨⟨t111, t112, t113, t114, t115⟩, A240, H⟩ := H
  replace H : ((stylusref04_May.f t111 t112 t113 t114 t115).bind fun t116 => (if t116 = true then (if (x4_1.length : Int) ≥ 60 then (if t108 = 0 then (lawP.j1 k1 l0 x4_1 x5_1 x6_1 (t109 != 3) t110) else (lawP.j1 k1 l0 x4_1 x5_1 x6_1 true t110)) else (if t108 = (wrap64 (x5_1 + 1)) then (lawP.j2 k1 l0 x4_1 (wrap64 (x5_1 + 1)) x6_1 (t109 != 0) t110 ((rd_T35 l0 x6_1).f0) ((rd_T35 l0 x6_1).f1) ((rd_T35 l0 x6_1).f2.f0.f0) ((rd_T35 l0 x6_1).f2.f0.f1) ((rd_T35 l0 x6_1).f2.f1) ((rd_T35 l0 x6_1).f2.f2) ((rd_T35 l0 x6_1).f3.f0) ((rd_T35 l0 x6_1).f3.f1) ((rd_T35 l0 x6_1).f3.f2)) else (lawP.j2 k1 l0 x4_1 (wrap64 (x5_1 + 1)) x6_1 true t110 ((rd_T35 l0 x6_1).f0) ((rd_T35 l0 x6_1).f1) ((rd_T35 l0 x6_1).f2.f0.f0) ((rd_T35 l0 x6_1).f2.f0.f1) ((rd_T35 l0 x6_1).f2.f1) ((rd_T35 l0 x6_1).f2.f2) ((rd_T35 l0 x6_1).f3.f0) ((rd_T35 l0 x6_1).f3.f1) ((rd_T35 l0 x6_1).f3.f2)))) else (if t108 = 0 then (lawP.j3 k1 l0 x4_1 x5_1 x6_1 (t109 != 1) t110) else (lawP.j3 k1 l0 x4_1 x5_1 x6_1 true t110)))) = some r := H
  have A24 := Aside0.mk A240; clear A240
  replace H := Option.bind_eq_some_iff.mp H
  obtain ⟨t116, A250, H⟩ := H
  replace H : (if t116 = true then (if (x4_1.length : Int) ≥ 60 then (if t108 = 0 then (lawP.j1 k1 l0 x4_1 x5_1 x6_1 (t109 != 3) t110) else (lawP.j1 k1 l0 x4_1 x5_1 x6_1 true t110)) else (if t108 = (wrap64 (x5_1 + 1)) then (lawP.j2 k1 l0 x4_1 (wrap64 (x5_1 + 1)) x6_1 (t109 != 0) t110 ((rd_T35 l0 x6_1).f0) ((rd_T35 l0 x6_1).f1) ((rd_T35 l0 x6_1).f2.f0.f0) ((rd_T35 l0 x6_1).f2.f0.f1) ((rd_T35 l0 x6_1).f2.f1) ((rd_T35 l0 x6_1).f2.f2) ((rd_T35 l0 x6_1).f3.f0) ((rd_T35 l0 x6_1).f3.f1) ((rd_T35 l0 x6_1).f3.f2)) else (lawP.j2 k1 l0 x4_1 (wrap64 (x5_1 + 1)) x6_1 true t110 ((rd_T35 l0 x6_1).f0) ((rd_T35 l0 x6_1).f1) ((rd_T35 l0 x6_1).f2.f0.f0) ((rd_T35 l0 x6_1).f2.f0.f1) ((rd_T35 l0 x6_1).f2.f1) ((rd_T35 l0 x6_1).f2.f2) ((rd_T35 l0 x6_1).f3.f0) ((rd_T35 l0 x6_1).f3.f1) ((rd_T35 l0 x6_1).f3.f2)))) else (if t108 = 0 then (lawP.j3 k1 l0 x4_1 x5_1 x6_1 (t109 != 1) t110) else (lawP.j3 k1 l0 x4_1 x5_1 x6_1 true t110))) = some r := H
  have A25 := Aside0.mk A250; clear A250
  by_cases c26 : t116 = true
  · subst c26
    rw [if_pos rfl] at H
    by_cases c27 : (x4_1.length : Int) ≥ 60
    · rw [if_pos c27] at H
      exact lawP.sw0b HO_4 HI102 HB BK105 GE105 NB102_105 NB105_102 HR104_8 HC104_8 HK1 c22 A23 A24 A25 c27 H hJ hK hQp
    · rw [if_neg c27] at H
      exact lawP.sw0c HO_4 HI102 HB BK105 GE105 NB102_105 NB105_102 HR104_8 HC104_8 HK1 c22 A23 A24 A25 c27 H hJ hK hQp
  · replace c26 := Bool.eq_false_iff.mpr c26
    subst c26
    rw [if_neg (show ¬ (false = true) by decide)] at H
    exact lawP.sw0a HO_4 HI102 HB BK105 GE105 NB102_105 NB105_102 HR104_8 HC104_8 HK1 c22 A23 A24 A25 H hJ hK hQp
end Go.Proofs.Ythbdiambigfgdae.PMarksPlay
